/- Texts of this claim, put together: what no text names is left out (wip/x/prune.py). -/
import Derived.Test.YtpcbhghgommijaaPTableBack5
import Derived.Deep.RegionLawGrows
import Derived.Deep.MidRow
import Derived.ChangeKeysEq
section
namespace Go.Proofs.Ytpcbhghgommijaa.XFn
open Go.RowKit Go.Proofs.YtpcbhghgommijaaW.PrintWords Go.Proofs.YtpcbhghgommijaaW.PrintLast
variable {P : Program} {ops : Array Oper} {Q : Exit → Act → World → Prop}
theorem gate_calleeV {o : Oper} {rest : List Oper} {a : Act} {W : World} {t : Tmp} {ars : Array Operand} {ts : Array TypeId} (_ho : o.op = .call { callee := .value (.tmp t), args := ars, argTypes := ts }) (h : wpList P ops Q (o :: rest) a W) : wpList P ops Q (o :: rest) a W := h
theorem goesV_ {rest : List Oper} {oi : Oper} {a : Act} {w : World} (N : Option Tmp) (hd : oi.dst = N) (hg : oi.guard = none) {f : FuncId} {fn : Func} {x : Operand} {ars : Array Operand} {ts : Array TypeId} (hf : P.funcs[f]? = some fn) (hname : (fn.name == "runtime.NumGoroutine") = false) (hb : fn.body.isSome = true) (args : Array Value)
    (hop : oi.op = .call { callee := .value x, args := ars, argTypes := ts }) (hargs : ars.map a.eval = args)
    (h : Calls P f args w fun e w' => ∃ v, e = .returned v ∧ wpList P ops Q rest (a.put N v) w') (hx : a.eval x = .func (.func f) #[] #[] := by rfl) : wpList P ops Q (oi :: rest) a w := by
  refine wpList_plain hg fun K hK => ?_
  have he := enters_ hf hname hb args w
  have hrun : (execOp a.eval oi).run P w = .ok (.enter f args) w := by
    unfold execOp
    simp [hop, resolve, Deferred.ofValue, invoke, hx, hargs, he]
  unfold Oper.wp
  rw [hrun, Oper.upon_enter]
  refine h.mono fun e w'' hh => ?_
  obtain ⟨v, rfl, hk⟩ := hh
  subst hd
  exact hK _ _ hk
theorem slice_all {n s : Nat} (t : TypeId) (ht : P.underlying t = some (.array (P.arrayLen t) (P.elem t))) (hl : P.arrayLen t = n) (hz : ∀ W : World, (sizeOf (P.elem t)).run P W = .ok s W) (W : World) (b : Nat) :
    (Instr.sliceAt t (.pointer (some ⟨b, 0, none⟩)) none none none).run P W = .ok (.slice (some ⟨b, 0, none⟩) n n) W := by
  rw [run_sliceAt_array_all W t ⟨b, 0, none⟩ ht, hz, hl]
  simp only [Result.andThen, slicedAt]
  by_cases h0 : n = 0
  · subst h0; rfl
  · simp [Addr.add]
theorem rowN {W : World} {g : Nat} {t : TypeId} {l : List Int} (h : W.heap[g]? = some (.cells (l.map (Value.int .u8)).toArray t (0, 0))) (hm : l.length ≤ 9223372036854775807) : Kd.C (Kd.int .u8) W (some ⟨g, 0, none⟩) l.length l := by
  refine ⟨rfl, hm, fun hn => ⟨_, rfl, fun j p hj => ⟨[.int .u8 p], rfl, rfl, fun i u hu => ?_⟩⟩⟩
  have h0 : i = 0 := by
    have := (List.getElem?_eq_some_iff.1 hu).1
    simp at this
    omega
  subst h0
  obtain rfl : Value.int .u8 p = u := by simpa using hu
  have hc : (l.map (Value.int .u8)).toArray[j]? = some (Value.int .u8 p) := by simp [hj]
  show W.cell? (Addr.add _ (j * 1 + 0)) = _
  have : W.cell? ⟨g, j, none⟩ = some (Value.int .u8 p) := by
    simp only [World.cell?, h]
    simpa using hc
  rw [← this]
  by_cases hj0 : j = 0 <;> simp [Addr.add, hj0]
theorem row4 {W : World} {g : Nat} {t : TypeId} {a b c d : Int} (h : W.heap[g]? = some (.cells #[.int .u8 a, .int .u8 b, .int .u8 c, .int .u8 d] t (0, 0))) : Kd.C (Kd.int .u8) W (some ⟨g, 0, none⟩) 4 [a, b, c, d] := rowN (l := [a, b, c, d]) h (by simp)
theorem cells_of {W : World} {A : Option Addr} {n : Nat} {l : List Int} (h : Kd.C (Kd.int .u8) W A n l) (hn : 0 < n) : ∃ ad, A = some ad ∧ ∀ j u, (l.map (Value.int .u8))[j]? = some u → W.cell? (ad.add j) = some u := by
  obtain ⟨ad, he, hc⟩ := h.2.2 hn
  refine ⟨ad, he, fun j u hu => ?_⟩
  rw [List.getElem?_map] at hu
  obtain ⟨p, hp, rfl⟩ := Option.map_eq_some_iff.1 hu
  obtain ⟨c, hl, hk, hcell⟩ := hc j p hp
  have hk' : c = [Value.int .u8 p] := hk
  subst hk'
  have := hcell 0 _ rfl
  rwa [show j * (Kd.int .u8).sz + 0 = j from by show j * 1 + 0 = j; omega] at this
theorem append_full_step {w0 W : World} {o : Oper} {a : Act} {K : Act → World → Prop} {E : Prop} (base : Nat) (hg : o.guard = none) (s x : Operand) (t e : TypeId)
    (hop : o.op = Op.call { callee := Callee.builtin Builtin.append, args := #[s, x], argTypes := #[t, t] }) (ht : P.underlying t = some (.slice e)) (hinfo : (P.info? e).map (fun i => (i.zero, i.size, i.bytes)) = some (some (.int .u8 0), 1, 1))
    (b : Addr) (n : Nat) (xs ys : List Int) (ok : Nat → Prop) {A : Option Addr} {m c : Nat} (hs : a.eval s = .slice (some b) n n) (hx : a.eval x = .slice A m c)
    (HX : Kd.C (Kd.int .u8) W (some b) n xs) (HY : Kd.C (Kd.int .u8) W A m ys) (hm : 0 < m) (hfresh : ∀ k, W.heap.size ≤ k → ok k) (HB : Below base w0 W) (hbase : base ≤ W.heap.size) (hl : (n + m) * 1 ≤ 140737488355328)
    (h : ∀ v1 w1, Kd.R (Kd.int .u8) e w1 base ok v1 (xs ++ ys) → Below base w0 w1 → W.grownBy w1 (Value.slice none 0 0).ownBlock → (v1.ownBlock = (Value.slice none 0 0).ownBlock ∨ ∃ bb, v1.ownBlock = some bb ∧ W.heap.size ≤ bb) → K (a.put o.dst v1) w1) :
    if Region.wanted o (yielded ops a.tmps) = true then Oper.wp P o a W K Q else E := by
  obtain ⟨i0, hi, hzz⟩ := Option.map_eq_some_iff.1 hinfo
  simp only [Prod.mk.injEq] at hzz
  obtain ⟨hz0, hz1, hz2⟩ := hzz
  obtain ⟨ad, rfl, hy⟩ := cells_of HY hm
  have hxl : xs.length = n := HX.1
  have hyl : ys.length = m := HY.1
  refine step_append_grows hg s x t hop e i0 (.int .u8 0) 1 1 ht hi hz0 hz1 hz2 rfl (by omega) (some b) n n (xs.map (Value.int .u8)) hs (fun h => by cases h) (by simp [hxl]) (fun b' hb' j u hu => ?_) ad m c (ys.map (Value.int .u8)) hx (by simp [hyl]) hy ?_ (by omega) (by simp only [maxLen]; omega) hl ?_
  · cases hb'
    by_cases hn : 0 < n
    · obtain ⟨ad', he, hc⟩ := cells_of HX hn
      cases he
      exact hc j u hu
    · have : xs = [] := List.eq_nil_of_length_eq_zero (by omega)
      subst this
      simp at hu
  · intro u hu
    obtain ⟨p, _, rfl⟩ := List.mem_map.1 hu
    rfl
  · intro v' w' hown hgr
    have hgr' : W.grownBy w' (Value.slice none 0 0).ownBlock := hgr
    rw [← List.map_append] at hown
    have hblk : ∃ bb, v'.ownBlock = some bb ∧ W.heap.size ≤ bb := by
      rcases hown.2 with ⟨_, h0⟩ | ⟨g, cap, cur, hv, hg', _⟩
      · have := hown.1
        omega
      · subst hv
        exact ⟨g, by simp [Value.ownBlock], hg'⟩
    have hlen : n + m = (xs ++ ys).length := by simp [hxl, hyl]
    rw [hlen] at hown
    have ho := Kd.R_of_own (enc := Value.int .u8) (h1 := fun _ => rfl) (ok := ok) (own_weaken hown hbase) (fun k hk => by
      obtain ⟨bb, hb1, hb2⟩ := hblk
      rw [hb1] at hk
      cases hk
      exact hfresh _ hb2)
    exact h v' w' ho (HB.grown hgr' hbase (by intro k hk; cases hk)) hgr' (.inr hblk)
theorem eq_u8 (W : World) (d : Nat) {e : TypeId} {k : IntKind} (he : P.underlying e = some (.int k)) (a b : Int) : (Op.equalIn (d + 1) e (.int .u8 a) (.int .u8 b)).run P W = .ok (a == b) W := by
  simp [Op.equalIn, Sem.run_bind, run_underlying he]
theorem part_u8 (W : World) {e : TypeId} {k : IntKind} (he : P.underlying e = some (.int k)) (x : Array Value) (j : Nat) (v : Value) (h : x[j]? = some v) : (part e x (j * 1)).run P W = .ok v W := by
  have hagg : (isAgg e).run P W = .ok false W := by
    unfold isAgg
    rw [Sem.run_bind, run_underlying he W]
    rfl
  unfold part
  rw [Sem.run_bind, hagg, Nat.mul_one, h]
  rfl
theorem items_u8 (W : World) (d : Nat) {e : TypeId} {k : IntKind} (he : P.underlying e = some (.int k)) (xs ys : Array Value) (j : Nat) (is : List Nat) (a b : Int) (r : Bool) (hx : xs[j]? = some (.int .u8 a)) (hy : ys[j]? = some (.int .u8 b))
    (h : (Op.eqItems (d + 1) e 1 xs ys is).run P W = .ok r W) : (Op.eqItems (d + 1) e 1 xs ys (j :: is)).run P W = .ok (a == b && r) W := by
  simp only [Op.eqItems, Sem.run_bind, part_u8 W he xs j _ hx, part_u8 W he ys j _ hy, Result.andThen_ok, eq_u8 W d he]
  cases a == b
  · simp
  · simpa using h
theorem eqA4 (W : World) (d : Nat) {t e : TypeId} {k : IntKind} (ht : P.underlying t = some (.array 4 e)) (he : P.underlying e = some (.int k)) (hi : (P.info? e).isSome = true) (hc : P.cellsOf e = 1) (a0 a1 a2 a3 b0 b1 b2 b3 : Int) :
    (Op.equalIn (d + 2) t (.agg #[.int .u8 a0, .int .u8 a1, .int .u8 a2, .int .u8 a3]) (.agg #[.int .u8 b0, .int .u8 b1, .int .u8 b2, .int .u8 b3])).run P W = .ok (a0 == b0 && (a1 == b1 && (a2 == b2 && (a3 == b3 && true)))) W := by
  obtain ⟨i, hi⟩ := Option.isSome_iff_exists.1 hi
  rw [run_equalIn_array W (d + 1) _ _ ht hi, hc, show List.range 4 = [0, 1, 2, 3] from rfl]
  refine items_u8 W d he _ _ 0 _ a0 b0 _ rfl rfl (items_u8 W d he _ _ 1 _ a1 b1 _ rfl rfl (items_u8 W d he _ _ 2 _ a2 b2 _ rfl rfl (items_u8 W d he _ _ 3 _ a3 b3 _ rfl rfl ?_)))
  simp [Op.eqItems]
theorem run_arrayAt {W : World} {arr e : TypeId} {n : Nat} (ht : P.underlying arr = some (.array n e)) (A : Option Addr) (len c : Nat) (h : n ≤ len) : (Instr.arrayAt arr (.slice A len c)).run P W = .ok (.pointer A) W := by
  unfold Instr.arrayAt
  rw [Sem.run_bind, run_underlying ht W]
  simp [show ¬ len < n by omega]
end Go.Proofs.Ytpcbhghgommijaa.XFn
end
section
namespace Go.Proofs.Ytpcbhghgommijaa.X
open Go.RowKit Go.Proofs.YtpcbhghgommijaaW.PrintWords Go.Proofs.YtpcbhghgommijaaW.PrintLast Go.Proofs.YtpcbhghgommijaaW.PrintMore
attribute [local go_sem] max2_int min2_int max_two min_two max_three min_three max_four min_four
set_option linter.unusedVariables false
set_option linter.unusedSimpArgs false
open Go.Proofs.Ytpcbhghgommijaa.XMac
def caesurakeep_LargeLists.l0 : Nat → List (List Int) → Int → Int → Int → Option (Bool)
 | 0, _, _, _, _ => none
 | k + 1, x0, x1, x5, x6 => if x6 < (x0.length : Int) then (if x5 ≤ x1 then (if 0 ≤ x6 then (caesurakeep_LargeLists.l0 k x0 x1 (wrap64 (x5 + (wrap64 (1 + (mn ((rd_L1 x0 x6).length : Int) x1))))) (wrap64 (x6 + 1))) else (none)) else (some (decide (x5 > x1)))) else (some (decide (x5 > x1)))
def caesurakeep_LargeLists.f (k : Nat) (l0 : List (List Int)) (a1 : Int) : Option (Bool) := caesurakeep_LargeLists.l0 k l0 a1 0 0
theorem caesurakeep_LargeLists.mono_l : ∀ k, (∀ y0 y1 y2 y3, LeO (caesurakeep_LargeLists.l0 k y0 y1 y2 y3) (caesurakeep_LargeLists.l0 (k + 1) y0 y1 y2 y3))
 | 0 => fun _ _ _ _ r h => by simp [caesurakeep_LargeLists.l0] at h
 | k + 1 => by
  have ih0 := caesurakeep_LargeLists.mono_l k
  ·intro y0 y1 y2 y3
   unfold caesurakeep_LargeLists.l0
   repeat' first
   | (with_reducible exact ih0 _ _ _ _)
   | (with_reducible exact LeO.refl _)
   | (with_reducible exact LeO.none _)
   | (with_reducible refine LeO.ite ?_ ?_)
   | (with_reducible refine LeO.bind ?_ (fun _ => ?_))
   | exact ih0 _ _ _ _
   | exact LeO.none _
   | refine LeO.ite ?_ ?_
   | refine LeO.bind ?_ (fun _ => ?_)
theorem caesurakeep_LargeLists.mono : ∀ a0 a1 k, LeO (caesurakeep_LargeLists.f k a0 a1) (caesurakeep_LargeLists.f (k + 1) a0 a1) := by
 intro a0 a1 k
 have ih0 := caesurakeep_LargeLists.mono_l k
 unfold caesurakeep_LargeLists.f
 repeat' first
   | (with_reducible exact ih0 _ _ _ _)
   | (with_reducible exact LeO.refl _)
   | (with_reducible exact LeO.none _)
   | (with_reducible refine LeO.ite ?_ ?_)
   | (with_reducible refine LeO.bind ?_ (fun _ => ?_))
   | exact ih0 _ _ _ _
   | exact LeO.none _
   | refine LeO.ite ?_ ?_
   | refine LeO.bind ?_ (fun _ => ?_)
set_option maxHeartbeats 8000000 in
set_option maxRecDepth 100000 in
theorem caesurakeep_LargeLists.calls (k : Nat) (A0 : Option Addr) (c0 : Nat) (l0 : List (List Int)) (a1 : Int) (r : Bool) (w : World) (hr0 : Kd.C (Kd.slice 3 (Kd.int .i64)) w A0 l0.length l0) (hc0 : l0.length ≤ c0) (h : caesurakeep_LargeLists.f k l0 a1 = some r) :
  Calls Try.prog 23 #[.slice A0 l0.length c0, .int .i64 a1] w fun e w' => e = .returned (.bool r) ∧ Below w.heap.size w w' := by
 have HR0 := Aside0.mk hr0
 have HC0 := Aside0.mk hc0
 clear hr0 hc0
 have HB := Aside0.mk (Below.refl w.heap.size w)
 have H : (caesurakeep_LargeLists.l0 k l0 a1 0 0) = some r := h
 clear h
 have H' := Aside0.mk H
 clear H
 go_enter Try.func23, Try.ntmps23
 go_wp2
 go_loopg [5, 6] k (fun kq v5 v6 w' => ∃ (x5_1 : Int) (x6_1 : Int), v5 = .int .i64 x5_1 ∧ v6 = .int .i64 x6_1 ∧ Aside0 (caesurakeep_LargeLists.l0 kq l0 a1 x5_1 x6_1 = some r) ∧ Aside0 (kq ≤ k) ∧ Aside0 (Below w.heap.size w w'))
 case atStart => exact ⟨(0), (0), (by xrs_), (by xrs_), H', ⟨Nat.le_refl _⟩, ⟨by repeat (first | (with_reducible first | exact HB.out | apply below_alloc | apply pw_below_drewN | apply below_drew1) | exact HB.out)⟩⟩
 case round =>
  clear H'
  xcl_ c2 p2
  obtain ⟨x5_1, x6_1, rfl, rfl, HA, HK1, HB⟩ := hrel
  cases gk with
  | zero => exact absurd HA.out (by simp [caesurakeep_LargeLists.l0])
  | succ k1 =>
   have H := HA.out
   clear HA
   simp only [caesurakeep_LargeLists.l0] at H
   by_cases c3 : x6_1 < (l0.length : Int)
   ·rw [if_pos c3] at H
    have c3b0 : decide (x6_1 < (l0.length : Int)) = true := decide_eq_true c3
    clear c3
    by_cases c4 : x5_1 ≤ a1
    ·rw [if_pos c4] at H
     have c4b0 : decide (x5_1 ≤ a1) = true := decide_eq_true c4
     clear c4
     by_cases c5 : 0 ≤ x6_1
     ·rw [if_pos c5] at H
      have c5b0 : decide (0 ≤ x6_1) = true := decide_eq_true c5
      clear c5
      obtain ⟨ji6, hji6⟩ : ∃ j_ : Int, (mn ((rd_L1 l0 x6_1).length : Int) a1) = j_ := ⟨_, rfl⟩
      replace H : (caesurakeep_LargeLists.l0 k1 l0 a1 (wrap64 (x5_1 + (wrap64 (1 + (ji6))))) (wrap64 (x6_1 + 1))) = some r := by first | (rw [hji6] at H; exact H) | (simp only [hji6] at H ⊢; exact H)
      have hji6_ : (if a1 < ((rd_L1 l0 x6_1).length : Int) then a1 else ((rd_L1 l0 x6_1).length : Int)) = ji6 := hji6
      have H' := Aside0.mk H
      clear H
      have p101 : 0 ≤ (x6_1 : Int) := of_decide_eq_true (by xas_)
      have q101 : x6_1 < (l0.length : Int) := of_decide_eq_true (by xas_)
      obtain ⟨ad101, A101_0, c101_0, e101, hx101_0, hl101_0, hi101_0⟩ := at_L1 HR0.out x6_1 p101 q101
      cases e101
      replace hx101_0 := (HB.out.cell (World.block_lt_of_cell? w _ hx101_0)).trans hx101_0
      have HR101_0 := Aside0.mk hi101_0
      have HC101_0 := Aside0.mk hl101_0
      clear hi101_0 hl101_0
      replace p101 := eq_true p101
      replace q101 := eq_true q101
      go_wp2
      go_roundg k1
      case measure => have := HK1.out; omega
      case rel => exact ⟨(wrap64 (x5_1 + (wrap64 (1 + (ji6))))), (wrap64 (x6_1 + 1)), (by first | rfl | (simp; done) | (simp only [← hji6] <;> (first | rfl | simp)) | (simp [*]; done)), (by xrs_), H', ⟨by have := HK1.out; omega⟩, ⟨by repeat (first | (with_reducible first | exact HB.out | apply below_alloc | apply pw_below_drewN | apply below_drew1) | exact HB.out)⟩⟩
     ·rw [if_neg c5] at H
      exact absurd H (by simp)
    ·rw [if_neg c4] at H
     have c4b0 : decide (x5_1 ≤ a1) = false := decide_eq_false c4
     clear c4
     obtain rfl := Option.some.inj H
     go_wp2
     go_ret
     exact ⟨by first | rfl | (simp [errW_none, errW_some] <;> rfl) | (simp [*, errW_none, errW_some] <;> rfl), by repeat (first | (with_reducible first | exact HB.out | apply below_alloc | apply pw_below_drewN | apply below_drew1) | exact HB.out)⟩
   ·rw [if_neg c3] at H
    have c3b0 : decide (x6_1 < (l0.length : Int)) = false := decide_eq_false c3
    clear c3
    obtain rfl := Option.some.inj H
    go_wp2
    go_ret
    exact ⟨by first | rfl | (simp [errW_none, errW_some] <;> rfl) | (simp [*, errW_none, errW_some] <;> rfl), by repeat (first | (with_reducible first | exact HB.out | apply below_alloc | apply pw_below_drewN | apply below_drew1) | exact HB.out)⟩
def caesuralaw06_Large.f (k : Nat) (a0_0 : Int) (l0_1 : List (S52)) (l0_2 : List (List Int)) (l0_3 : List Bool) : Option (Bool) := if (l0_1.length : Int) > 400 then (some true) else ((caesurakeep_LargeLists.f k l0_2 3000).bind fun t103 => (if t103 = true then (some true) else (some (decide ((l0_3.length : Int) > 1000)))))
theorem caesuralaw06_Large.mono : ∀ a0 a1 a2 a3 k, LeO (caesuralaw06_Large.f k a0 a1 a2 a3) (caesuralaw06_Large.f (k + 1) a0 a1 a2 a3) := by
 intro a0 a1 a2 a3 k
 unfold caesuralaw06_Large.f
 repeat' first
   | (with_reducible exact caesurakeep_LargeLists.mono _ _ _)
   | (with_reducible exact LeO.refl _)
   | (with_reducible exact LeO.none _)
   | (with_reducible refine LeO.ite ?_ ?_)
   | (with_reducible refine LeO.bind ?_ (fun _ => ?_))
   | exact caesurakeep_LargeLists.mono _ _ _
   | exact LeO.none _
   | refine LeO.ite ?_ ?_
   | refine LeO.bind ?_ (fun _ => ?_)
set_option maxHeartbeats 8000000 in
set_option maxRecDepth 100000 in
theorem caesuralaw06_Large.calls (k : Nat) (a0_0 : Int) (A0_1 : Option Addr) (c0_1 : Nat) (l0_1 : List (S52)) (A0_2 : Option Addr) (c0_2 : Nat) (l0_2 : List (List Int)) (A0_3 : Option Addr) (c0_3 : Nat) (l0_3 : List Bool) (r : Bool) (w : World) (hr0_1 : Kd.C k52 w A0_1 l0_1.length l0_1) (hc0_1 : l0_1.length ≤ c0_1) (hr0_2 : Kd.C (Kd.slice 3 (Kd.int .i64)) w A0_2 l0_2.length l0_2) (hc0_2 : l0_2.length ≤ c0_2) (hr0_3 : Kd.C Kd.bool w A0_3 l0_3.length l0_3) (hc0_3 : l0_3.length ≤ c0_3) (h : caesuralaw06_Large.f k a0_0 l0_1 l0_2 l0_3 = some r) :
  Calls Try.prog 9 #[.agg #[.int .i64 a0_0, .slice A0_1 l0_1.length c0_1, .slice A0_2 l0_2.length c0_2, .slice A0_3 l0_3.length c0_3]] w fun e w' => e = .returned (.bool r) ∧ Below w.heap.size w w' := by
 have hu26 := Try.underlying26
 have HR0_1 := Aside0.mk hr0_1
 have HC0_1 := Aside0.mk hc0_1
 clear hr0_1 hc0_1
 have HR0_2 := Aside0.mk hr0_2
 have HC0_2 := Aside0.mk hc0_2
 clear hr0_2 hc0_2
 have HR0_3 := Aside0.mk hr0_3
 have HC0_3 := Aside0.mk hc0_3
 clear hr0_3 hc0_3
 have HB := Aside0.mk (Below.refl w.heap.size w)
 have H : (if (l0_1.length : Int) > 400 then (some true) else ((caesurakeep_LargeLists.f k l0_2 3000).bind fun t103 => (if t103 = true then (some true) else (some (decide ((l0_3.length : Int) > 1000)))))) = some r := h
 clear h
 by_cases c2 : (l0_1.length : Int) > 400
 ·rw [if_pos c2] at H
  have c2b0 : decide (400 < (l0_1.length : Int)) = true := decide_eq_true c2
  have c2b1 : decide (400 < l0_1.length) = true := decide_eq_true (by omega)
  clear c2
  obtain rfl := Option.some.inj H
  go_enter Try.func9, Try.ntmps9
  go_wp2_with (first | ((with_reducible refine gate_dst (N := 1) rfl ?_); xgg_; refine box_event ?hg (N := 1) ?hd (cs := #[.int .i64 a0_0, .slice A0_1 l0_1.length c0_1, .slice A0_2 l0_2.length c0_2, .slice A0_3 l0_3.length c0_3]) (t := 26) ?hr ?_; (case hd => rfl); (case hg => rfl); (case hr => xgs_); intro gb102 hg w3 hbox hb; have n0_ := Aside0.mk (below_step (by repeat (first | (with_reducible first | exact HB.out | apply below_alloc | apply pw_below_drewN | apply below_drew1) | exact HB.out)) hb); have n1_ := Aside0.mk (hbox); have n2_ := Aside0.mk ((by rw [hg]; exact (below_size (by repeat (first | (with_reducible first | exact HB.out | apply below_alloc | apply pw_below_drewN | apply below_drew1) | exact HB.out))) : w.heap.size ≤ gb102)); have n3_ := Aside0.mk ((by rw [hg]; exact (below_size (by repeat (first | (with_reducible first | exact HB.out | apply below_alloc | apply pw_below_drewN | apply below_drew1) | exact HB.out))) : w.heap.size ≤ gb102)); clear HB; have HB := n0_; have BK102 := n1_; have GW102 := n2_; have GE102 := n3_; clear n0_ n1_ n2_ n3_; clear hb hbox hg; have hcz4_0 : w3.cell? ⟨gb102, 0, none⟩ = some (.int .i64 a0_0) := (blk_cell BK102.out 0).trans rfl; have hcz4_1 : w3.cell? ⟨gb102, 1, none⟩ = some (.slice A0_1 l0_1.length c0_1) := (blk_cell BK102.out 1).trans rfl; have hcz4_2 : w3.cell? ⟨gb102, 2, none⟩ = some (.slice A0_2 l0_2.length c0_2) := (blk_cell BK102.out 2).trans rfl; have hcz4_3 : w3.cell? ⟨gb102, 3, none⟩ = some (.slice A0_3 l0_3.length c0_3) := (blk_cell BK102.out 3).trans rfl; have hfz4_0 := blk_frozen BK102.out 0; have hfz4_1 := blk_frozen BK102.out 1; have hfz4_2 := blk_frozen BK102.out 2; have hfz4_3 := blk_frozen BK102.out 3))
  go_ret
  exact ⟨by first | rfl | (simp [errW_none, errW_some] <;> rfl) | (simp [*, errW_none, errW_some] <;> rfl), by repeat (first | (with_reducible first | exact HB.out | apply below_alloc | apply pw_below_drewN | apply below_drew1 | refine below_set ?_ GE102.out) | exact HB.out)⟩
 ·rw [if_neg c2] at H
  have c2b0 : decide (400 < (l0_1.length : Int)) = false := decide_eq_false c2
  have c2b1 : decide (400 < l0_1.length) = false := decide_eq_false (by omega)
  clear c2
  replace H := Option.bind_eq_some_iff.mp H
  obtain ⟨t103, A50, H⟩ := H
  replace H : (if t103 = true then (some true) else (some (decide ((l0_3.length : Int) > 1000)))) = some r := H
  have A5 := Aside0.mk A50
  clear A50
  by_cases c6 : t103 = true
  ·subst c6
   have H1 : (some true) = some r := by rw [if_pos rfl] at H; exact H
   clear H
   have H := H1
   clear H1
   obtain rfl := Option.some.inj H
   go_enter Try.func9, Try.ntmps9
   go_wp2_with (first | ((with_reducible refine gate_dst (N := 1) rfl ?_); xgg_; refine box_event ?hg (N := 1) ?hd (cs := #[.int .i64 a0_0, .slice A0_1 l0_1.length c0_1, .slice A0_2 l0_2.length c0_2, .slice A0_3 l0_3.length c0_3]) (t := 26) ?hr ?_; (case hd => rfl); (case hg => rfl); (case hr => xgs_); intro gb102 hg w7 hbox hb; have n0_ := Aside0.mk (below_step (by repeat (first | (with_reducible first | exact HB.out | apply below_alloc | apply pw_below_drewN | apply below_drew1) | exact HB.out)) hb); have n1_ := Aside0.mk (hbox); have n2_ := Aside0.mk ((by rw [hg]; exact (below_size (by repeat (first | (with_reducible first | exact HB.out | apply below_alloc | apply pw_below_drewN | apply below_drew1) | exact HB.out))) : w.heap.size ≤ gb102)); have n3_ := Aside0.mk ((by rw [hg]; exact (below_size (by repeat (first | (with_reducible first | exact HB.out | apply below_alloc | apply pw_below_drewN | apply below_drew1) | exact HB.out))) : w.heap.size ≤ gb102)); clear HB; have HB := n0_; have BK102 := n1_; have GW102 := n2_; have GE102 := n3_; clear n0_ n1_ n2_ n3_; clear hb hbox hg; have hcz8_0 : w7.cell? ⟨gb102, 0, none⟩ = some (.int .i64 a0_0) := (blk_cell BK102.out 0).trans rfl; have hcz8_1 : w7.cell? ⟨gb102, 1, none⟩ = some (.slice A0_1 l0_1.length c0_1) := (blk_cell BK102.out 1).trans rfl; have hcz8_2 : w7.cell? ⟨gb102, 2, none⟩ = some (.slice A0_2 l0_2.length c0_2) := (blk_cell BK102.out 2).trans rfl; have hcz8_3 : w7.cell? ⟨gb102, 3, none⟩ = some (.slice A0_3 l0_3.length c0_3) := (blk_cell BK102.out 3).trans rfl; have hfz8_0 := blk_frozen BK102.out 0; have hfz8_1 := blk_frozen BK102.out 1; have hfz8_2 := blk_frozen BK102.out 2; have hfz8_3 := blk_frozen BK102.out 3) | (go_at_call 23; (with_reducible refine (caesurakeep_LargeLists.calls k _ _ l0_2 3000 true _ ?side1 ?side2 A5.out).mono ?_); (case side1 => repeat (first | exact (Kd.C_below HR0_2.out HB.out) | xkC_)); (case side2 => exact HC0_2.out); rintro e w9 ⟨rfl, hb⟩; have n0_ := Aside0.mk (blk_below (g := gb102) (o := .cells #[.int .i64 a0_0, .slice A0_1 l0_1.length c0_1, .slice A0_2 l0_2.length c0_2, .slice A0_3 l0_3.length c0_3] 26 (0, 0)) (by xkb_; exact BK102.out) hb); have n1_ := Aside0.mk (below_step (by repeat (first | (with_reducible first | exact HB.out | apply below_alloc | apply pw_below_drewN | apply below_drew1 | refine below_set ?_ GE102.out) | exact HB.out)) hb); clear BK102; clear HB; have BK102 := n0_; have HB := n1_; clear n0_ n1_; (try clear hb); (try clear hb2); (try clear hk); (try clear hi)))
   go_ret
   exact ⟨by first | rfl | (simp [errW_none, errW_some] <;> rfl) | (simp [*, errW_none, errW_some] <;> rfl), by repeat (first | (with_reducible first | exact HB.out | apply below_alloc | apply pw_below_drewN | apply below_drew1 | refine below_set ?_ GE102.out) | exact HB.out)⟩
  ·replace c6 := Bool.eq_false_iff.mpr c6
   subst c6
   have H1 : (some (decide ((l0_3.length : Int) > 1000))) = some r := by rw [if_neg (show ¬ (false = true) by decide)] at H; exact H
   clear H
   have H := H1
   clear H1
   obtain rfl := Option.some.inj H
   go_enter Try.func9, Try.ntmps9
   go_wp2_with (first | ((with_reducible refine gate_dst (N := 1) rfl ?_); xgg_; refine box_event ?hg (N := 1) ?hd (cs := #[.int .i64 a0_0, .slice A0_1 l0_1.length c0_1, .slice A0_2 l0_2.length c0_2, .slice A0_3 l0_3.length c0_3]) (t := 26) ?hr ?_; (case hd => rfl); (case hg => rfl); (case hr => xgs_); intro gb102 hg w10 hbox hb; have n0_ := Aside0.mk (below_step (by repeat (first | (with_reducible first | exact HB.out | apply below_alloc | apply pw_below_drewN | apply below_drew1) | exact HB.out)) hb); have n1_ := Aside0.mk (hbox); have n2_ := Aside0.mk ((by rw [hg]; exact (below_size (by repeat (first | (with_reducible first | exact HB.out | apply below_alloc | apply pw_below_drewN | apply below_drew1) | exact HB.out))) : w.heap.size ≤ gb102)); have n3_ := Aside0.mk ((by rw [hg]; exact (below_size (by repeat (first | (with_reducible first | exact HB.out | apply below_alloc | apply pw_below_drewN | apply below_drew1) | exact HB.out))) : w.heap.size ≤ gb102)); clear HB; have HB := n0_; have BK102 := n1_; have GW102 := n2_; have GE102 := n3_; clear n0_ n1_ n2_ n3_; clear hb hbox hg; have hcz11_0 : w10.cell? ⟨gb102, 0, none⟩ = some (.int .i64 a0_0) := (blk_cell BK102.out 0).trans rfl; have hcz11_1 : w10.cell? ⟨gb102, 1, none⟩ = some (.slice A0_1 l0_1.length c0_1) := (blk_cell BK102.out 1).trans rfl; have hcz11_2 : w10.cell? ⟨gb102, 2, none⟩ = some (.slice A0_2 l0_2.length c0_2) := (blk_cell BK102.out 2).trans rfl; have hcz11_3 : w10.cell? ⟨gb102, 3, none⟩ = some (.slice A0_3 l0_3.length c0_3) := (blk_cell BK102.out 3).trans rfl; have hfz11_0 := blk_frozen BK102.out 0; have hfz11_1 := blk_frozen BK102.out 1; have hfz11_2 := blk_frozen BK102.out 2; have hfz11_3 := blk_frozen BK102.out 3) | (go_at_call 23; (with_reducible refine (caesurakeep_LargeLists.calls k _ _ l0_2 3000 false _ ?side1 ?side2 A5.out).mono ?_); (case side1 => repeat (first | exact (Kd.C_below HR0_2.out HB.out) | xkC_)); (case side2 => exact HC0_2.out); rintro e w12 ⟨rfl, hb⟩; have n0_ := Aside0.mk (blk_below (g := gb102) (o := .cells #[.int .i64 a0_0, .slice A0_1 l0_1.length c0_1, .slice A0_2 l0_2.length c0_2, .slice A0_3 l0_3.length c0_3] 26 (0, 0)) (by xkb_; exact BK102.out) hb); have n1_ := Aside0.mk (below_step (by repeat (first | (with_reducible first | exact HB.out | apply below_alloc | apply pw_below_drewN | apply below_drew1 | refine below_set ?_ GE102.out) | exact HB.out)) hb); clear BK102; clear HB; have BK102 := n0_; have HB := n1_; clear n0_ n1_; (try clear hb); (try clear hb2); (try clear hk); (try clear hi); have hcz13_0 : w12.cell? ⟨gb102, 0, none⟩ = some (.int .i64 a0_0) := (blk_cell BK102.out 0).trans rfl; have hcz13_1 : w12.cell? ⟨gb102, 1, none⟩ = some (.slice A0_1 l0_1.length c0_1) := (blk_cell BK102.out 1).trans rfl; have hcz13_2 : w12.cell? ⟨gb102, 2, none⟩ = some (.slice A0_2 l0_2.length c0_2) := (blk_cell BK102.out 2).trans rfl; have hcz13_3 : w12.cell? ⟨gb102, 3, none⟩ = some (.slice A0_3 l0_3.length c0_3) := (blk_cell BK102.out 3).trans rfl; have hfz13_0 := blk_frozen BK102.out 0; have hfz13_1 := blk_frozen BK102.out 1; have hfz13_2 := blk_frozen BK102.out 2; have hfz13_3 := blk_frozen BK102.out 3))
   go_ret
   exact ⟨by first | rfl | (simp [errW_none, errW_some] <;> rfl) | (simp [*, errW_none, errW_some] <;> rfl), by repeat (first | (with_reducible first | exact HB.out | apply below_alloc | apply pw_below_drewN | apply below_drew1 | refine below_set ?_ GE102.out) | exact HB.out)⟩
def table_between.f (a0 : Int) (a1 : Int) (a2 : Int) : Option (Bool) := if a0 ≥ a1 then (some (decide (a0 ≤ a2))) else (some false)
set_option maxHeartbeats 8000000 in
set_option maxRecDepth 100000 in
theorem table_between.calls (a0 : Int) (a1 : Int) (a2 : Int) (r : Bool) (w : World) (h : table_between.f a0 a1 a2 = some r) :
  Calls Try.prog 33 #[.int .i64 a0, .int .i64 a1, .int .i64 a2] w fun e w' => e = .returned (.bool r) ∧ Drawn0 w w' := by
 have H : (if a0 ≥ a1 then (some (decide (a0 ≤ a2))) else (some false)) = some r := h
 clear h
 by_cases c4 : a0 ≥ a1
 ·rw [if_pos c4] at H
  have c4b0 : decide (a1 ≤ a0) = true := decide_eq_true c4
  clear c4
  obtain rfl := Option.some.inj H
  go_enter Try.func33, Try.ntmps33
  go_wp2
  go_ret
  exact ⟨by first | rfl | (simp; done) | (simp [*]; done), by repeat (first | exact Drawn0.refl _ | apply Drawn0.step)⟩
 ·rw [if_neg c4] at H
  have c4b0 : decide (a1 ≤ a0) = false := decide_eq_false c4
  clear c4
  obtain rfl := Option.some.inj H
  go_enter Try.func33, Try.ntmps33
  go_wp2
  go_ret
  exact ⟨by first | rfl | (simp; done) | (simp [*]; done), by repeat (first | exact Drawn0.refl _ | apply Drawn0.step)⟩
def table_may_1.f (a0 : Int) : Option (Bool) := (table_between.f a0 0 255).bind fun t104 => (some (!t104))
set_option maxHeartbeats 8000000 in
set_option maxRecDepth 100000 in
theorem table_may_1.calls (a0 : Int) (r : Bool) (w : World) (h : table_may_1.f a0 = some r) :
  Calls Try.prog 47 #[.int .i64 a0] w fun e w' => e = .returned (.bool r) ∧ Drawn0 w w' := by
 have H : ((table_between.f a0 0 255).bind fun t104 => (some (!t104))) = some r := h
 clear h
 replace H := Option.bind_eq_some_iff.mp H
 obtain ⟨t104, A20, H⟩ := H
 replace H : (some (!t104)) = some r := H
 have A2 := Aside0.mk A20
 clear A20
 obtain rfl := Option.some.inj H
 go_enter Try.func47, Try.ntmps47
 go_wp2_with (first | ((with_reducible refine gate_callee (f := 33) rfl ?_); refine goesL_ (some 4) rfl rfl Try.func33 (by kernel_rfl) rfl #[.int .i64 a0, .int .i64 0, .int .i64 255] rfl (by xlm_) ?_; (with_reducible refine (table_between.calls a0 0 255 t104 _ A2.out).mono ?_); rintro e w' ⟨rfl, ⟨nd, rfl⟩⟩; refine ⟨_, rfl, ?_⟩))
 go_ret
 exact ⟨by first | rfl | (simp; done) | (simp [*]; done), by repeat (first | exact Drawn0.refl _ | apply Drawn0.step)⟩
def slices_IndexFunc_int_int__table_may_1.l0 : Nat → List Int → Int → Int → Option (Int)
 | 0, _, _, _ => none
 | k + 1, x0, x7, x8 => if x8 < x7 then (if 0 ≤ x8 then (if x8 < (x0.length : Int) then ((table_may_1.f (rd x0 x8)).bind fun t106 => (if t106 = true then (some x8) else (slices_IndexFunc_int_int__table_may_1.l0 k x0 x7 (wrap64 (x8 + 1))))) else (none)) else (none)) else (some (-1))
def slices_IndexFunc_int_int__table_may_1.f (k : Nat) (l0 : List Int) (a1 : Int) : Option (Int) := slices_IndexFunc_int_int__table_may_1.l0 k l0 (l0.length : Int) 0
theorem slices_IndexFunc_int_int__table_may_1.mono_l : ∀ k, (∀ y0 y1 y2, LeO (slices_IndexFunc_int_int__table_may_1.l0 k y0 y1 y2) (slices_IndexFunc_int_int__table_may_1.l0 (k + 1) y0 y1 y2))
 | 0 => fun _ _ _ r h => by simp [slices_IndexFunc_int_int__table_may_1.l0] at h
 | k + 1 => by
  have ih0 := slices_IndexFunc_int_int__table_may_1.mono_l k
  ·intro y0 y1 y2
   unfold slices_IndexFunc_int_int__table_may_1.l0
   repeat' first
   | (with_reducible exact ih0 _ _ _)
   | (with_reducible exact LeO.refl _)
   | (with_reducible exact LeO.none _)
   | (with_reducible refine LeO.ite ?_ ?_)
   | (with_reducible refine LeO.bind ?_ (fun _ => ?_))
   | exact ih0 _ _ _
   | exact LeO.none _
   | refine LeO.ite ?_ ?_
   | refine LeO.bind ?_ (fun _ => ?_)
theorem slices_IndexFunc_int_int__table_may_1.mono : ∀ a0 a1 k, LeO (slices_IndexFunc_int_int__table_may_1.f k a0 a1) (slices_IndexFunc_int_int__table_may_1.f (k + 1) a0 a1) := by
 intro a0 a1 k
 have ih0 := slices_IndexFunc_int_int__table_may_1.mono_l k
 unfold slices_IndexFunc_int_int__table_may_1.f
 repeat' first
   | (with_reducible exact ih0 _ _ _)
   | (with_reducible exact LeO.refl _)
   | (with_reducible exact LeO.none _)
   | (with_reducible refine LeO.ite ?_ ?_)
   | (with_reducible refine LeO.bind ?_ (fun _ => ?_))
   | exact ih0 _ _ _
   | exact LeO.none _
   | refine LeO.ite ?_ ?_
   | refine LeO.bind ?_ (fun _ => ?_)
set_option maxHeartbeats 8000000 in
set_option maxRecDepth 100000 in
theorem slices_IndexFunc_int_int__table_may_1.calls (k : Nat) (A0 : Option Addr) (c0 : Nat) (l0 : List Int) (a1 : Int) (r : Int) (w : World) (hr0 : Kd.C (Kd.int .i64) w A0 l0.length l0) (hc0 : l0.length ≤ c0) (h : slices_IndexFunc_int_int__table_may_1.f k l0 a1 = some r) :
  Calls Try.prog 53 #[.slice A0 l0.length c0, .func (.func 47) #[] #[]] w fun e w' => e = .returned (.int .i64 r) ∧ Drawn0 w w' := by
 have HR0 := Aside0.mk hr0
 have HC0 := Aside0.mk hc0
 clear hr0 hc0
 have H : (slices_IndexFunc_int_int__table_may_1.l0 k l0 (l0.length : Int) 0) = some r := h
 clear h
 have H' := Aside0.mk H
 clear H
 go_enter Try.func53, Try.ntmps53
 go_wp2
 go_loopg [8] k (fun kq v8 w' => ∃ (x8_1 : Int), v8 = .int .i64 x8_1 ∧ Aside0 (slices_IndexFunc_int_int__table_may_1.l0 kq l0 (l0.length : Int) x8_1 = some r) ∧ Aside0 (kq ≤ k) ∧ Drawn0 w w')
 case atStart => exact ⟨(0), (by xrs_), H', ⟨Nat.le_refl _⟩, by repeat (first | exact Drawn0.refl _ | apply Drawn0.step)⟩
 case round =>
  clear H'
  xcl_ p2
  obtain ⟨x8_1, rfl, HA, HK1, ⟨m1, rfl⟩⟩ := hrel
  cases gk with
  | zero => exact absurd HA.out (by simp [slices_IndexFunc_int_int__table_may_1.l0])
  | succ k1 =>
   have H := HA.out
   clear HA
   simp only [slices_IndexFunc_int_int__table_may_1.l0] at H
   by_cases c3 : x8_1 < (l0.length : Int)
   ·rw [if_pos c3] at H
    have c3b0 : decide (x8_1 < (l0.length : Int)) = true := decide_eq_true c3
    clear c3
    by_cases c4 : 0 ≤ x8_1
    ·rw [if_pos c4] at H
     have c4b0 : decide (0 ≤ x8_1) = true := decide_eq_true c4
     clear c4
     by_cases c5 : x8_1 < (l0.length : Int)
     ·rw [if_pos c5] at H
      have c5b0 : decide (x8_1 < (l0.length : Int)) = true := decide_eq_true c5
      clear c5
      replace H := Option.bind_eq_some_iff.mp H
      obtain ⟨t106, A60, H⟩ := H
      replace H : (if t106 = true then (some x8_1) else (slices_IndexFunc_int_int__table_may_1.l0 k1 l0 (l0.length : Int) (wrap64 (x8_1 + 1)))) = some r := H
      have A6 := Aside0.mk A60
      clear A60
      by_cases c7 : t106 = true
      ·subst c7
       have H1 : (some x8_1) = some r := by rw [if_pos rfl] at H; exact H
       clear H
       have H := H1
       clear H1
       obtain rfl := Option.some.inj H
       have p105 : 0 ≤ (x8_1 : Int) := of_decide_eq_true (by xas_)
       have q105 : x8_1 < (l0.length : Int) := of_decide_eq_true (by xas_)
       obtain ⟨ad105, e105, hx105_0⟩ := Kd.at_int HR0.out x8_1 p105 q105
       cases e105
       replace p105 := eq_true p105
       replace q105 := eq_true q105
       go_wp2_with (first | ((with_reducible refine XFn.gate_calleeV (t := 11) rfl ?_); refine XFn.goesV_ (some 16) rfl rfl Try.func47 (by kernel_rfl) rfl #[.int .i64 (rd l0 x8_1)] rfl (by xlm_) ?_; (with_reducible refine (table_may_1.calls (rd l0 x8_1) true _ A6.out).mono ?_); rintro e w' ⟨rfl, ⟨nd, rfl⟩⟩; refine ⟨_, rfl, ?_⟩))
       go_ret
       exact ⟨by first | rfl | (simp; done) | (simp [*]; done), by repeat (first | exact Drawn0.refl _ | apply Drawn0.step)⟩
      ·replace c7 := Bool.eq_false_iff.mpr c7
       subst c7
       have H1 : (slices_IndexFunc_int_int__table_may_1.l0 k1 l0 (l0.length : Int) (wrap64 (x8_1 + 1))) = some r := by rw [if_neg (show ¬ (false = true) by decide)] at H; exact H
       clear H
       have H := H1
       clear H1
       have H' := Aside0.mk H
       clear H
       have p105 : 0 ≤ (x8_1 : Int) := of_decide_eq_true (by xas_)
       have q105 : x8_1 < (l0.length : Int) := of_decide_eq_true (by xas_)
       obtain ⟨ad105, e105, hx105_0⟩ := Kd.at_int HR0.out x8_1 p105 q105
       cases e105
       replace p105 := eq_true p105
       replace q105 := eq_true q105
       go_wp2_with (first | ((with_reducible refine XFn.gate_calleeV (t := 11) rfl ?_); refine XFn.goesV_ (some 16) rfl rfl Try.func47 (by kernel_rfl) rfl #[.int .i64 (rd l0 x8_1)] rfl (by xlm_) ?_; (with_reducible refine (table_may_1.calls (rd l0 x8_1) false _ A6.out).mono ?_); rintro e w' ⟨rfl, ⟨nd, rfl⟩⟩; refine ⟨_, rfl, ?_⟩))
       go_roundg k1
       case measure => have := HK1.out; omega
       case rel => exact ⟨(wrap64 (x8_1 + 1)), (by xrs_), H', ⟨by have := HK1.out; omega⟩, by repeat (first | exact Drawn0.refl _ | apply Drawn0.step)⟩
     ·rw [if_neg c5] at H
      exact absurd H (by simp)
    ·rw [if_neg c4] at H
     exact absurd H (by simp)
   ·rw [if_neg c3] at H
    have c3b0 : decide (x8_1 < (l0.length : Int)) = false := decide_eq_false c3
    clear c3
    obtain rfl := Option.some.inj H
    go_wp2
    go_ret
    exact ⟨by first | rfl | (simp; done) | (simp [*]; done), by repeat (first | exact Drawn0.refl _ | apply Drawn0.step)⟩
def slices_ContainsFunc_int_int__table_may_1.f (k : Nat) (l0 : List Int) (a1 : Int) : Option (Bool) := (slices_IndexFunc_int_int__table_may_1.f k l0 a1).bind fun t107 => (some (decide (t107 ≥ 0)))
theorem slices_ContainsFunc_int_int__table_may_1.mono : ∀ a0 a1 k, LeO (slices_ContainsFunc_int_int__table_may_1.f k a0 a1) (slices_ContainsFunc_int_int__table_may_1.f (k + 1) a0 a1) := by
 intro a0 a1 k
 unfold slices_ContainsFunc_int_int__table_may_1.f
 repeat' first
   | (with_reducible exact slices_IndexFunc_int_int__table_may_1.mono _ _ _)
   | (with_reducible exact LeO.refl _)
   | (with_reducible exact LeO.none _)
   | (with_reducible refine LeO.ite ?_ ?_)
   | (with_reducible refine LeO.bind ?_ (fun _ => ?_))
   | exact slices_IndexFunc_int_int__table_may_1.mono _ _ _
   | exact LeO.none _
   | refine LeO.ite ?_ ?_
   | refine LeO.bind ?_ (fun _ => ?_)
set_option maxHeartbeats 8000000 in
set_option maxRecDepth 100000 in
theorem slices_ContainsFunc_int_int__table_may_1.calls (k : Nat) (A0 : Option Addr) (c0 : Nat) (l0 : List Int) (a1 : Int) (r : Bool) (w : World) (hr0 : Kd.C (Kd.int .i64) w A0 l0.length l0) (hc0 : l0.length ≤ c0) (h : slices_ContainsFunc_int_int__table_may_1.f k l0 a1 = some r) :
  Calls Try.prog 46 #[.slice A0 l0.length c0, .func (.func 47) #[] #[]] w fun e w' => e = .returned (.bool r) ∧ Drawn0 w w' := by
 have HR0 := Aside0.mk hr0
 have HC0 := Aside0.mk hc0
 clear hr0 hc0
 have H : ((slices_IndexFunc_int_int__table_may_1.f k l0 a1).bind fun t107 => (some (decide (t107 ≥ 0)))) = some r := h
 clear h
 replace H := Option.bind_eq_some_iff.mp H
 obtain ⟨t107, A30, H⟩ := H
 replace H : (some (decide (t107 ≥ 0))) = some r := H
 have A3 := Aside0.mk A30
 clear A30
 obtain rfl := Option.some.inj H
 go_enter Try.func46, Try.ntmps46
 go_wp2_with (first | ((with_reducible refine gate_callee (f := 53) rfl ?_); refine goesL_ (some 7) rfl rfl Try.func53 (by kernel_rfl) rfl #[.slice A0 l0.length c0, .func (.func 47) #[] #[]] rfl (by xlm_) ?_; (with_reducible refine (slices_IndexFunc_int_int__table_may_1.calls k _ _ l0 a1 t107 _ ?side1 ?side2 A3.out).mono ?_); (case side1 => repeat (first | exact HR0.out | xkC_)); (case side2 => exact HC0.out); rintro e w' ⟨rfl, ⟨nd, rfl⟩⟩; refine ⟨_, rfl, ?_⟩))
 go_ret
 exact ⟨by first | rfl | (simp; done) | (simp [*]; done), by repeat (first | exact Drawn0.refl _ | apply Drawn0.step)⟩
mutual
def table_may.j0 : Nat → Bool → Int → List (S52) → List (List Int) → List Bool → Option (Bool)
 | 0, _, _, _, _, _ => none
 | k + 1, x32, x109000, x109001, x109002, x109003 => if x32 = true then (some false) else (table_may.l0 k x109001 (x109001.length : Int) 0 x109000 x109001 x109002 x109003)
def table_may.l0 : Nat → List (S52) → Int → Int → Int → List (S52) → List (List Int) → List Bool → Option (Bool)
 | 0, _, _, _, _, _, _, _ => none
 | k + 1, x34, x35, x36, x109000, x109001, x109002, x109003 => if x36 < x35 then (if 0 ≤ x36 then (if x36 < (x34.length : Int) then ((table_between.f ((rd_T52 x34 x36).f0) 0 16777215).bind fun t113 => (if t113 = true then ((table_between.f ((rd_T52 x34 x36).f1) 0 255).bind fun t114 => (if t114 = true then (table_may.l0 k x34 x35 (wrap64 (x36 + 1)) x109000 x109001 x109002 x109003) else (some false))) else (some false))) else (none)) else (none)) else (table_may.l1 k x109002 (x109002.length : Int) 0 x109000 x109001 x109002 x109003)
def table_may.l1 : Nat → List (List Int) → Int → Int → Int → List (S52) → List (List Int) → List Bool → Option (Bool)
 | 0, _, _, _, _, _, _, _ => none
 | k + 1, x52, x53, x54, x109000, x109001, x109002, x109003 => if x54 < x53 then (if 0 ≤ x54 then (if x54 < (x52.length : Int) then (if ((rd_L1 x52 x54).length : Int) = x109000 then ((slices_ContainsFunc_int_int__table_may_1.f k (rd_L1 x52 x54) 0).bind fun t116 => (if t116 = true then (some false) else (table_may.l1 k x52 x53 (wrap64 (x54 + 1)) x109000 x109001 x109002 x109003))) else (some false)) else (none)) else (none)) else (some true)
end
def table_may.f (k : Nat) (a0_0 : Int) (l0_1 : List (S52)) (l0_2 : List (List Int)) (l0_3 : List Bool) : Option (Bool) := (table_between.f a0_0 1 255).bind fun t109 => (if t109 = true then ((table_between.f (l0_2.length : Int) 1 255).bind fun t110 => (if t110 = true then (if (l0_3.length : Int) = (l0_2.length : Int) then (table_may.j0 k (decide ((l0_1.length : Int) > 255)) a0_0 l0_1 l0_2 l0_3) else (table_may.j0 k true a0_0 l0_1 l0_2 l0_3)) else (table_may.j0 k true a0_0 l0_1 l0_2 l0_3))) else (table_may.j0 k true a0_0 l0_1 l0_2 l0_3))
theorem table_may.mono_l : ∀ k, (∀ y0 y1 y2 y3 y4, LeO (table_may.j0 k y0 y1 y2 y3 y4) (table_may.j0 (k + 1) y0 y1 y2 y3 y4)) ∧ (∀ y0 y1 y2 y3 y4 y5 y6, LeO (table_may.l0 k y0 y1 y2 y3 y4 y5 y6) (table_may.l0 (k + 1) y0 y1 y2 y3 y4 y5 y6)) ∧ (∀ y0 y1 y2 y3 y4 y5 y6, LeO (table_may.l1 k y0 y1 y2 y3 y4 y5 y6) (table_may.l1 (k + 1) y0 y1 y2 y3 y4 y5 y6))
 | 0 => ⟨fun _ _ _ _ _ r h => by simp [table_may.j0] at h, fun _ _ _ _ _ _ _ r h => by simp [table_may.l0] at h, fun _ _ _ _ _ _ _ r h => by simp [table_may.l1] at h⟩
 | k + 1 => by
  obtain ⟨ih0, ih1, ih2⟩ := table_may.mono_l k
  refine ⟨?_, ?_, ?_⟩
  ·intro y0 y1 y2 y3 y4
   unfold table_may.j0
   repeat' first
   | (with_reducible exact ih0 _ _ _ _ _)
   | (with_reducible exact ih1 _ _ _ _ _ _ _)
   | (with_reducible exact ih2 _ _ _ _ _ _ _)
   | (with_reducible exact slices_ContainsFunc_int_int__table_may_1.mono _ _ _)
   | (with_reducible exact LeO.refl _)
   | (with_reducible exact LeO.none _)
   | (with_reducible refine LeO.ite ?_ ?_)
   | (with_reducible refine LeO.bind ?_ (fun _ => ?_))
   | exact ih0 _ _ _ _ _
   | exact ih1 _ _ _ _ _ _ _
   | exact ih2 _ _ _ _ _ _ _
   | exact slices_ContainsFunc_int_int__table_may_1.mono _ _ _
   | exact LeO.none _
   | refine LeO.ite ?_ ?_
   | refine LeO.bind ?_ (fun _ => ?_)
  ·intro y0 y1 y2 y3 y4 y5 y6
   unfold table_may.l0
   repeat' first
   | (with_reducible exact ih0 _ _ _ _ _)
   | (with_reducible exact ih1 _ _ _ _ _ _ _)
   | (with_reducible exact ih2 _ _ _ _ _ _ _)
   | (with_reducible exact slices_ContainsFunc_int_int__table_may_1.mono _ _ _)
   | (with_reducible exact LeO.refl _)
   | (with_reducible exact LeO.none _)
   | (with_reducible refine LeO.ite ?_ ?_)
   | (with_reducible refine LeO.bind ?_ (fun _ => ?_))
   | exact ih0 _ _ _ _ _
   | exact ih1 _ _ _ _ _ _ _
   | exact ih2 _ _ _ _ _ _ _
   | exact slices_ContainsFunc_int_int__table_may_1.mono _ _ _
   | exact LeO.none _
   | refine LeO.ite ?_ ?_
   | refine LeO.bind ?_ (fun _ => ?_)
  ·intro y0 y1 y2 y3 y4 y5 y6
   unfold table_may.l1
   repeat' first
   | (with_reducible exact ih0 _ _ _ _ _)
   | (with_reducible exact ih1 _ _ _ _ _ _ _)
   | (with_reducible exact ih2 _ _ _ _ _ _ _)
   | (with_reducible exact slices_ContainsFunc_int_int__table_may_1.mono _ _ _)
   | (with_reducible exact LeO.refl _)
   | (with_reducible exact LeO.none _)
   | (with_reducible refine LeO.ite ?_ ?_)
   | (with_reducible refine LeO.bind ?_ (fun _ => ?_))
   | exact ih0 _ _ _ _ _
   | exact ih1 _ _ _ _ _ _ _
   | exact ih2 _ _ _ _ _ _ _
   | exact slices_ContainsFunc_int_int__table_may_1.mono _ _ _
   | exact LeO.none _
   | refine LeO.ite ?_ ?_
   | refine LeO.bind ?_ (fun _ => ?_)
theorem table_may.mono : ∀ a0 a1 a2 a3 k, LeO (table_may.f k a0 a1 a2 a3) (table_may.f (k + 1) a0 a1 a2 a3) := by
 intro a0 a1 a2 a3 k
 obtain ⟨ih0, ih1, ih2⟩ := table_may.mono_l k
 unfold table_may.f
 repeat' first
   | (with_reducible exact ih0 _ _ _ _ _)
   | (with_reducible exact ih1 _ _ _ _ _ _ _)
   | (with_reducible exact ih2 _ _ _ _ _ _ _)
   | (with_reducible exact slices_ContainsFunc_int_int__table_may_1.mono _ _ _)
   | (with_reducible exact LeO.refl _)
   | (with_reducible exact LeO.none _)
   | (with_reducible refine LeO.ite ?_ ?_)
   | (with_reducible refine LeO.bind ?_ (fun _ => ?_))
   | exact ih0 _ _ _ _ _
   | exact ih1 _ _ _ _ _ _ _
   | exact ih2 _ _ _ _ _ _ _
   | exact slices_ContainsFunc_int_int__table_may_1.mono _ _ _
   | exact LeO.none _
   | refine LeO.ite ?_ ?_
   | refine LeO.bind ?_ (fun _ => ?_)
set_option maxHeartbeats 8000000 in
set_option maxRecDepth 100000 in
theorem table_may.calls (k : Nat) (a0_0 : Int) (A0_1 : Option Addr) (c0_1 : Nat) (l0_1 : List (S52)) (A0_2 : Option Addr) (c0_2 : Nat) (l0_2 : List (List Int)) (A0_3 : Option Addr) (c0_3 : Nat) (l0_3 : List Bool) (r : Bool) (w : World) (hr0_1 : Kd.C k52 w A0_1 l0_1.length l0_1) (hc0_1 : l0_1.length ≤ c0_1) (hr0_2 : Kd.C (Kd.slice 3 (Kd.int .i64)) w A0_2 l0_2.length l0_2) (hc0_2 : l0_2.length ≤ c0_2) (hr0_3 : Kd.C Kd.bool w A0_3 l0_3.length l0_3) (hc0_3 : l0_3.length ≤ c0_3) (h : table_may.f k a0_0 l0_1 l0_2 l0_3 = some r) :
  Calls Try.prog 25 #[.agg #[.int .i64 a0_0, .slice A0_1 l0_1.length c0_1, .slice A0_2 l0_2.length c0_2, .slice A0_3 l0_3.length c0_3]] w fun e w' => e = .returned (.bool r) ∧ Below w.heap.size w w' := by
 have hu26 := Try.underlying26
 have hu52 := Try.underlying52
 have HR0_1 := Aside0.mk hr0_1
 have HC0_1 := Aside0.mk hc0_1
 clear hr0_1 hc0_1
 have HR0_2 := Aside0.mk hr0_2
 have HC0_2 := Aside0.mk hc0_2
 clear hr0_2 hc0_2
 have HR0_3 := Aside0.mk hr0_3
 have HC0_3 := Aside0.mk hc0_3
 clear hr0_3 hc0_3
 have HB := Aside0.mk (Below.refl w.heap.size w)
 have H : ((table_between.f a0_0 1 255).bind fun t109 => (if t109 = true then ((table_between.f (l0_2.length : Int) 1 255).bind fun t110 => (if t110 = true then (if (l0_3.length : Int) = (l0_2.length : Int) then (table_may.j0 k (decide ((l0_1.length : Int) > 255)) a0_0 l0_1 l0_2 l0_3) else (table_may.j0 k true a0_0 l0_1 l0_2 l0_3)) else (table_may.j0 k true a0_0 l0_1 l0_2 l0_3))) else (table_may.j0 k true a0_0 l0_1 l0_2 l0_3))) = some r := h
 clear h
 have HC2 := Aside0.mk H
 clear H
 go_enter Try.func25, Try.ntmps25
 go_upto_region 1 with (first | ((with_reducible refine gate_dst (N := 1) rfl ?_); xgg_; refine box_event ?hg (N := 1) ?hd (cs := #[.int .i64 a0_0, .slice A0_1 l0_1.length c0_1, .slice A0_2 l0_2.length c0_2, .slice A0_3 l0_3.length c0_3]) (t := 26) ?hr ?_; (case hd => rfl); (case hg => rfl); (case hr => xgs_); intro gb108 hg w3 hbox hb; have n0_ := Aside0.mk (below_step (by repeat (first | (with_reducible first | exact HB.out | apply below_alloc | apply pw_below_drewN | apply below_drew1) | exact HB.out)) hb); have n1_ := Aside0.mk (hbox); have n2_ := Aside0.mk ((by rw [hg]; exact (below_size (by repeat (first | (with_reducible first | exact HB.out | apply below_alloc | apply pw_below_drewN | apply below_drew1) | exact HB.out))) : w.heap.size ≤ gb108)); have n3_ := Aside0.mk ((by rw [hg]; exact (below_size (by repeat (first | (with_reducible first | exact HB.out | apply below_alloc | apply pw_below_drewN | apply below_drew1) | exact HB.out))) : w.heap.size ≤ gb108)); clear HB; have HB := n0_; have BK108 := n1_; have GW108 := n2_; have GE108 := n3_; clear n0_ n1_ n2_ n3_; clear hb hbox hg))
 (try simp only [Act.put, List.setIfInBounds_toArray, List.set_cons_zero, List.set_cons_succ])
 go_cut [32] (fun v32 wc => ∃ (kq : Nat) (x32_1 : Bool), v32 = .bool x32_1 ∧ Aside0 (table_may.j0 kq x32_1 a0_0 l0_1 l0_2 l0_3 = some r) ∧ Aside0 (kq ≤ k) ∧ Aside0 (wc.heap[gb108]? = some (.cells #[.int .i64 a0_0, (.slice A0_1 l0_1.length c0_1), (.slice A0_2 l0_2.length c0_2), (.slice A0_3 l0_3.length c0_3)] 26 (0, 0))) ∧ Aside0 (Below w.heap.size w wc))
 case first =>
  have H := HC2.out
  clear HC2
  replace H := Option.bind_eq_some_iff.mp H
  obtain ⟨t109, A40, H⟩ := H
  replace H : (if t109 = true then ((table_between.f (l0_2.length : Int) 1 255).bind fun t110 => (if t110 = true then (if (l0_3.length : Int) = (l0_2.length : Int) then (table_may.j0 k (decide ((l0_1.length : Int) > 255)) a0_0 l0_1 l0_2 l0_3) else (table_may.j0 k true a0_0 l0_1 l0_2 l0_3)) else (table_may.j0 k true a0_0 l0_1 l0_2 l0_3))) else (table_may.j0 k true a0_0 l0_1 l0_2 l0_3)) = some r := H
  have A4 := Aside0.mk A40
  clear A40
  by_cases c5 : t109 = true
  ·subst c5
   have H1 : ((table_between.f (l0_2.length : Int) 1 255).bind fun t110 => (if t110 = true then (if (l0_3.length : Int) = (l0_2.length : Int) then (table_may.j0 k (decide ((l0_1.length : Int) > 255)) a0_0 l0_1 l0_2 l0_3) else (table_may.j0 k true a0_0 l0_1 l0_2 l0_3)) else (table_may.j0 k true a0_0 l0_1 l0_2 l0_3))) = some r := by rw [if_pos rfl] at H; exact H
   clear H
   have H := H1
   clear H1
   replace H := Option.bind_eq_some_iff.mp H
   obtain ⟨t110, A60, H⟩ := H
   replace H : (if t110 = true then (if (l0_3.length : Int) = (l0_2.length : Int) then (table_may.j0 k (decide ((l0_1.length : Int) > 255)) a0_0 l0_1 l0_2 l0_3) else (table_may.j0 k true a0_0 l0_1 l0_2 l0_3)) else (table_may.j0 k true a0_0 l0_1 l0_2 l0_3)) = some r := H
   have A6 := Aside0.mk A60
   clear A60
   by_cases c7 : t110 = true
   ·subst c7
    have H1 : (if (l0_3.length : Int) = (l0_2.length : Int) then (table_may.j0 k (decide ((l0_1.length : Int) > 255)) a0_0 l0_1 l0_2 l0_3) else (table_may.j0 k true a0_0 l0_1 l0_2 l0_3)) = some r := by rw [if_pos rfl] at H; exact H
    clear H
    have H := H1
    clear H1
    by_cases c8 : (l0_3.length : Int) = (l0_2.length : Int)
    ·rw [if_pos c8] at H
     have c8b0 : ((l0_3.length : Int) == (l0_2.length : Int)) = true := beq_iff_eq.mpr c8
     have c8b1 : ((l0_3.length : Int) != (l0_2.length : Int)) = false := bne_eq_false_iff_eq.mpr c8
     have c8b2 : (l0_3.length == l0_2.length) = true := by first | simpa using c8 | (simp at c8 ⊢; omega)
     clear c8
     (first | rw [c8b0] | (simp only [i64_w, i32_w]; rw [c8b0]) | skip)
     have H' := Aside0.mk H
     clear H
     have hcz9_0 : w3.cell? ⟨gb108, 0, none⟩ = some (.int .i64 a0_0) := (blk_cell BK108.out 0).trans rfl
     have hcz9_1 : w3.cell? ⟨gb108, 1, none⟩ = some (.slice A0_1 l0_1.length c0_1) := (blk_cell BK108.out 1).trans rfl
     have hcz9_2 : w3.cell? ⟨gb108, 2, none⟩ = some (.slice A0_2 l0_2.length c0_2) := (blk_cell BK108.out 2).trans rfl
     have hcz9_3 : w3.cell? ⟨gb108, 3, none⟩ = some (.slice A0_3 l0_3.length c0_3) := (blk_cell BK108.out 3).trans rfl
     have hfz9_0 := blk_frozen BK108.out 0
     have hfz9_1 := blk_frozen BK108.out 1
     have hfz9_2 := blk_frozen BK108.out 2
     have hfz9_3 := blk_frozen BK108.out 3
     go_wp2_with (first | ((with_reducible refine gate_callee (f := 33) rfl ?_); refine goesL_ (some 9) rfl rfl Try.func33 (by kernel_rfl) rfl #[.int .i64 a0_0, .int .i64 1, .int .i64 255] rfl (by xlm_) ?_; (with_reducible refine (table_between.calls a0_0 1 255 true _ A4.out).mono ?_); rintro e w' ⟨rfl, ⟨nd, rfl⟩⟩; refine ⟨_, rfl, ?_⟩) | (go_at_call 33; (with_reducible refine (table_between.calls (l0_2.length : Int) 1 255 true _ A6.out).mono ?_); rintro e w' ⟨rfl, ⟨nd, rfl⟩⟩))
     go_meet
     case rel => exact ⟨_, (decide ((l0_1.length : Int) > 255)), (by xrs_), H', ⟨by first | omega | exact Nat.le_refl _⟩, ⟨by xkb_; exact BK108.out⟩, ⟨by repeat (first | (with_reducible first | exact HB.out | apply below_alloc | apply pw_below_drewN | apply below_drew1 | refine below_set ?_ GE108.out) | exact HB.out)⟩⟩
    ·rw [if_neg c8] at H
     have c8b0 : ((l0_3.length : Int) == (l0_2.length : Int)) = false := beq_eq_false_iff_ne.mpr c8
     have c8b1 : ((l0_3.length : Int) != (l0_2.length : Int)) = true := bne_iff_ne.mpr c8
     have c8b2 : (l0_3.length == l0_2.length) = false := by first | simpa using c8 | (simp at c8 ⊢; omega)
     (first | rw [c8b0] | (simp only [i64_w, i32_w]; rw [c8b0]) | skip)
     have H' := Aside0.mk H
     clear H
     have hcz10_0 : w3.cell? ⟨gb108, 0, none⟩ = some (.int .i64 a0_0) := (blk_cell BK108.out 0).trans rfl
     have hcz10_1 : w3.cell? ⟨gb108, 1, none⟩ = some (.slice A0_1 l0_1.length c0_1) := (blk_cell BK108.out 1).trans rfl
     have hcz10_2 : w3.cell? ⟨gb108, 2, none⟩ = some (.slice A0_2 l0_2.length c0_2) := (blk_cell BK108.out 2).trans rfl
     have hcz10_3 : w3.cell? ⟨gb108, 3, none⟩ = some (.slice A0_3 l0_3.length c0_3) := (blk_cell BK108.out 3).trans rfl
     have hfz10_0 := blk_frozen BK108.out 0
     have hfz10_1 := blk_frozen BK108.out 1
     have hfz10_2 := blk_frozen BK108.out 2
     have hfz10_3 := blk_frozen BK108.out 3
     go_wp2_with (first | ((with_reducible refine gate_callee (f := 33) rfl ?_); refine goesL_ (some 9) rfl rfl Try.func33 (by kernel_rfl) rfl #[.int .i64 a0_0, .int .i64 1, .int .i64 255] rfl (by xlm_) ?_; (with_reducible refine (table_between.calls a0_0 1 255 true _ A4.out).mono ?_); rintro e w' ⟨rfl, ⟨nd, rfl⟩⟩; refine ⟨_, rfl, ?_⟩) | (go_at_call 33; (with_reducible refine (table_between.calls (l0_2.length : Int) 1 255 true _ A6.out).mono ?_); rintro e w' ⟨rfl, ⟨nd, rfl⟩⟩))
     go_meet
     case rel => exact ⟨_, (true), (by xrs_), H', ⟨by first | omega | exact Nat.le_refl _⟩, ⟨by xkb_; exact BK108.out⟩, ⟨by repeat (first | (with_reducible first | exact HB.out | apply below_alloc | apply pw_below_drewN | apply below_drew1 | refine below_set ?_ GE108.out) | exact HB.out)⟩⟩
   ·replace c7 := Bool.eq_false_iff.mpr c7
    subst c7
    have H1 : (table_may.j0 k true a0_0 l0_1 l0_2 l0_3) = some r := by rw [if_neg (show ¬ (false = true) by decide)] at H; exact H
    clear H
    have H := H1
    clear H1
    have H' := Aside0.mk H
    clear H
    have hcz11_0 : w3.cell? ⟨gb108, 0, none⟩ = some (.int .i64 a0_0) := (blk_cell BK108.out 0).trans rfl
    have hcz11_1 : w3.cell? ⟨gb108, 1, none⟩ = some (.slice A0_1 l0_1.length c0_1) := (blk_cell BK108.out 1).trans rfl
    have hcz11_2 : w3.cell? ⟨gb108, 2, none⟩ = some (.slice A0_2 l0_2.length c0_2) := (blk_cell BK108.out 2).trans rfl
    have hcz11_3 : w3.cell? ⟨gb108, 3, none⟩ = some (.slice A0_3 l0_3.length c0_3) := (blk_cell BK108.out 3).trans rfl
    have hfz11_0 := blk_frozen BK108.out 0
    have hfz11_1 := blk_frozen BK108.out 1
    have hfz11_2 := blk_frozen BK108.out 2
    have hfz11_3 := blk_frozen BK108.out 3
    go_wp2_with (first | ((with_reducible refine gate_callee (f := 33) rfl ?_); refine goesL_ (some 9) rfl rfl Try.func33 (by kernel_rfl) rfl #[.int .i64 a0_0, .int .i64 1, .int .i64 255] rfl (by xlm_) ?_; (with_reducible refine (table_between.calls a0_0 1 255 true _ A4.out).mono ?_); rintro e w' ⟨rfl, ⟨nd, rfl⟩⟩; refine ⟨_, rfl, ?_⟩) | (go_at_call 33; (with_reducible refine (table_between.calls (l0_2.length : Int) 1 255 false _ A6.out).mono ?_); rintro e w' ⟨rfl, ⟨nd, rfl⟩⟩))
    go_meet
    case rel => exact ⟨_, (true), (by xrs_), H', ⟨by first | omega | exact Nat.le_refl _⟩, ⟨by xkb_; exact BK108.out⟩, ⟨by repeat (first | (with_reducible first | exact HB.out | apply below_alloc | apply pw_below_drewN | apply below_drew1 | refine below_set ?_ GE108.out) | exact HB.out)⟩⟩
  ·replace c5 := Bool.eq_false_iff.mpr c5
   subst c5
   have H1 : (table_may.j0 k true a0_0 l0_1 l0_2 l0_3) = some r := by rw [if_neg (show ¬ (false = true) by decide)] at H; exact H
   clear H
   have H := H1
   clear H1
   have H' := Aside0.mk H
   clear H
   have hcz12_0 : w3.cell? ⟨gb108, 0, none⟩ = some (.int .i64 a0_0) := (blk_cell BK108.out 0).trans rfl
   have hcz12_1 : w3.cell? ⟨gb108, 1, none⟩ = some (.slice A0_1 l0_1.length c0_1) := (blk_cell BK108.out 1).trans rfl
   have hcz12_2 : w3.cell? ⟨gb108, 2, none⟩ = some (.slice A0_2 l0_2.length c0_2) := (blk_cell BK108.out 2).trans rfl
   have hcz12_3 : w3.cell? ⟨gb108, 3, none⟩ = some (.slice A0_3 l0_3.length c0_3) := (blk_cell BK108.out 3).trans rfl
   have hfz12_0 := blk_frozen BK108.out 0
   have hfz12_1 := blk_frozen BK108.out 1
   have hfz12_2 := blk_frozen BK108.out 2
   have hfz12_3 := blk_frozen BK108.out 3
   go_wp2_with (first | ((with_reducible refine gate_callee (f := 33) rfl ?_); refine goesL_ (some 9) rfl rfl Try.func33 (by kernel_rfl) rfl #[.int .i64 a0_0, .int .i64 1, .int .i64 255] rfl (by xlm_) ?_; (with_reducible refine (table_between.calls a0_0 1 255 false _ A4.out).mono ?_); rintro e w' ⟨rfl, ⟨nd, rfl⟩⟩; refine ⟨_, rfl, ?_⟩))
   go_meet
   case rel => exact ⟨_, (true), (by xrs_), H', ⟨by first | omega | exact Nat.le_refl _⟩, ⟨by xkb_; exact BK108.out⟩, ⟨by repeat (first | (with_reducible first | exact HB.out | apply below_alloc | apply pw_below_drewN | apply below_drew1 | refine below_set ?_ GE108.out) | exact HB.out)⟩⟩
 case rest =>
  clear HC2
  xcl_ c2 p2 c3 c5 c7 c8 c8b0 c8b1 c8b2 hcz10_0 hcz10_1 hcz10_2 hcz10_3 hcz11_0 hcz11_1 hcz11_2 hcz11_3 hcz12_0 hcz12_1 hcz12_2 hcz12_3 hcz9_0 hcz9_1 hcz9_2 hcz9_3 hfz10_0 hfz10_1 hfz10_2 hfz10_3 hfz11_0 hfz11_1 hfz11_2 hfz11_3 hfz12_0 hfz12_1 hfz12_2 hfz12_3 hfz9_0 hfz9_1 hfz9_2 hfz9_3
  obtain ⟨kq, x32_1, rfl, HA, HJ1, BK108, HB⟩ := hcut
  cases kq with
  | zero => exact absurd HA.out (by simp [table_may.j0])
  | succ kj1 =>
   have H := HA.out
   clear HA
   simp only [table_may.j0] at H
   by_cases c13 : x32_1 = true
   ·subst c13
    have H1 : (some false) = some r := by rw [if_pos rfl] at H; exact H
    clear H
    have H := H1
    clear H1
    obtain rfl := Option.some.inj H
    go_wp2
    go_ret
    exact ⟨by first | rfl | (simp [errW_none, errW_some] <;> rfl) | (simp [*, errW_none, errW_some] <;> rfl), by repeat (first | (with_reducible first | exact HB.out | apply below_alloc | apply pw_below_drewN | apply below_drew1 | refine below_set ?_ GE108.out) | exact HB.out)⟩
   ·replace c13 := Bool.eq_false_iff.mpr c13
    subst c13
    have H1 : (table_may.l0 kj1 l0_1 (l0_1.length : Int) 0 a0_0 l0_1 l0_2 l0_3) = some r := by rw [if_neg (show ¬ (false = true) by decide)] at H; exact H
    clear H
    have H := H1
    clear H1
    have H' := Aside0.mk H
    clear H
    have hcz14_0 : wc.cell? ⟨gb108, 0, none⟩ = some (.int .i64 a0_0) := (blk_cell BK108.out 0).trans rfl
    have hcz14_1 : wc.cell? ⟨gb108, 1, none⟩ = some (.slice A0_1 l0_1.length c0_1) := (blk_cell BK108.out 1).trans rfl
    have hcz14_2 : wc.cell? ⟨gb108, 2, none⟩ = some (.slice A0_2 l0_2.length c0_2) := (blk_cell BK108.out 2).trans rfl
    have hcz14_3 : wc.cell? ⟨gb108, 3, none⟩ = some (.slice A0_3 l0_3.length c0_3) := (blk_cell BK108.out 3).trans rfl
    have hfz14_0 := blk_frozen BK108.out 0
    have hfz14_1 := blk_frozen BK108.out 1
    have hfz14_2 := blk_frozen BK108.out 2
    have hfz14_3 := blk_frozen BK108.out 3
    go_wp2
    go_loopg [36] kj1 (fun kq v36 w' => ∃ (x36_2 : Int), v36 = .int .i64 x36_2 ∧ Aside0 (table_may.l0 kq l0_1 (l0_1.length : Int) x36_2 a0_0 l0_1 l0_2 l0_3 = some r) ∧ Aside0 (kq ≤ kj1) ∧ Aside0 (w'.heap[gb108]? = some (.cells #[.int .i64 a0_0, (.slice A0_1 l0_1.length c0_1), (.slice A0_2 l0_2.length c0_2), (.slice A0_3 l0_3.length c0_3)] 26 (0, 0))) ∧ Aside0 (Below w.heap.size w w'))
    case atStart => exact ⟨(0), (by xrs_), H', ⟨Nat.le_refl _⟩, ⟨by xkb_; exact BK108.out⟩, ⟨by repeat (first | (with_reducible first | exact HB.out | apply below_alloc | apply pw_below_drewN | apply below_drew1 | refine below_set ?_ GE108.out) | exact HB.out)⟩⟩
    case round =>
     clear H'
     xcl_ c1 c2 p2 c3 c5 c7 c8 c8b0 c8b1 c8b2 c13 hcz10_0 hcz10_1 hcz10_2 hcz10_3 hcz11_0 hcz11_1 hcz11_2 hcz11_3 hcz12_0 hcz12_1 hcz12_2 hcz12_3 hcz14_0 hcz14_1 hcz14_2 hcz14_3 hcz9_0 hcz9_1 hcz9_2 hcz9_3 hfz10_0 hfz10_1 hfz10_2 hfz10_3 hfz11_0 hfz11_1 hfz11_2 hfz11_3 hfz12_0 hfz12_1 hfz12_2 hfz12_3 hfz14_0 hfz14_1 hfz14_2 hfz14_3 hfz9_0 hfz9_1 hfz9_2 hfz9_3 p2
     obtain ⟨x36_2, rfl, HA, HK2, BK108, HB⟩ := hrel
     cases gk with
     | zero => exact absurd HA.out (by simp [table_may.l0])
     | succ k2 =>
      have H := HA.out
      clear HA
      simp only [table_may.l0] at H
      by_cases c15 : x36_2 < (l0_1.length : Int)
      ·rw [if_pos c15] at H
       have c15b0 : decide (x36_2 < (l0_1.length : Int)) = true := decide_eq_true c15
       clear c15
       by_cases c16 : 0 ≤ x36_2
       ·rw [if_pos c16] at H
        have c16b0 : decide (0 ≤ x36_2) = true := decide_eq_true c16
        clear c16
        by_cases c17 : x36_2 < (l0_1.length : Int)
        ·rw [if_pos c17] at H
         have c17b0 : decide (x36_2 < (l0_1.length : Int)) = true := decide_eq_true c17
         clear c17
         replace H := Option.bind_eq_some_iff.mp H
         obtain ⟨t113, A180, H⟩ := H
         replace H : (if t113 = true then ((table_between.f ((rd_T52 l0_1 x36_2).f1) 0 255).bind fun t114 => (if t114 = true then (table_may.l0 k2 l0_1 (l0_1.length : Int) (wrap64 (x36_2 + 1)) a0_0 l0_1 l0_2 l0_3) else (some false))) else (some false)) = some r := H
         have A18 := Aside0.mk A180
         clear A180
         by_cases c19 : t113 = true
         ·subst c19
          have H1 : ((table_between.f ((rd_T52 l0_1 x36_2).f1) 0 255).bind fun t114 => (if t114 = true then (table_may.l0 k2 l0_1 (l0_1.length : Int) (wrap64 (x36_2 + 1)) a0_0 l0_1 l0_2 l0_3) else (some false))) = some r := by rw [if_pos rfl] at H; exact H
          clear H
          have H := H1
          clear H1
          replace H := Option.bind_eq_some_iff.mp H
          obtain ⟨t114, A200, H⟩ := H
          replace H : (if t114 = true then (table_may.l0 k2 l0_1 (l0_1.length : Int) (wrap64 (x36_2 + 1)) a0_0 l0_1 l0_2 l0_3) else (some false)) = some r := H
          have A20 := Aside0.mk A200
          clear A200
          by_cases c21 : t114 = true
          ·subst c21
           have H1 : (table_may.l0 k2 l0_1 (l0_1.length : Int) (wrap64 (x36_2 + 1)) a0_0 l0_1 l0_2 l0_3) = some r := by rw [if_pos rfl] at H; exact H
           clear H
           have H := H1
           clear H1
           have H' := Aside0.mk H
           clear H
           have p111 : 0 ≤ (x36_2 : Int) := of_decide_eq_true (by xas_)
           have q111 : x36_2 < (l0_1.length : Int) := of_decide_eq_true (by xas_)
           obtain ⟨ad111, e111, hx111_0, hx111_1⟩ := at_T52 HR0_1.out x36_2 p111 q111
           cases e111
           replace hx111_0 := (HB.out.cell (World.block_lt_of_cell? w _ hx111_0)).trans hx111_0
           replace hx111_1 := (HB.out.cell (World.block_lt_of_cell? w _ hx111_1)).trans hx111_1
           replace p111 := eq_true p111
           replace q111 := eq_true q111
           go_wp2_with (first | ((with_reducible refine gate_dst (N := 4) rfl ?_); xgg_; refine box_event ?hg (N := 4) ?hd (cs := #[.int .i64 0, .int .i64 0]) (t := 52) ?hr ?_; (case hd => rfl); (case hg => rfl); (case hr => xgs_); intro gb112 hg w22 hbox hb; have n0_ := Aside0.mk (blk_below (g := gb108) (o := .cells #[.int .i64 a0_0, .slice (some ad111) l0_1.length c0_1, .slice A0_2 l0_2.length c0_2, .slice A0_3 l0_3.length c0_3] 26 (0, 0)) (by xkb_; exact BK108.out) hb); have n1_ := Aside0.mk (below_step (by repeat (first | (with_reducible first | exact HB.out | apply below_alloc | apply pw_below_drewN | apply below_drew1 | refine below_set ?_ GE108.out) | exact HB.out)) hb); have n2_ := Aside0.mk (hbox); have n3_ := Aside0.mk ((by rw [hg]; exact (below_size (by repeat (first | (with_reducible first | exact HB.out | apply below_alloc | apply pw_below_drewN | apply below_drew1 | refine below_set ?_ GE108.out) | exact HB.out))) : w.heap.size ≤ gb112)); have n4_ := Aside0.mk ((by rw [hg]; exact (below_size (by repeat (first | (with_reducible first | exact HB.out | apply below_alloc | apply pw_below_drewN | apply below_drew1 | refine below_set ?_ GE108.out) | exact HB.out))) : w.heap.size ≤ gb112)); have n5_ := Aside0.mk ((by rw [hg]; exact Nat.ne_of_lt (blk_lt (g := gb108) (o := .cells #[.int .i64 a0_0, .slice (some ad111) l0_1.length c0_1, .slice A0_2 l0_2.length c0_2, .slice A0_3 l0_3.length c0_3] 26 (0, 0)) (by xkb_; exact BK108.out)) : gb108 ≠ gb112)); have n6_ := Aside0.mk ((by rw [hg]; exact Nat.ne_of_gt (blk_lt (g := gb108) (o := .cells #[.int .i64 a0_0, .slice (some ad111) l0_1.length c0_1, .slice A0_2 l0_2.length c0_2, .slice A0_3 l0_3.length c0_3] 26 (0, 0)) (by xkb_; exact BK108.out)) : gb112 ≠ gb108)); clear BK108; clear HB; have BK108 := n0_; have HB := n1_; have BK112 := n2_; have GW112 := n3_; have GE112 := n4_; have NB108_112 := n5_; have NB112_108 := n6_; clear n0_ n1_ n2_ n3_ n4_ n5_ n6_; clear hb hbox hg; have hnb23 := NB112_108.out; have hnc23 := NB108_112.out; have hcz24_0 : w22.cell? ⟨gb112, 0, none⟩ = some (.int .i64 0) := (blk_cell BK112.out 0).trans rfl; have hcz24_1 : w22.cell? ⟨gb112, 1, none⟩ = some (.int .i64 0) := (blk_cell BK112.out 1).trans rfl; have hfz24_0 := blk_frozen BK112.out 0; have hfz24_1 := blk_frozen BK112.out 1) | ((with_reducible refine gate_callee (f := 33) rfl ?_); refine goesL_ (some 42) rfl rfl Try.func33 (by kernel_rfl) rfl #[.int .i64 ((rd_T52 l0_1 x36_2).f0), .int .i64 0, .int .i64 16777215] rfl (by xlm_) ?_; (with_reducible refine (table_between.calls ((rd_T52 l0_1 x36_2).f0) 0 16777215 true _ A18.out).mono ?_); rintro e w' ⟨rfl, ⟨nd, rfl⟩⟩; refine ⟨_, rfl, ?_⟩) | (go_at_call 33; (with_reducible refine (table_between.calls ((rd_T52 l0_1 x36_2).f1) 0 255 true _ A20.out).mono ?_); rintro e w' ⟨rfl, ⟨nd, rfl⟩⟩))
           go_roundg k2
           case measure => have := HJ1.out; have := HK2.out; omega
           case rel => exact ⟨(wrap64 (x36_2 + 1)), (by xrs_), H', ⟨by have := HJ1.out; have := HK2.out; omega⟩, ⟨by xkb_; refine blk_far ?_ NB108_112.out _; xkb_; refine blk_far ?_ NB108_112.out _; xkb_; exact BK108.out⟩, ⟨by repeat (first | (with_reducible first | exact HB.out | apply below_alloc | apply pw_below_drewN | apply below_drew1 | refine below_set ?_ GE108.out | refine below_set ?_ GE112.out) | exact HB.out)⟩⟩
          ·replace c21 := Bool.eq_false_iff.mpr c21
           subst c21
           have H1 : (some false) = some r := by rw [if_neg (show ¬ (false = true) by decide)] at H; exact H
           clear H
           have H := H1
           clear H1
           obtain rfl := Option.some.inj H
           have p111 : 0 ≤ (x36_2 : Int) := of_decide_eq_true (by xas_)
           have q111 : x36_2 < (l0_1.length : Int) := of_decide_eq_true (by xas_)
           obtain ⟨ad111, e111, hx111_0, hx111_1⟩ := at_T52 HR0_1.out x36_2 p111 q111
           cases e111
           replace hx111_0 := (HB.out.cell (World.block_lt_of_cell? w _ hx111_0)).trans hx111_0
           replace hx111_1 := (HB.out.cell (World.block_lt_of_cell? w _ hx111_1)).trans hx111_1
           replace p111 := eq_true p111
           replace q111 := eq_true q111
           go_wp2_with (first | ((with_reducible refine gate_dst (N := 4) rfl ?_); xgg_; refine box_event ?hg (N := 4) ?hd (cs := #[.int .i64 0, .int .i64 0]) (t := 52) ?hr ?_; (case hd => rfl); (case hg => rfl); (case hr => xgs_); intro gb112 hg w25 hbox hb; have n0_ := Aside0.mk (blk_below (g := gb108) (o := .cells #[.int .i64 a0_0, .slice (some ad111) l0_1.length c0_1, .slice A0_2 l0_2.length c0_2, .slice A0_3 l0_3.length c0_3] 26 (0, 0)) (by xkb_; exact BK108.out) hb); have n1_ := Aside0.mk (below_step (by repeat (first | (with_reducible first | exact HB.out | apply below_alloc | apply pw_below_drewN | apply below_drew1 | refine below_set ?_ GE108.out) | exact HB.out)) hb); have n2_ := Aside0.mk (hbox); have n3_ := Aside0.mk ((by rw [hg]; exact (below_size (by repeat (first | (with_reducible first | exact HB.out | apply below_alloc | apply pw_below_drewN | apply below_drew1 | refine below_set ?_ GE108.out) | exact HB.out))) : w.heap.size ≤ gb112)); have n4_ := Aside0.mk ((by rw [hg]; exact (below_size (by repeat (first | (with_reducible first | exact HB.out | apply below_alloc | apply pw_below_drewN | apply below_drew1 | refine below_set ?_ GE108.out) | exact HB.out))) : w.heap.size ≤ gb112)); have n5_ := Aside0.mk ((by rw [hg]; exact Nat.ne_of_lt (blk_lt (g := gb108) (o := .cells #[.int .i64 a0_0, .slice (some ad111) l0_1.length c0_1, .slice A0_2 l0_2.length c0_2, .slice A0_3 l0_3.length c0_3] 26 (0, 0)) (by xkb_; exact BK108.out)) : gb108 ≠ gb112)); have n6_ := Aside0.mk ((by rw [hg]; exact Nat.ne_of_gt (blk_lt (g := gb108) (o := .cells #[.int .i64 a0_0, .slice (some ad111) l0_1.length c0_1, .slice A0_2 l0_2.length c0_2, .slice A0_3 l0_3.length c0_3] 26 (0, 0)) (by xkb_; exact BK108.out)) : gb112 ≠ gb108)); clear BK108; clear HB; have BK108 := n0_; have HB := n1_; have BK112 := n2_; have GW112 := n3_; have GE112 := n4_; have NB108_112 := n5_; have NB112_108 := n6_; clear n0_ n1_ n2_ n3_ n4_ n5_ n6_; clear hb hbox hg; have hnb26 := NB112_108.out; have hnc26 := NB108_112.out; have hcz27_0 : w25.cell? ⟨gb112, 0, none⟩ = some (.int .i64 0) := (blk_cell BK112.out 0).trans rfl; have hcz27_1 : w25.cell? ⟨gb112, 1, none⟩ = some (.int .i64 0) := (blk_cell BK112.out 1).trans rfl; have hfz27_0 := blk_frozen BK112.out 0; have hfz27_1 := blk_frozen BK112.out 1) | ((with_reducible refine gate_callee (f := 33) rfl ?_); refine goesL_ (some 42) rfl rfl Try.func33 (by kernel_rfl) rfl #[.int .i64 ((rd_T52 l0_1 x36_2).f0), .int .i64 0, .int .i64 16777215] rfl (by xlm_) ?_; (with_reducible refine (table_between.calls ((rd_T52 l0_1 x36_2).f0) 0 16777215 true _ A18.out).mono ?_); rintro e w' ⟨rfl, ⟨nd, rfl⟩⟩; refine ⟨_, rfl, ?_⟩) | (go_at_call 33; (with_reducible refine (table_between.calls ((rd_T52 l0_1 x36_2).f1) 0 255 false _ A20.out).mono ?_); rintro e w' ⟨rfl, ⟨nd, rfl⟩⟩))
           go_ret
           exact ⟨by first | rfl | (simp [errW_none, errW_some] <;> rfl) | (simp [*, errW_none, errW_some] <;> rfl), by repeat (first | (with_reducible first | exact HB.out | apply below_alloc | apply pw_below_drewN | apply below_drew1 | refine below_set ?_ GE108.out | refine below_set ?_ GE112.out) | exact HB.out)⟩
         ·replace c19 := Bool.eq_false_iff.mpr c19
          subst c19
          have H1 : (some false) = some r := by rw [if_neg (show ¬ (false = true) by decide)] at H; exact H
          clear H
          have H := H1
          clear H1
          obtain rfl := Option.some.inj H
          have p111 : 0 ≤ (x36_2 : Int) := of_decide_eq_true (by xas_)
          have q111 : x36_2 < (l0_1.length : Int) := of_decide_eq_true (by xas_)
          obtain ⟨ad111, e111, hx111_0, hx111_1⟩ := at_T52 HR0_1.out x36_2 p111 q111
          cases e111
          replace hx111_0 := (HB.out.cell (World.block_lt_of_cell? w _ hx111_0)).trans hx111_0
          replace hx111_1 := (HB.out.cell (World.block_lt_of_cell? w _ hx111_1)).trans hx111_1
          replace p111 := eq_true p111
          replace q111 := eq_true q111
          go_wp2_with (first | ((with_reducible refine gate_dst (N := 4) rfl ?_); xgg_; refine box_event ?hg (N := 4) ?hd (cs := #[.int .i64 0, .int .i64 0]) (t := 52) ?hr ?_; (case hd => rfl); (case hg => rfl); (case hr => xgs_); intro gb112 hg w28 hbox hb; have n0_ := Aside0.mk (blk_below (g := gb108) (o := .cells #[.int .i64 a0_0, .slice (some ad111) l0_1.length c0_1, .slice A0_2 l0_2.length c0_2, .slice A0_3 l0_3.length c0_3] 26 (0, 0)) (by xkb_; exact BK108.out) hb); have n1_ := Aside0.mk (below_step (by repeat (first | (with_reducible first | exact HB.out | apply below_alloc | apply pw_below_drewN | apply below_drew1 | refine below_set ?_ GE108.out) | exact HB.out)) hb); have n2_ := Aside0.mk (hbox); have n3_ := Aside0.mk ((by rw [hg]; exact (below_size (by repeat (first | (with_reducible first | exact HB.out | apply below_alloc | apply pw_below_drewN | apply below_drew1 | refine below_set ?_ GE108.out) | exact HB.out))) : w.heap.size ≤ gb112)); have n4_ := Aside0.mk ((by rw [hg]; exact (below_size (by repeat (first | (with_reducible first | exact HB.out | apply below_alloc | apply pw_below_drewN | apply below_drew1 | refine below_set ?_ GE108.out) | exact HB.out))) : w.heap.size ≤ gb112)); have n5_ := Aside0.mk ((by rw [hg]; exact Nat.ne_of_lt (blk_lt (g := gb108) (o := .cells #[.int .i64 a0_0, .slice (some ad111) l0_1.length c0_1, .slice A0_2 l0_2.length c0_2, .slice A0_3 l0_3.length c0_3] 26 (0, 0)) (by xkb_; exact BK108.out)) : gb108 ≠ gb112)); have n6_ := Aside0.mk ((by rw [hg]; exact Nat.ne_of_gt (blk_lt (g := gb108) (o := .cells #[.int .i64 a0_0, .slice (some ad111) l0_1.length c0_1, .slice A0_2 l0_2.length c0_2, .slice A0_3 l0_3.length c0_3] 26 (0, 0)) (by xkb_; exact BK108.out)) : gb112 ≠ gb108)); clear BK108; clear HB; have BK108 := n0_; have HB := n1_; have BK112 := n2_; have GW112 := n3_; have GE112 := n4_; have NB108_112 := n5_; have NB112_108 := n6_; clear n0_ n1_ n2_ n3_ n4_ n5_ n6_; clear hb hbox hg; have hnb29 := NB112_108.out; have hnc29 := NB108_112.out; have hcz30_0 : w28.cell? ⟨gb112, 0, none⟩ = some (.int .i64 0) := (blk_cell BK112.out 0).trans rfl; have hcz30_1 : w28.cell? ⟨gb112, 1, none⟩ = some (.int .i64 0) := (blk_cell BK112.out 1).trans rfl; have hfz30_0 := blk_frozen BK112.out 0; have hfz30_1 := blk_frozen BK112.out 1) | ((with_reducible refine gate_callee (f := 33) rfl ?_); refine goesL_ (some 42) rfl rfl Try.func33 (by kernel_rfl) rfl #[.int .i64 ((rd_T52 l0_1 x36_2).f0), .int .i64 0, .int .i64 16777215] rfl (by xlm_) ?_; (with_reducible refine (table_between.calls ((rd_T52 l0_1 x36_2).f0) 0 16777215 false _ A18.out).mono ?_); rintro e w' ⟨rfl, ⟨nd, rfl⟩⟩; refine ⟨_, rfl, ?_⟩))
          go_ret
          exact ⟨by first | rfl | (simp [errW_none, errW_some] <;> rfl) | (simp [*, errW_none, errW_some] <;> rfl), by repeat (first | (with_reducible first | exact HB.out | apply below_alloc | apply pw_below_drewN | apply below_drew1 | refine below_set ?_ GE108.out | refine below_set ?_ GE112.out) | exact HB.out)⟩
        ·rw [if_neg c17] at H
         exact absurd H (by simp)
       ·rw [if_neg c16] at H
        exact absurd H (by simp)
      ·rw [if_neg c15] at H
       have c15b0 : decide (x36_2 < (l0_1.length : Int)) = false := decide_eq_false c15
       clear c15
       have H' := Aside0.mk H
       clear H
       have hcz31_0 : wr.cell? ⟨gb108, 0, none⟩ = some (.int .i64 a0_0) := (blk_cell BK108.out 0).trans rfl
       have hcz31_1 : wr.cell? ⟨gb108, 1, none⟩ = some (.slice A0_1 l0_1.length c0_1) := (blk_cell BK108.out 1).trans rfl
       have hcz31_2 : wr.cell? ⟨gb108, 2, none⟩ = some (.slice A0_2 l0_2.length c0_2) := (blk_cell BK108.out 2).trans rfl
       have hcz31_3 : wr.cell? ⟨gb108, 3, none⟩ = some (.slice A0_3 l0_3.length c0_3) := (blk_cell BK108.out 3).trans rfl
       have hfz31_0 := blk_frozen BK108.out 0
       have hfz31_1 := blk_frozen BK108.out 1
       have hfz31_2 := blk_frozen BK108.out 2
       have hfz31_3 := blk_frozen BK108.out 3
       go_wp2
       go_loopg [54] k2 (fun kq v54 w' => ∃ (x54_3 : Int), v54 = .int .i64 x54_3 ∧ Aside0 (table_may.l1 kq l0_2 (l0_2.length : Int) x54_3 a0_0 l0_1 l0_2 l0_3 = some r) ∧ Aside0 (kq ≤ k2) ∧ Aside0 (w'.heap[gb108]? = some (.cells #[.int .i64 a0_0, (.slice A0_1 l0_1.length c0_1), (.slice A0_2 l0_2.length c0_2), (.slice A0_3 l0_3.length c0_3)] 26 (0, 0))) ∧ Aside0 (Below w.heap.size w w'))
       case atStart => exact ⟨(0), (by xrs_), H', ⟨Nat.le_refl _⟩, ⟨by xkb_; exact BK108.out⟩, ⟨by repeat (first | (with_reducible first | exact HB.out | apply below_alloc | apply pw_below_drewN | apply below_drew1 | refine below_set ?_ GE108.out) | exact HB.out)⟩⟩
       case round =>
        clear H'
        xcl_ c1 p1 q1 hx1 c2 p2 c3 c5 p6 c7 c8 c8b0 c8b1 c8b2 p11 q11 hx11 c13 c15 c15b0 c16 c16b0 c17 c17b0 c19 c21 c23 c25 c26 c29 hcz10_0 hcz10_1 hcz10_2 hcz10_3 hcz11_0 hcz11_1 hcz11_2 hcz11_3 hcz12_0 hcz12_1 hcz12_2 hcz12_3 hcz14_0 hcz14_1 hcz14_2 hcz14_3 hcz24_0 hcz24_1 hcz27_0 hcz27_1 hcz30_0 hcz30_1 hcz31_0 hcz31_1 hcz31_2 hcz31_3 hcz9_0 hcz9_1 hcz9_2 hcz9_3 hfz10_0 hfz10_1 hfz10_2 hfz10_3 hfz11_0 hfz11_1 hfz11_2 hfz11_3 hfz12_0 hfz12_1 hfz12_2 hfz12_3 hfz14_0 hfz14_1 hfz14_2 hfz14_3 hfz24_0 hfz24_1 hfz27_0 hfz27_1 hfz30_0 hfz30_1 hfz31_0 hfz31_1 hfz31_2 hfz31_3 hfz9_0 hfz9_1 hfz9_2 hfz9_3 hx111_0 hx111_1 p111 p2 q111
        obtain ⟨x54_3, rfl, HA, HK3, BK108, HB⟩ := hrel
        cases gk with
        | zero => exact absurd HA.out (by simp [table_may.l1])
        | succ k3 =>
         have H := HA.out
         clear HA
         simp only [table_may.l1] at H
         by_cases c32 : x54_3 < (l0_2.length : Int)
         ·rw [if_pos c32] at H
          have c32b0 : decide (x54_3 < (l0_2.length : Int)) = true := decide_eq_true c32
          clear c32
          by_cases c33 : 0 ≤ x54_3
          ·rw [if_pos c33] at H
           have c33b0 : decide (0 ≤ x54_3) = true := decide_eq_true c33
           clear c33
           by_cases c34 : x54_3 < (l0_2.length : Int)
           ·rw [if_pos c34] at H
            have c34b0 : decide (x54_3 < (l0_2.length : Int)) = true := decide_eq_true c34
            clear c34
            by_cases c35 : ((rd_L1 l0_2 x54_3).length : Int) = a0_0
            ·rw [if_pos c35] at H
             have c35b0 : (((rd_L1 l0_2 x54_3).length : Int) == a0_0) = true := beq_iff_eq.mpr c35
             have c35b1 : (((rd_L1 l0_2 x54_3).length : Int) != a0_0) = false := bne_eq_false_iff_eq.mpr c35
             clear c35
             replace H := Option.bind_eq_some_iff.mp H
             obtain ⟨t116, A360, H⟩ := H
             replace H : (if t116 = true then (some false) else (table_may.l1 k3 l0_2 (l0_2.length : Int) (wrap64 (x54_3 + 1)) a0_0 l0_1 l0_2 l0_3)) = some r := H
             have A36 := Aside0.mk A360
             clear A360
             by_cases c37 : t116 = true
             ·subst c37
              have H1 : (some false) = some r := by rw [if_pos rfl] at H; exact H
              clear H
              have H := H1
              clear H1
              obtain rfl := Option.some.inj H
              have p115 : 0 ≤ (x54_3 : Int) := of_decide_eq_true (by xas_)
              have q115 : x54_3 < (l0_2.length : Int) := of_decide_eq_true (by xas_)
              obtain ⟨ad115, A115_0, c115_0, e115, hx115_0, hl115_0, hi115_0⟩ := at_L1 HR0_2.out x54_3 p115 q115
              cases e115
              replace hx115_0 := (HB.out.cell (World.block_lt_of_cell? w _ hx115_0)).trans hx115_0
              have HR115_0 := Aside0.mk hi115_0
              have HC115_0 := Aside0.mk hl115_0
              clear hi115_0 hl115_0
              replace p115 := eq_true p115
              replace q115 := eq_true q115
              have hcz38_0 : wr.cell? ⟨gb108, 0, none⟩ = some (.int .i64 a0_0) := (blk_cell BK108.out 0).trans rfl
              have hcz38_1 : wr.cell? ⟨gb108, 1, none⟩ = some (.slice A0_1 l0_1.length c0_1) := (blk_cell BK108.out 1).trans rfl
              have hcz38_2 : wr.cell? ⟨gb108, 2, none⟩ = some (.slice (some ad115) l0_2.length c0_2) := (blk_cell BK108.out 2).trans rfl
              have hcz38_3 : wr.cell? ⟨gb108, 3, none⟩ = some (.slice A0_3 l0_3.length c0_3) := (blk_cell BK108.out 3).trans rfl
              have hfz38_0 := blk_frozen BK108.out 0
              have hfz38_1 := blk_frozen BK108.out 1
              have hfz38_2 := blk_frozen BK108.out 2
              have hfz38_3 := blk_frozen BK108.out 3
              go_wp2_with (first | (go_at_call 46; (with_reducible refine (slices_ContainsFunc_int_int__table_may_1.calls k3 _ _ (rd_L1 l0_2 x54_3) 0 true _ ?side1 ?side2 A36.out).mono ?_); (case side1 => repeat (first | exact (Kd.C_below HR115_0.out HB.out) | xkC_)); (case side2 => exact HC115_0.out); rintro e w' ⟨rfl, ⟨nd, rfl⟩⟩))
              go_ret
              exact ⟨by first | rfl | (simp [errW_none, errW_some] <;> rfl) | (simp [*, errW_none, errW_some] <;> rfl), by repeat (first | (with_reducible first | exact HB.out | apply below_alloc | apply pw_below_drewN | apply below_drew1 | refine below_set ?_ GE108.out) | exact HB.out)⟩
             ·replace c37 := Bool.eq_false_iff.mpr c37
              subst c37
              have H1 : (table_may.l1 k3 l0_2 (l0_2.length : Int) (wrap64 (x54_3 + 1)) a0_0 l0_1 l0_2 l0_3) = some r := by rw [if_neg (show ¬ (false = true) by decide)] at H; exact H
              clear H
              have H := H1
              clear H1
              have H' := Aside0.mk H
              clear H
              have p115 : 0 ≤ (x54_3 : Int) := of_decide_eq_true (by xas_)
              have q115 : x54_3 < (l0_2.length : Int) := of_decide_eq_true (by xas_)
              obtain ⟨ad115, A115_0, c115_0, e115, hx115_0, hl115_0, hi115_0⟩ := at_L1 HR0_2.out x54_3 p115 q115
              cases e115
              replace hx115_0 := (HB.out.cell (World.block_lt_of_cell? w _ hx115_0)).trans hx115_0
              have HR115_0 := Aside0.mk hi115_0
              have HC115_0 := Aside0.mk hl115_0
              clear hi115_0 hl115_0
              replace p115 := eq_true p115
              replace q115 := eq_true q115
              have hcz39_0 : wr.cell? ⟨gb108, 0, none⟩ = some (.int .i64 a0_0) := (blk_cell BK108.out 0).trans rfl
              have hcz39_1 : wr.cell? ⟨gb108, 1, none⟩ = some (.slice A0_1 l0_1.length c0_1) := (blk_cell BK108.out 1).trans rfl
              have hcz39_2 : wr.cell? ⟨gb108, 2, none⟩ = some (.slice (some ad115) l0_2.length c0_2) := (blk_cell BK108.out 2).trans rfl
              have hcz39_3 : wr.cell? ⟨gb108, 3, none⟩ = some (.slice A0_3 l0_3.length c0_3) := (blk_cell BK108.out 3).trans rfl
              have hfz39_0 := blk_frozen BK108.out 0
              have hfz39_1 := blk_frozen BK108.out 1
              have hfz39_2 := blk_frozen BK108.out 2
              have hfz39_3 := blk_frozen BK108.out 3
              go_wp2_with (first | (go_at_call 46; (with_reducible refine (slices_ContainsFunc_int_int__table_may_1.calls k3 _ _ (rd_L1 l0_2 x54_3) 0 false _ ?side1 ?side2 A36.out).mono ?_); (case side1 => repeat (first | exact (Kd.C_below HR115_0.out HB.out) | xkC_)); (case side2 => exact HC115_0.out); rintro e w' ⟨rfl, ⟨nd, rfl⟩⟩))
              go_roundg k3
              case measure => have := HJ1.out; have := HK2.out; have := HK3.out; omega
              case rel => exact ⟨(wrap64 (x54_3 + 1)), (by xrs_), H', ⟨by have := HJ1.out; have := HK2.out; have := HK3.out; omega⟩, ⟨by xkb_; exact BK108.out⟩, ⟨by repeat (first | (with_reducible first | exact HB.out | apply below_alloc | apply pw_below_drewN | apply below_drew1 | refine below_set ?_ GE108.out) | exact HB.out)⟩⟩
            ·rw [if_neg c35] at H
             have c35b0 : (((rd_L1 l0_2 x54_3).length : Int) == a0_0) = false := beq_eq_false_iff_ne.mpr c35
             have c35b1 : (((rd_L1 l0_2 x54_3).length : Int) != a0_0) = true := bne_iff_ne.mpr c35
             obtain rfl := Option.some.inj H
             have p115 : 0 ≤ (x54_3 : Int) := of_decide_eq_true (by xas_)
             have q115 : x54_3 < (l0_2.length : Int) := of_decide_eq_true (by xas_)
             obtain ⟨ad115, A115_0, c115_0, e115, hx115_0, hl115_0, hi115_0⟩ := at_L1 HR0_2.out x54_3 p115 q115
             cases e115
             replace hx115_0 := (HB.out.cell (World.block_lt_of_cell? w _ hx115_0)).trans hx115_0
             have HR115_0 := Aside0.mk hi115_0
             have HC115_0 := Aside0.mk hl115_0
             clear hi115_0 hl115_0
             replace p115 := eq_true p115
             replace q115 := eq_true q115
             have hcz40_0 : wr.cell? ⟨gb108, 0, none⟩ = some (.int .i64 a0_0) := (blk_cell BK108.out 0).trans rfl
             have hcz40_1 : wr.cell? ⟨gb108, 1, none⟩ = some (.slice A0_1 l0_1.length c0_1) := (blk_cell BK108.out 1).trans rfl
             have hcz40_2 : wr.cell? ⟨gb108, 2, none⟩ = some (.slice (some ad115) l0_2.length c0_2) := (blk_cell BK108.out 2).trans rfl
             have hcz40_3 : wr.cell? ⟨gb108, 3, none⟩ = some (.slice A0_3 l0_3.length c0_3) := (blk_cell BK108.out 3).trans rfl
             have hfz40_0 := blk_frozen BK108.out 0
             have hfz40_1 := blk_frozen BK108.out 1
             have hfz40_2 := blk_frozen BK108.out 2
             have hfz40_3 := blk_frozen BK108.out 3
             go_wp2
             go_ret
             exact ⟨by first | rfl | (simp [errW_none, errW_some] <;> rfl) | (simp [*, errW_none, errW_some] <;> rfl), by repeat (first | (with_reducible first | exact HB.out | apply below_alloc | apply pw_below_drewN | apply below_drew1 | refine below_set ?_ GE108.out) | exact HB.out)⟩
           ·rw [if_neg c34] at H
            exact absurd H (by simp)
          ·rw [if_neg c33] at H
           exact absurd H (by simp)
         ·rw [if_neg c32] at H
          have c32b0 : decide (x54_3 < (l0_2.length : Int)) = false := decide_eq_false c32
          clear c32
          obtain rfl := Option.some.inj H
          go_wp2
          go_ret
          exact ⟨by first | rfl | (simp [errW_none, errW_some] <;> rfl) | (simp [*, errW_none, errW_some] <;> rfl), by repeat (first | (with_reducible first | exact HB.out | apply below_alloc | apply pw_below_drewN | apply below_drew1 | refine below_set ?_ GE108.out) | exact HB.out)⟩
def table_known.f  : Option (Int × Int × Int × Int) := some (66, 82, 75, 49)
set_option maxHeartbeats 8000000 in
set_option maxRecDepth 100000 in
theorem table_known.calls  (r1 : Int) (r2 : Int) (r3 : Int) (r4 : Int) (w : World) (h : table_known.f  = some (r1, r2, r3, r4)) :
  Calls Try.prog 26 #[] w fun e w' => e = .returned (.agg #[.int .u8 r1, .int .u8 r2, .int .u8 r3, .int .u8 r4]) ∧ Below w.heap.size w w' := by
 have hu61 := Try.underlying61
 have HB := Aside0.mk (Below.refl w.heap.size w)
 have H : (some (66, 82, 75, 49)) = some (r1, r2, r3, r4) := h
 clear h
 simp only [Option.some.injEq, Prod.mk.injEq] at H
 obtain ⟨rfl, rfl, rfl, rfl⟩ := H
 go_enter Try.func26, Try.ntmps26
 go_wp2_with (first | ((with_reducible refine gate_dst (N := 0) rfl ?_); refine box_event ?hg (N := 0) ?hd (cs := #[.int .u8 0, .int .u8 0, .int .u8 0, .int .u8 0]) (t := 61) ?hr ?_; (case hd => rfl); (case hg => rfl); (case hr => xgs_); intro gb117 hg w1 hbox hb; have n0_ := Aside0.mk (below_step (by repeat (first | (with_reducible first | exact HB.out | apply below_alloc | apply pw_below_drewN | apply below_drew1) | exact HB.out)) hb); have n1_ := Aside0.mk (hbox); have n2_ := Aside0.mk ((by rw [hg]; exact (below_size (by repeat (first | (with_reducible first | exact HB.out | apply below_alloc | apply pw_below_drewN | apply below_drew1) | exact HB.out))) : w.heap.size ≤ gb117)); have n3_ := Aside0.mk ((by rw [hg]; exact (below_size (by repeat (first | (with_reducible first | exact HB.out | apply below_alloc | apply pw_below_drewN | apply below_drew1) | exact HB.out))) : w.heap.size ≤ gb117)); clear HB; have HB := n0_; have BK117 := n1_; have GW117 := n2_; have GE117 := n3_; clear n0_ n1_ n2_ n3_; clear hb hbox hg; have hcz2_0 : w1.cell? ⟨gb117, 0, none⟩ = some (.int .u8 0) := (blk_cell BK117.out 0).trans rfl; have hcz2_1 : w1.cell? ⟨gb117, 1, none⟩ = some (.int .u8 0) := (blk_cell BK117.out 1).trans rfl; have hcz2_2 : w1.cell? ⟨gb117, 2, none⟩ = some (.int .u8 0) := (blk_cell BK117.out 2).trans rfl; have hcz2_3 : w1.cell? ⟨gb117, 3, none⟩ = some (.int .u8 0) := (blk_cell BK117.out 3).trans rfl; have hfz2_0 := blk_frozen BK117.out 0; have hfz2_1 := blk_frozen BK117.out 1; have hfz2_2 := blk_frozen BK117.out 2; have hfz2_3 := blk_frozen BK117.out 3))
 refine bodyPost_ret (results_cell_row rfl _ _ gb117 61 #[.int .u8 66, .int .u8 82, .int .u8 75, .int .u8 49] (0, 0) _ rfl (by xkb_; refine blk_put (cs := #[.int .u8 66, .int .u8 82, .int .u8 75, .int .u8 0]) ?_ 3 _ rfl; xkb_; refine blk_put (cs := #[.int .u8 66, .int .u8 82, .int .u8 0, .int .u8 0]) ?_ 2 _ rfl; xkb_; refine blk_put (cs := #[.int .u8 66, .int .u8 0, .int .u8 0, .int .u8 0]) ?_ 1 _ rfl; xkb_; refine blk_put (cs := #[.int .u8 0, .int .u8 0, .int .u8 0, .int .u8 0]) ?_ 0 _ rfl; xkb_; exact BK117.out) Try.underlying61 rfl (by kernel_rfl)) rfl ?_
 exact ⟨by first | rfl | (simp [errW_none, errW_some] <;> rfl) | (simp [*, errW_none, errW_some] <;> rfl), by repeat (first | (with_reducible first | exact HB.out | apply below_alloc | apply pw_below_drewN | apply below_drew1 | refine below_set ?_ GE117.out) | exact HB.out)⟩
end Go.Proofs.Ytpcbhghgommijaa.X
end
section
namespace Go.Proofs.Ytpcbhghgommijaa.X
open Go.RowKit Go.Proofs.YtpcbhghgommijaaW.PrintWords Go.Proofs.YtpcbhghgommijaaW.PrintLast Go.Proofs.YtpcbhghgommijaaW.PrintMore
attribute [local go_sem] max2_int min2_int max_two min_two max_three min_three max_four min_four
set_option linter.unusedVariables false
set_option linter.unusedSimpArgs false
open Go.Proofs.Ytpcbhghgommijaa.XMac
def slices_Clone_byte_byte.f (l0 : List Int) : Option (List Int) := if l0.length < 140737488355328 then some l0 else none
set_option maxHeartbeats 8000000 in
set_option maxRecDepth 100000 in
theorem slices_Clone_byte_byte.calls (A0 : Option Addr) (c0 : Nat) (l0 : List Int) (r : List Int) (w : World) (hr0 : Kd.C (Kd.int .u8) w A0 l0.length l0) (hc0 : l0.length ≤ c0) (h : slices_Clone_byte_byte.f l0 = some r) :
    Calls Try.prog 48 #[.slice A0 l0.length c0] w fun e w' => ∃ v0_ : Value, e = .returned (v0_) ∧ Kd.R (Kd.int .u8) 5 w' w.heap.size (fun _ => True) v0_ r ∧ Below w.heap.size w w' := by
  have hlim : l0.length < 140737488355328 := by
    unfold slices_Clone_byte_byte.f at h
    split at h
    · assumption
    · cases h
  obtain rfl : l0 = r := by
    unfold slices_Clone_byte_byte.f at h
    rw [if_pos hlim] at h
    exact Option.some.inj h
  clear h
  have hlen : l0.length ≤ 9223372036854775807 := by omega
  cases A0 with
  | none =>
    have hl : l0 = [] := by
      cases l0 with
      | nil => rfl
      | cons x l =>
        obtain ⟨ad, he, _⟩ := hr0.2.2 (by simp)
        cases he
    subst hl
    have hnil : ∀ W : World, (binOp .eql 27 (.slice none 0 c0) (.slice none 0 0)).run Try.prog W = .ok (.bool true) W := fun W => Lib.run_eql_slice_nil W 27 5 none 0 c0 0 0 Try.underlying27
    go_enter Try.func48, Try.ntmps48
    go_wp2
    go_ret
    exact ⟨_, rfl, Kd.R_nil _ _ _ _ _, Below.refl _ _⟩
  | some ad =>
    have hnil : ∀ W : World, (binOp .eql 27 (.slice (some ad) l0.length c0) (.slice none 0 0)).run Try.prog W = .ok (.bool false) W := fun W => Lib.run_eql_slice_nil W 27 5 (some ad) l0.length c0 0 0 Try.underlying27
    have HR0 := Aside0.mk hr0
    have HC0 := Aside0.mk hc0
    have LM := Aside0.mk hlim
    have HB := Aside0.mk (Below.refl w.heap.size w)
    clear hr0 hc0 hlim
    go_enter Try.func48, Try.ntmps48
    go_wp2_with (first
      | ((with_reducible refine gate_dst (N := 5) rfl ?_); refine Kd.R_lit (Kd.int .u8) _ 5 ?hg (N := 5) ?hd (xs := ([] : List Int)) (inner := []) (ok := fun _ => True) (okp := fun _ => True) ?hr ?hp (fun _ hk => hk) trivial (Below.refl _ _) (Nat.le_refl _) (by simp) ?_; (case hd => rfl); (case hg => rfl); (case hr => first | (go_simp; done) | (go_simp; rfl)); (case hp => exact (Reps.none _ _)); intro v5 w5 ho8 hb hg_ hnew_; clear hg_ hnew_; have n0_ := Aside0.mk (Kd.R_lower ho8 (below_size HB.out)); have n1_ := Aside0.mk (below_step HB.out hb); clear HB; have HO5 := n0_; have HB := n1_; clear n0_ n1_ hb ho8)
      | ((with_reducible refine gate_builtin (b := .append) (xs := #[.tmp 5, .tmp 6]) rfl ?_); at_builtin; refine Kd.R_append_rows (Kd.int .u8) (w0 := w) w.heap.size rfl (.tmp 5) (.tmp 6) 27 5 (.int .u8 0) 1 rfl Try.underlying27 info5 rfl (by decide) (by omega) v5 [] l0 _ _ _ (fun _ => True) (fun _ => False) rfl rfl HO5.out (Kd.C_below HR0.out HB.out) (fun _ _ h => h) (fun _ h => h.elim) (fun _ _ => trivial) HB.out (below_size HB.out) (by have := LM.out; simp only [List.length_nil]; omega) ?_; intro v7 w7 ho hb hg hat; rw [List.nil_append] at ho; have n0_ := Aside0.mk hb; have n1_ := Aside0.mk ho; clear HB HO5; have HB := n0_; have HO7 := n1_; clear n0_ n1_ ho hb hg hat))
    go_ret
    exact ⟨_, rfl, HO7.out, HB.out⟩
def pack_Put.f (l0 : List Int) (a1 a2 : Int) : Option (List Int) :=
  if l0.length + 4 < 140737488355328 then some (l0 ++ ([a1 / 16777216 % 256, a1 / 65536 % 256, a1 / 256 % 256, a1 % 256].drop (4 - mx 0 (mn a2 4)).toNat)) else none
theorem pack_Put.cut (s : Int) (hs0 : 0 ≤ s) (hs4 : s ≤ 4) (W : World) (b : Nat) :
    (Instr.sliceAt 60 (.pointer (some ⟨b, 0, none⟩)) (some (.int .i64 (wrap64 (4 - s)))) none none).run Try.prog W = .ok (.slice (some ⟨b, if s = 0 then 0 else (4 - s).toNat, none⟩) s.toNat s.toNat) W := by
  have ew : wrap64 (4 - s) = 4 - s := by unfold wrap64; omega
  have hl : Try.prog.arrayLen 60 = 4 := by kernel_rfl
  have hz : (sizeOf (Try.prog.elem 60)).run Try.prog W = .ok 1 W := by kernel_rfl
  have h2 : 0 ≤ 4 - s := by omega
  have h1 : 4 - s ≤ (Try.prog.arrayLen 60 : Int) := by rw [hl]; show 4 - s ≤ 4; omega
  rw [ew, run_sliceAt_array_l W 60 ⟨b, 0, none⟩ Try.underlying60 .i64 (4 - s) h2 h1, hz, hl]
  simp only [Result.andThen, slicedAt]
  have h4 : 4 - (4 - s).toNat = s.toNat := by omega
  rw [h4]
  by_cases h0 : s = 0
  · subst h0; rfl
  · have h6 : ¬ (4 : Nat) = (4 - s).toNat := fun he => h0 (by omega)
    by_cases h5 : (4 - s).toNat = 0 <;> simp [h0, h6, h5, Addr.add]
theorem pack_Put.row (a b c d s : Int) (hs0 : 0 ≤ s) (hs4 : s ≤ 4) (W : World) (g : Nat) (h : W.heap[g]? = some (.cells #[.int .u8 a, .int .u8 b, .int .u8 c, .int .u8 d] 60 (0, 0))) :
    Kd.C (Kd.int .u8) W (some ⟨g, if s = 0 then 0 else (4 - s).toNat, none⟩) s.toNat ([a, b, c, d].drop (4 - s).toNat) := by
  have hc : ∀ i u, #[Value.int .u8 a, .int .u8 b, .int .u8 c, .int .u8 d][i]? = some u → W.cell? ⟨g, i, none⟩ = some u := by
    intro i u hu
    simp [World.cell?, h, hu]
  have key : ∀ k : Nat, k ≤ 4 → ∀ j p, ([a, b, c, d].drop k)[j]? = some p → W.cell? ⟨g, k + j, none⟩ = some (.int .u8 p) := by
    intro k hk j p hj
    apply hc
    rw [List.getElem?_drop] at hj
    have := congrArg (Option.map (Value.int .u8)) hj
    rw [← List.getElem?_map] at this
    simpa using this
  refine ⟨by simp; omega, by omega, fun hn => ⟨_, rfl, fun j p hj => ⟨[.int .u8 p], rfl, rfl, fun i u hu => ?_⟩⟩⟩
  have h0 : i = 0 := by
    have := (List.getElem?_eq_some_iff.1 hu).1
    simp at this
    omega
  subst h0
  obtain rfl : Value.int .u8 p = u := by simpa using hu
  have := key (4 - s).toNat (by omega) j p hj
  rw [if_neg (by omega)]
  show W.cell? (Addr.add _ (j * 1 + 0)) = _
  rw [← this]
  by_cases hj0 : j = 0 <;> simp [Addr.add, hj0]
set_option maxHeartbeats 8000000 in
set_option maxRecDepth 100000 in
theorem pack_Put.calls (A0 : Option Addr) (c0 : Nat) (l0 : List Int) (a1 : Int) (a2 : Int) (r : List Int) (w : World) (hr0 : Kd.C (Kd.int .u8) w A0 l0.length l0) (hc0 : l0.length ≤ c0) (h : pack_Put.f l0 a1 a2 = some r) :
    Calls Try.prog 27 #[.slice A0 l0.length c0, .int .i64 a1, .int .i64 a2] w fun e w' => ∃ v0_ : Value, e = .returned (v0_) ∧ Kd.R (Kd.int .u8) 5 w' w.heap.size (fun _ => True) v0_ r ∧ Below w.heap.size w w' := by
  have hlim : l0.length + 4 < 140737488355328 := by
    unfold pack_Put.f at h
    split at h
    · assumption
    · cases h
  obtain rfl : l0 ++ ([a1 / 16777216 % 256, a1 / 65536 % 256, a1 / 256 % 256, a1 % 256].drop (4 - mx 0 (mn a2 4)).toNat) = r := by
    unfold pack_Put.f at h
    rw [if_pos hlim] at h
    exact Option.some.inj h
  clear h
  have HR0 := Aside0.mk hr0
  have HC0 := Aside0.mk hc0
  have LM := Aside0.mk hlim
  have HB := Aside0.mk (Below.refl w.heap.size w)
  clear hr0 hc0 hlim
  obtain ⟨j, hj⟩ : ∃ j : Int, mn a2 4 = j := ⟨_, rfl⟩
  obtain ⟨s, hs⟩ : ∃ s : Int, mx 0 j = s := ⟨_, rfl⟩
  have hj_ : (if 4 < a2 then 4 else a2) = j := hj
  have hs_ : (if 0 < j then j else 0) = s := hs
  have hj4 : j ≤ 4 := by rw [← hj_]; split <;> omega
  have hs0 : 0 ≤ s := by rw [← hs_]; split <;> omega
  have hs4 : s ≤ 4 := by rw [← hs_]; split <;> omega
  rw [hj, hs]
  clear hj hs
  have hlo0 : 0 ≤ 4 - s := by omega
  have hlo4 : 4 - s ≤ 4 := by omega
  obtain ⟨off, hoff⟩ : ∃ o : Nat, (if s = 0 then 0 else (4 - s).toNat) = o := ⟨_, rfl⟩
  have hcut := pack_Put.cut s hs0 hs4
  have hrow := Aside0.mk (pack_Put.row (a1 / 16777216 % 256) (a1 / 65536 % 256) (a1 / 256 % 256) (a1 % 256) s hs0 hs4)
  rw [hoff] at hcut hrow
  clear hoff
  have hclone : slices_Clone_byte_byte.f l0 = some l0 := by unfold slices_Clone_byte_byte.f; rw [if_pos (by have := LM.out; omega)]
  go_enter Try.func27, Try.ntmps27
  go_wp2_with fail
  refine start_ (n := 7) (S := fun w' => True) (ds := []) #[false, false, false, false, false, false, false] (by kernel_rfl) rfl rfl trivial (fun hHeld => ?_)
  refine pure_ (i := 0) (N := some 23) (v := ?_) (a' := ?_) #[true, false, false, false, false, false, false] rfl rfl (by kernel_rfl) (fun _ _ _ h => h) (Or.inl ⟨by rfl, ?_⟩) ?_ ?_
  rotate_left
  · intro w'
    go_simp
    with_reducible rfl
  rotate_left
  · simp only [Act.put, List.setIfInBounds_toArray, List.set_cons_zero, List.set_cons_succ, i64_w, i32_w]
    rfl
  refine pure_ (i := 2) (N := some 25) (v := ?_) (a' := ?_) #[true, false, true, false, false, false, false] rfl rfl (by kernel_rfl) (fun _ _ _ h => h) (Or.inl ⟨by rfl, ?_⟩) ?_ ?_
  rotate_left
  · intro w'
    go_simp
    with_reducible rfl
  rotate_left
  · simp only [Act.put, List.setIfInBounds_toArray, List.set_cons_zero, List.set_cons_succ, i64_w, i32_w]
    rfl
  refine pure_ (i := 3) (N := some 26) (v := ?_) (a' := ?_) #[true, false, true, true, false, false, false] rfl rfl (by kernel_rfl) (fun _ _ _ h => h) (Or.inl ⟨by rfl, ?_⟩) ?_ ?_
  rotate_left
  · intro w'
    go_simp
    with_reducible rfl
  rotate_left
  · simp only [Act.put, List.setIfInBounds_toArray, List.set_cons_zero, List.set_cons_succ, i64_w, i32_w]
    rfl
  refine pure_ (i := 4) (N := some 27) (v := ?_) (a' := ?_) #[true, false, true, true, true, false, false] rfl rfl (by kernel_rfl) (fun _ _ _ h => h) (Or.inl ⟨by rfl, ?_⟩) ?_ ?_
  rotate_left
  · intro w'
    go_simp
    with_reducible rfl
  rotate_left
  · simp only [Act.put, List.setIfInBounds_toArray, List.set_cons_zero, List.set_cons_succ, i64_w, i32_w]
    rfl
  refine one_ (i := 1) (N := some 24) #[true, true, true, true, true, false, false] rfl rfl (by kernel_rfl) (by decide) (fun K hK => ?_)
  refine goes_ Try.func48 (by kernel_rfl) rfl #[.slice A0 l0.length c0] (by rfl) rfl rfl (by simp only [List.map_toArray, List.map_cons, List.map_nil]; rfl) ?_
  with_reducible refine (slices_Clone_byte_byte.calls A0 c0 l0 l0 _ ?cr HC0.out hclone).mono ?_
  case cr => repeat (first | exact HR0.out | (with_reducible refine Kd.C_alloc ?_ _) | (with_reducible refine Kd.C_drewN ?_ _) | (with_reducible refine Kd.C_drew ?_))
  rintro e w3 ⟨v0, rfl, hR, hb⟩
  refine ⟨_, rfl, ?_⟩
  refine hK.out _ _ trivial (fun hHeld => ?_)
  clear hK K
  refine norm_ (a' := ?_) ?_ ?_
  rotate_left
  · show Act.put _ (some 24) _ = _
    simp only [Act.put, List.setIfInBounds_toArray, List.set_cons_zero, List.set_cons_succ, i64_w, i32_w]
    rfl
  refine one_ (i := 5) (N := some 28) #[true, true, true, true, true, true, false] rfl rfl (by kernel_rfl) (by decide) (fun K hK => ?_)
  refine Kd.R_append_rows_step (Kd.int .u8) (w0 := w) w.heap.size (by rfl) (.tmp 24) (.tmp 27) 27 5 (.int .u8 0) 1 (by rfl) Try.underlying27 info5 rfl (by decide) (by omega) v0 l0 ([a1 / 16777216 % 256, a1 / 65536 % 256, a1 / 256 % 256, a1 % 256].drop (4 - s).toNat) _ _ _ (fun _ => True) (fun _ => False) (by rfl) (by rfl) ?aO ?aR (fun _ _ h => h) (fun _ h => h.elim) (fun _ _ => trivial) ?aB ?aS ?aL ?_
  case aO => exact Kd.R_lower hR (by simp)
  case aR => exact Kd.C_below (hrow.out (World.drew (w.alloc _)) _ (show (World.drew (w.alloc _)).heap[w.heap.size]? = _ from heap_alloc_new w _)) hb
  case aB => exact below_step (by repeat (first | (with_reducible first | exact HB.out | apply below_alloc | apply pw_below_drewN | apply below_drew1) | exact HB.out)) hb
  case aS => exact below_size (below_step (by repeat (first | (with_reducible first | exact HB.out | apply below_alloc | apply pw_below_drewN | apply below_drew1) | exact HB.out)) hb)
  case aL => have := LM.out; omega
  intro v1 w4 ho hb2 hg hat
  refine hK.out _ _ trivial (fun hHeld => ?_)
  clear hK K
  refine norm_ (a' := ?_) ?_ ?_
  rotate_left
  · show Act.put _ (some 28) _ = _
    simp only [Act.put, List.setIfInBounds_toArray, List.set_cons_zero, List.set_cons_succ, i64_w, i32_w]
    rfl
  refine pure_ (i := 6) (N := some 6) (v := ?_) (a' := ?_) #[true, true, true, true, true, true, true] rfl rfl (by kernel_rfl) (fun _ _ _ h => h) (Or.inl ⟨by rfl, ?_⟩) ?_ ?_
  rotate_left
  · intro w'
    go_simp
    with_reducible rfl
  rotate_left
  · simp only [Act.put, List.setIfInBounds_toArray, List.set_cons_zero, List.set_cons_succ, i64_w, i32_w]
    rfl
  refine done_ (by kernel_rfl) ?_
  clear hcut hrow
  have HO := Aside0.mk ho
  have HB2 := Aside0.mk hb2
  clear ho hb2
  go_wp2
  go_ret
  exact ⟨_, rfl, HO.out, HB2.out⟩
def pack_length.f (a0 : Int) : Option (Int) := some (wrap64 (Int.tdiv (wrap64 ((wrap64 (a0 + 8)) - 1)) 8))
set_option maxHeartbeats 8000000 in
set_option maxRecDepth 100000 in
theorem pack_length.calls (a0 : Int) (r : Int) (w : World) (h : pack_length.f a0 = some r) :
  Calls Try.prog 49 #[.int .i64 a0] w fun e w' => e = .returned (.int .i64 r) ∧ Drawn0 w w' := by
 have H : (some (wrap64 (Int.tdiv (wrap64 ((wrap64 (a0 + 8)) - 1)) 8))) = some r := h
 clear h
 obtain rfl := Option.some.inj H
 go_enter Try.func49, Try.ntmps49
 go_wp2
 go_ret
 exact ⟨by first | rfl | (simp; done) | (simp [*]; done), by repeat (first | exact Drawn0.refl _ | apply Drawn0.step)⟩
def pack_Bits.l0 : Nat → List Int → List Bool → Int → Int → Option (List Int)
 | 0, _, _, _, _ => none
 | k + 1, x3, x10, x11, x12 => if x12 < x11 then (if 0 ≤ x12 then (if x12 < (x10.length : Int) then (if rdOf false x10 x12 = true then (if 0 ≤ (wrap64 (Int.tdiv x12 8)) then (if (wrap64 (Int.tdiv x12 8)) < (x3.length : Int) then (if 0 ≤ (Int.tmod x12 8) then (pack_Bits.l0 k (x3.set ((wrap64 (Int.tdiv x12 8)) : Int).toNat (Go.bits .or .u8 (rd x3 (wrap64 (Int.tdiv x12 8))) (shl .u8 1 (Int.tmod x12 8)))) x10 x11 (wrap64 (x12 + 1))) else (none)) else (none)) else (none)) else (pack_Bits.l0 k x3 x10 x11 (wrap64 (x12 + 1)))) else (none)) else (none)) else (some x3)
def pack_Bits.f (k : Nat) (l0 : List Bool) : Option (List Int) := (pack_length.f (l0.length : Int)).bind fun t118 => (if 0 ≤ t118 then (if (t118 : Int).toNat ≤ 281474976710656 then (pack_Bits.l0 k (List.replicate (t118 : Int).toNat 0) l0 (l0.length : Int) 0) else (none)) else (none))
theorem pack_Bits.mono_l : ∀ k, (∀ y0 y1 y2 y3, LeO (pack_Bits.l0 k y0 y1 y2 y3) (pack_Bits.l0 (k + 1) y0 y1 y2 y3))
 | 0 => fun _ _ _ _ r h => by simp [pack_Bits.l0] at h
 | k + 1 => by
  have ih0 := pack_Bits.mono_l k
  ·intro y0 y1 y2 y3
   unfold pack_Bits.l0
   repeat' first
   | (with_reducible exact ih0 _ _ _ _)
   | (with_reducible exact LeO.refl _)
   | (with_reducible exact LeO.none _)
   | (with_reducible refine LeO.ite ?_ ?_)
   | (with_reducible refine LeO.bind ?_ (fun _ => ?_))
   | exact ih0 _ _ _ _
   | exact LeO.none _
   | refine LeO.ite ?_ ?_
   | refine LeO.bind ?_ (fun _ => ?_)
theorem pack_Bits.mono : ∀ a0 k, LeO (pack_Bits.f k a0) (pack_Bits.f (k + 1) a0) := by
 intro a0 k
 have ih0 := pack_Bits.mono_l k
 unfold pack_Bits.f
 repeat' first
   | (with_reducible exact ih0 _ _ _ _)
   | (with_reducible exact LeO.refl _)
   | (with_reducible exact LeO.none _)
   | (with_reducible refine LeO.ite ?_ ?_)
   | (with_reducible refine LeO.bind ?_ (fun _ => ?_))
   | exact ih0 _ _ _ _
   | exact LeO.none _
   | refine LeO.ite ?_ ?_
   | refine LeO.bind ?_ (fun _ => ?_)
def pack_Bits.T6 : Bool × List (List Nat × List Nat) := (true, [([], []), ([], []), ([1], [1]), ([0, 2], [0, 2]), ([3], [3]), ([], []), ([5], [5]), ([6], [6]), ([4, 7], [4, 7]), ([0, 2, 0, 1, 2, 3, 4, 5, 6, 7, 8], [0, 2]), ([9, 8, 0, 1, 2, 3, 4, 5, 6, 7, 8], [8, 9])])
def pack_Bits.B6 : List Nat := [0, 0, 2, 7, 15, 0, 32, 96, 255, 511, 1023]
theorem pack_Bits.tab6 : rtab .any (opsOf Try.f28 6) = pack_Bits.T6 := by kernel_rfl
theorem pack_Bits.bits6 : waitsOk pack_Bits.T6.2 pack_Bits.B6 = true := by kernel_rfl
set_option maxHeartbeats 8000000 in
set_option maxRecDepth 100000 in
theorem pack_Bits.calls (k : Nat) (A0 : Option Addr) (c0 : Nat) (l0 : List Bool) (r : List Int) (w : World) (hr0 : Kd.C Kd.bool w A0 l0.length l0) (hc0 : l0.length ≤ c0) (h : pack_Bits.f k l0 = some r) :
  Calls Try.prog 28 #[.slice A0 l0.length c0] w fun e w' => ∃ v0_ : Value, e = .returned (v0_) ∧ Kd.R (Kd.int .u8) 5 w' w.heap.size (fun _ => True) v0_ r ∧ Below w.heap.size w w' := by
 have HR0 := Aside0.mk hr0
 have HC0 := Aside0.mk hc0
 clear hr0 hc0
 have HB := Aside0.mk (Below.refl w.heap.size w)
 have H : ((pack_length.f (l0.length : Int)).bind fun t118 => (if 0 ≤ t118 then (if (t118 : Int).toNat ≤ 281474976710656 then (pack_Bits.l0 k (List.replicate (t118 : Int).toNat 0) l0 (l0.length : Int) 0) else (none)) else (none))) = some r := h
 clear h
 replace H := Option.bind_eq_some_iff.mp H
 obtain ⟨t118, A20, H⟩ := H
 replace H : (if 0 ≤ t118 then (if (t118 : Int).toNat ≤ 281474976710656 then (pack_Bits.l0 k (List.replicate (t118 : Int).toNat 0) l0 (l0.length : Int) 0) else (none)) else (none)) = some r := H
 have A2 := Aside0.mk A20
 clear A20
 by_cases c3 : 0 ≤ t118
 ·rw [if_pos c3] at H
  have c3b0 := eq_true c3
  have c3b1 : decide (0 ≤ t118) = true := decide_eq_true c3
  clear c3
  by_cases c4 : (t118 : Int).toNat ≤ 281474976710656
  ·rw [if_pos c4] at H
   have c4b0 := eq_true c4
   have c4b1 : decide ((t118 : Int).toNat ≤ 281474976710656) = true := decide_eq_true c4
   clear c4
   obtain ⟨y119, hy119⟩ : ∃ y_ : List Int, y_ = (List.replicate (t118 : Int).toNat 0) := ⟨_, rfl⟩
   replace H : (pack_Bits.l0 k y119 l0 (l0.length : Int) 0) = some r := by first | (rw [hy119]; with_reducible exact H) | (have H2_ := (Option.bind_some _ _).symm.trans H; rw [hy119]; with_reducible exact H2_) | (have H2_ := (Option.bind_some _ _).symm.trans H; with_reducible exact H2_) | with_reducible exact H | (rw [hy119]; exact H) | exact H
   have Ny119 := Aside0.mk hy119
   clear hy119
   have H' := Aside0.mk H
   clear H
   go_enter Try.func28, Try.ntmps28
   go_wp2_with (first | ((with_reducible refine gate_callee (f := 49) rfl ?_); refine goesL_ (some 8) rfl rfl Try.func49 (by kernel_rfl) rfl #[.int .i64 (l0.length : Int)] rfl (by xlm_) ?_; (with_reducible refine (pack_length.calls (l0.length : Int) t118 _ A2.out).mono ?_); rintro e w' ⟨rfl, ⟨nd, rfl⟩⟩; refine ⟨_, rfl, ?_⟩) | ((with_reducible refine gate_dst (N := 9) rfl ?_); refine Kd.R_make (Kd.int .u8) _ 5 rfl (N := 9) rfl 27 _ _ rfl t118 rfl rfl Try.underlying27 (.int .u8 0) 1 info5 rfl (by decide) (by omega) 0 (ok := fun _ => True) (okp := fun _ => True) rfl (fun _ hk => hk) trivial (of_decide_eq_true (by xas_)) (Nat.le_trans (Nat.mul_le_mul_right _ (of_decide_eq_true (by xas_) : t118.toNat ≤ 281474976710656)) (by omega)) (Below.refl _ _) (Nat.le_refl _) ?_; intro v120 w5 ho6 hb hg_ hnew_; clear hg_ hnew_; (first | rw [← Ny119.out] at ho6 | (simp only [Int.reduceToNat] at ho6; rw [← Ny119.out] at ho6)); have n0_ := Aside0.mk (Kd.R_lower ho6 (below_size (by repeat (first | (with_reducible first | exact HB.out | apply below_alloc | apply pw_below_drewN | apply below_drew1) | exact HB.out)))); have n1_ := Aside0.mk (below_step (by repeat (first | (with_reducible first | exact HB.out | apply below_alloc | apply pw_below_drewN | apply below_drew1) | exact HB.out)) hb); clear HB; have HO121 := n0_; have HB := n1_; clear n0_ n1_; clear hb ho6))
   go_loopg [12] k (fun kq v12 w' => ∃ (x3_1 : List Int) (x12_1 : Int), v12 = .int .i64 x12_1 ∧ Aside0 (pack_Bits.l0 kq x3_1 l0 (l0.length : Int) x12_1 = some r) ∧ Aside0 (kq ≤ k) ∧ Aside0 (Kd.R (Kd.int .u8) 5 w' w.heap.size (fun _ => True) v120 x3_1) ∧ Aside0 (Below w.heap.size w w'))
   case atStart => exact ⟨(y119), (0), (by xrs_), H', ⟨Nat.le_refl _⟩, ⟨by xkR_; exact HO121.out⟩, ⟨by repeat (first | (with_reducible first | exact HB.out | apply below_alloc | apply pw_below_drewN | apply below_drew1) | exact HB.out)⟩⟩
   case round =>
    clear H'
    xcl_ c2 p2 c3 c3b0 c3b1 c4 c4b0 c4b1
    obtain ⟨x3_1, x12_1, rfl, HA, HK1, HO_3, HB⟩ := hrel
    cases gk with
    | zero => exact absurd HA.out (by simp [pack_Bits.l0])
    | succ k1 =>
     have H := HA.out
     clear HA
     simp only [pack_Bits.l0] at H
     by_cases c7 : x12_1 < (l0.length : Int)
     ·rw [if_pos c7] at H
      have c7b0 : decide (x12_1 < (l0.length : Int)) = true := decide_eq_true c7
      clear c7
      by_cases c8 : 0 ≤ x12_1
      ·rw [if_pos c8] at H
       have c8b0 : decide (0 ≤ x12_1) = true := decide_eq_true c8
       clear c8
       by_cases c9 : x12_1 < (l0.length : Int)
       ·rw [if_pos c9] at H
        have c9b0 : decide (x12_1 < (l0.length : Int)) = true := decide_eq_true c9
        clear c9
        obtain ⟨bq10, hbq10⟩ : ∃ b_ : Bool, b_ = (rdOf false l0 x12_1) := ⟨_, rfl⟩
        replace H : (if bq10 = true then (if 0 ≤ (wrap64 (Int.tdiv x12_1 8)) then (if (wrap64 (Int.tdiv x12_1 8)) < (x3_1.length : Int) then (if 0 ≤ (Int.tmod x12_1 8) then (pack_Bits.l0 k1 (x3_1.set ((wrap64 (Int.tdiv x12_1 8)) : Int).toNat (Go.bits .or .u8 (rd x3_1 (wrap64 (Int.tdiv x12_1 8))) (shl .u8 1 (Int.tmod x12_1 8)))) l0 (l0.length : Int) (wrap64 (x12_1 + 1))) else (none)) else (none)) else (none)) else (pack_Bits.l0 k1 x3_1 l0 (l0.length : Int) (wrap64 (x12_1 + 1)))) = some r := by rw [← hbq10] at H; exact H
        have Nbq10 := Aside0.mk hbq10
        clear hbq10
        by_cases c11 : bq10 = true
        ·subst c11
         have H1 : (if 0 ≤ (wrap64 (Int.tdiv x12_1 8)) then (if (wrap64 (Int.tdiv x12_1 8)) < (x3_1.length : Int) then (if 0 ≤ (Int.tmod x12_1 8) then (pack_Bits.l0 k1 (x3_1.set ((wrap64 (Int.tdiv x12_1 8)) : Int).toNat (Go.bits .or .u8 (rd x3_1 (wrap64 (Int.tdiv x12_1 8))) (shl .u8 1 (Int.tmod x12_1 8)))) l0 (l0.length : Int) (wrap64 (x12_1 + 1))) else (none)) else (none)) else (none)) = some r := by rw [if_pos rfl] at H; exact H
         clear H
         have H := H1
         clear H1
         obtain ⟨ji12, hji12⟩ : ∃ j_ : Int, (wrap64 (Int.tdiv x12_1 8)) = j_ := ⟨_, rfl⟩
         replace H : (if 0 ≤ (ji12) then (if (ji12) < (x3_1.length : Int) then (if 0 ≤ (Int.tmod x12_1 8) then (pack_Bits.l0 k1 (x3_1.set ((ji12) : Int).toNat (Go.bits .or .u8 (rd x3_1 (ji12)) (shl .u8 1 (Int.tmod x12_1 8)))) l0 (l0.length : Int) (wrap64 (x12_1 + 1))) else (none)) else (none)) else (none)) = some r := by first | (rw [hji12] at H; exact H) | (simp only [hji12] at H ⊢; exact H)
         have hji12w : (IntKind.i64.wrap (Int.tdiv x12_1 8)) = ji12 := (i64_w _).trans hji12
         by_cases c13 : 0 ≤ (ji12)
         ·rw [if_pos c13] at H
          have c13b0 : decide (0 ≤ (ji12)) = true := decide_eq_true c13
          clear c13
          by_cases c14 : (ji12) < (x3_1.length : Int)
          ·rw [if_pos c14] at H
           have c14b0 : decide ((ji12) < (x3_1.length : Int)) = true := decide_eq_true c14
           clear c14
           obtain ⟨ji15, hji15⟩ : ∃ j_ : Int, (Int.tmod x12_1 8) = j_ := ⟨_, rfl⟩
           replace H : (if 0 ≤ (ji15) then (pack_Bits.l0 k1 (x3_1.set ((ji12) : Int).toNat (Go.bits .or .u8 (rd x3_1 (ji12)) (shl .u8 1 (ji15)))) l0 (l0.length : Int) (wrap64 (x12_1 + 1))) else (none)) = some r := by first | (rw [hji15] at H; exact H) | (simp only [hji15] at H ⊢; exact H)
           by_cases c16 : 0 ≤ (ji15)
           ·rw [if_pos c16] at H
            have c16b0 := eq_true c16
            have c16b1 : decide (0 ≤ (ji15)) = true := decide_eq_true c16
            clear c16
            obtain ⟨ji17, hji17⟩ : ∃ j_ : Int, (shl .u8 1 (ji15)) = j_ := ⟨_, rfl⟩
            replace H : (pack_Bits.l0 k1 (x3_1.set ((ji12) : Int).toNat (Go.bits .or .u8 (rd x3_1 (ji12)) (ji17))) l0 (l0.length : Int) (wrap64 (x12_1 + 1))) = some r := by first | (rw [hji17] at H; exact H) | (simp only [hji17] at H ⊢; exact H)
            have hji17_ : (IntKind.u8.wrap (1 * 2 ^ min (ji15).toNat 8)) = ji17 := hji17
            have hji17z : (ji15) ≤ 8 → (IntKind.u8.wrap (1 * 2 ^ (ji15).toNat)) = ji17 := shl_small hji17
            have hji17u : (IntKind.u8.wrap (2 ^ min (ji15).toNat 8)) = ji17 := by have h_ := hji17_; rw [Int.one_mul] at h_; exact h_
            have hji17v : (ji15) ≤ 8 → (IntKind.u8.wrap (2 ^ (ji15).toNat)) = ji17 := fun hle_ => by have h_ := hji17z hle_; rw [Int.one_mul] at h_; exact h_
            obtain ⟨y124, hy124⟩ : ∃ y_ : List Int, y_ = (x3_1.set ((ji12) : Int).toNat (Go.bits .or .u8 (rd x3_1 (ji12)) (ji17))) := ⟨_, rfl⟩
            replace H : (pack_Bits.l0 k1 y124 l0 (l0.length : Int) (wrap64 (x12_1 + 1))) = some r := by first | (rw [hy124]; with_reducible exact H) | (have H2_ := (Option.bind_some _ _).symm.trans H; rw [hy124]; with_reducible exact H2_) | (have H2_ := (Option.bind_some _ _).symm.trans H; with_reducible exact H2_) | with_reducible exact H | (rw [hy124]; exact H) | exact H
            have Ny124 := Aside0.mk hy124
            clear hy124
            have H' := Aside0.mk H
            clear H
            have p122 : 0 ≤ (x12_1 : Int) := of_decide_eq_true (by xas_)
            have q122 : x12_1 < (l0.length : Int) := of_decide_eq_true (by xas_)
            obtain ⟨ad122, e122, hx122_0⟩ := Kd.at_bool HR0.out x12_1 p122 q122
            (try rw [← Nbq10.out] at hx122_0)
            cases e122
            replace hx122_0 := (HB.out.cell (World.block_lt_of_cell? w _ hx122_0)).trans hx122_0
            replace p122 := eq_true p122
            replace q122 := eq_true q122
            try go_wp2
            have n0_ := Aside0.mk (Kd.R_drew HO_3.out)
            have n1_ := Aside0.mk (below_drew1 HB.out)
            clear HO_3
            clear HB
            have HO_3 := n0_
            have HB := n1_
            clear n0_ n1_
            obtain ⟨Ao20, co20, eo20⟩ := Kd.R_slice HO_3.out
            (first | subst eo20 | (injection eo20 with f1_ f2_ f3_; have f4_ := f1_.symm; have f5_ := f3_.symm; clear f1_ f2_ f3_; subst f4_; subst f5_))
            have p123 : 0 ≤ ((ji12) : Int) := of_decide_eq_true (by xas_)
            have q123 : (ji12) < (x3_1.length : Int) := of_decide_eq_true (by xas_)
            obtain ⟨ad123, e123, hx123_0⟩ := Kd.at_int (Kd.R_reads' HO_3.out).2.2 (ji12) p123 q123
            cases e123
            replace p123 := eq_true p123
            replace q123 := eq_true q123
            have p18 : 0 ≤ ((ji12) : Int) := of_decide_eq_true (by xas_)
            have q18 : ((ji12) : Int) < ((x3_1.length : Int) : Int) := of_decide_eq_true (by xas_)
            obtain ⟨go18, co18, eo18, gb18, gl18, cl18, HG18⟩ := Kd.R_form HO_3.out (by omega)
            (first | cases eo18 | (injection eo18 with ea_ en_ ec_; (first | subst ea_ | (injection ea_ with ea_; subst ea_)); subst ec_; clear en_))
            have GB18 := Aside0.mk gb18
            have GG18 := Aside0.mk HG18
            clear gb18 gl18 HG18
            (first | simp only [add_plain] at hx123_0 | skip)
            obtain ⟨hx18_0, hf18_0⟩ := Kd.R_celln 0 HO_3.out ((ji12) : Int) p18 q18
            replace p18 := eq_true p18
            replace q18 := eq_true q18
            have HP21 := Kd.R_putn HO_3.out ((ji12) : Int) (Go.bits .or .u8 (rd x3_1 (ji12)) (ji17))
            rw [← Ny124.out] at HP21
            have HQ21 := Aside0.mk HP21
            clear HP21
            refine start_ (n := 11) (S := fun w' => w'.cell? ⟨go18, ((ji12)).toNat, none⟩ = some (.int .u8 (rd x3_1 (ji12)))) (ds := [10]) #[false, false, false, false, false, false, false, false, false, false, false] (by kernel_rfl) rfl rfl (hx123_0) (fun hHeld => ?_); refine with_tabW pack_Bits.tab6 pack_Bits.bits6 (fun HT_ HW_ => ?_)
            generalize wr.drew = w19 at HO_3 HB GG18 HQ21 hf18_0 hx123_0 hx18_0 hHeld ⊢
            refine pure_ (i := 0) (N := some 18) (v := ?_) (a' := ?_) #[true, false, false, false, false, false, false, false, false, false, false] rfl rfl (any_of HT_.out (by kernel_rfl)) (fun _ _ _ h => h) (Or.inl ⟨by rfl, ?_⟩) ?_ ?_
            rotate_left
            ·intro w'
             go_simp
             with_reducible rfl
            rotate_left
            ·xsp_ i64_w i32_w
             rfl
            refine pure_ (i := 1) (N := some 19) (v := ?_) (a' := ?_) #[true, true, false, false, false, false, false, false, false, false, false] rfl rfl (any_of HT_.out (by kernel_rfl)) (fun _ _ _ h => h) (Or.inl ⟨by rfl, ?_⟩) ?_ ?_
            rotate_left
            ·intro w'
             go_simp
             with_reducible rfl
            rotate_left
            ·xsp_ i64_w i32_w
             rfl
            refine pure_ (i := 2) (N := some 20) (v := ?_) (a' := ?_) #[true, true, true, false, false, false, false, false, false, false, false] rfl rfl (any_of HT_.out (by kernel_rfl)) (fun _ _ _ h => h) (Or.inl ⟨by rfl, ?_⟩) ?_ ?_
            rotate_left
            ·intro w'
             go_simp
             with_reducible rfl
            rotate_left
            ·xsp_ i64_w i32_w
             rfl
            refine pure_ (i := 3) (N := some 21) (v := ?_) (a' := ?_) #[true, true, true, true, false, false, false, false, false, false, false] rfl rfl (any_of HT_.out (by kernel_rfl)) (fun _ _ _ h => h) (Or.inl ⟨by rfl, ?_⟩) ?_ ?_
            rotate_left
            ·intro w'
             go_simp
             with_reducible rfl
            rotate_left
            ·xsp_ i64_w i32_w
             rfl
            refine pure_ (i := 5) (N := some 23) (v := ?_) (a' := ?_) #[true, true, true, true, false, true, false, false, false, false, false] rfl rfl (any_of HT_.out (by kernel_rfl)) (fun _ _ _ h => h) (Or.inl ⟨by rfl, ?_⟩) ?_ ?_
            rotate_left
            ·intro w'
             go_simp
             with_reducible rfl
            rotate_left
            ·xsp_ i64_w i32_w
             rfl
            refine pure_ (i := 6) (N := some 24) (v := ?_) (a' := ?_) #[true, true, true, true, false, true, true, false, false, false, false] rfl rfl (any_of HT_.out (by kernel_rfl)) (fun _ _ _ h => h) (Or.inl ⟨by rfl, ?_⟩) ?_ ?_
            rotate_left
            ·intro w'
             go_simp
             with_reducible rfl
            rotate_left
            ·xsp_ i64_w i32_w
             rfl
            refine pure_ (i := 7) (N := some 25) (v := ?_) (a' := ?_) #[true, true, true, true, false, true, true, true, false, false, false] rfl rfl (any_of HT_.out (by kernel_rfl)) (fun _ _ _ h => h) (Or.inl ⟨by rfl, ?_⟩) ?_ ?_
            rotate_left
            ·intro w'
             go_simp
             with_reducible rfl
            rotate_left
            ·xsp_ i64_w i32_w
             rfl
            refine take_ (i := 4) (N := some 22) (v := ?_) (a' := ?_) #[true, true, true, true, true, true, true, true, false, false, false] rfl rfl (take_ofW HT_.out HW_.out (by kernel_rfl)) (fun _ _ _ h => h) (Or.inl ⟨by rfl, ?_⟩) hHeld ?_ ?_
            rotate_left
            ·intro w' s0
             go_simp
             with_reducible rfl
            rotate_left
            ·xsp_ i64_w i32_w
             rfl
            refine pure_ (i := 8) (N := some 26) (v := ?_) (a' := ?_) #[true, true, true, true, true, true, true, true, true, false, false] rfl rfl (any_of HT_.out (by kernel_rfl)) (fun _ _ _ h => h) (Or.inl ⟨by rfl, ?_⟩) ?_ ?_
            rotate_left
            ·intro w'
             go_simp
             with_reducible rfl
            rotate_left
            ·xsp_ i64_w i32_w
             rfl
            refine pure_ (i := 9) (N := some 27) (v := ?_) (a' := ?_) #[true, true, true, true, true, true, true, true, true, true, false] rfl rfl (any_of HT_.out (by kernel_rfl)) (fun _ _ _ h => h) (Or.inl ⟨by rfl, ?_⟩) ?_ ?_
            rotate_left
            ·intro w'
             go_simp
             with_reducible rfl
            rotate_left
            ·xsp_ i64_w i32_w
             rfl
            refine last_ (i := 10) (N := none) #[true, true, true, true, true, true, true, true, true, true, true] rfl rfl (one_of HT_.out (by kernel_rfl)) (by decide) (fun K hK => ?_)
            refine skip_ (w1 := ?_) (by rfl) rfl ?_ ?_
            rotate_left
            ·go_simp
             rfl
            refine hK.out _ _ ?_
            clear hK K
            refine done_ (done_of HT_.out (by kernel_rfl)) ?_
            try go_wp2
            go_roundg k1
            case measure => have := HK1.out; omega
            case rel => exact ⟨(y124), (wrap64 (x12_1 + 1)), (by xrs_), H', ⟨by have := HK1.out; omega⟩, ⟨by xkR_; exact HQ21.out⟩, ⟨by repeat (first | (with_reducible first | exact HB.out | apply below_alloc | apply pw_below_drewN | apply below_drew1 | refine below_set ?_ GB18.out) | exact HB.out)⟩⟩
           ·rw [if_neg c16] at H
            exact absurd H (by simp)
          ·rw [if_neg c14] at H
           exact absurd H (by simp)
         ·rw [if_neg c13] at H
          exact absurd H (by simp)
        ·replace c11 := Bool.eq_false_iff.mpr c11
         subst c11
         have H1 : (pack_Bits.l0 k1 x3_1 l0 (l0.length : Int) (wrap64 (x12_1 + 1))) = some r := by rw [if_neg (show ¬ (false = true) by decide)] at H; exact H
         clear H
         have H := H1
         clear H1
         have H' := Aside0.mk H
         clear H
         have p122 : 0 ≤ (x12_1 : Int) := of_decide_eq_true (by xas_)
         have q122 : x12_1 < (l0.length : Int) := of_decide_eq_true (by xas_)
         obtain ⟨ad122, e122, hx122_0⟩ := Kd.at_bool HR0.out x12_1 p122 q122
         (try rw [← Nbq10.out] at hx122_0)
         cases e122
         replace hx122_0 := (HB.out.cell (World.block_lt_of_cell? w _ hx122_0)).trans hx122_0
         replace p122 := eq_true p122
         replace q122 := eq_true q122
         go_wp2
         go_roundg k1
         case measure => have := HK1.out; omega
         case rel => exact ⟨(x3_1), (wrap64 (x12_1 + 1)), (by xrs_), H', ⟨by have := HK1.out; omega⟩, ⟨by xkR_; exact HO_3.out⟩, ⟨by repeat (first | (with_reducible first | exact HB.out | apply below_alloc | apply pw_below_drewN | apply below_drew1) | exact HB.out)⟩⟩
       ·rw [if_neg c9] at H
        exact absurd H (by simp)
      ·rw [if_neg c8] at H
       exact absurd H (by simp)
     ·rw [if_neg c7] at H
      have c7b0 : decide (x12_1 < (l0.length : Int)) = false := decide_eq_false c7
      clear c7
      obtain rfl := Option.some.inj H
      go_wp2
      go_ret
      exact ⟨_, by first | rfl | (simp [errW_none, errW_some] <;> rfl) | (simp [*, errW_none, errW_some] <;> rfl), by xkR_; exact HO_3.out, by repeat (first | (with_reducible first | exact HB.out | apply below_alloc | apply pw_below_drewN | apply below_drew1) | exact HB.out)⟩
  ·rw [if_neg c4] at H
   exact absurd H (by simp)
 ·rw [if_neg c3] at H
  exact absurd H (by simp)
def bits_RotateLeft32.f (a0 : Int) (a1 : Int) : Option (Int) := if 0 ≤ (Go.bits .and .u64 (IntKind.u64.wrap (a1)) 31) then (if 0 ≤ (IntKind.u64.wrap (32 - (Go.bits .and .u64 (IntKind.u64.wrap (a1)) 31))) then (some (Go.bits .or .u32 (shl .u32 a0 (Go.bits .and .u64 (IntKind.u64.wrap (a1)) 31)) (shr .u32 a0 (IntKind.u64.wrap (32 - (Go.bits .and .u64 (IntKind.u64.wrap (a1)) 31)))))) else (none)) else (none)
set_option maxHeartbeats 8000000 in
set_option maxRecDepth 100000 in
theorem bits_RotateLeft32.calls (a0 : Int) (a1 : Int) (r : Int) (w : World) (h : bits_RotateLeft32.f a0 a1 = some r) :
  Calls Try.prog 50 #[.int .u32 a0, .int .i64 a1] w fun e w' => e = .returned (.int .u32 r) ∧ Drawn0 w w' := by
 have H : (if 0 ≤ (Go.bits .and .u64 (IntKind.u64.wrap (a1)) 31) then (if 0 ≤ (IntKind.u64.wrap (32 - (Go.bits .and .u64 (IntKind.u64.wrap (a1)) 31))) then (some (Go.bits .or .u32 (shl .u32 a0 (Go.bits .and .u64 (IntKind.u64.wrap (a1)) 31)) (shr .u32 a0 (IntKind.u64.wrap (32 - (Go.bits .and .u64 (IntKind.u64.wrap (a1)) 31)))))) else (none)) else (none)) = some r := h
 clear h
 obtain ⟨ji3, hji3⟩ : ∃ j_ : Int, (Go.bits .and .u64 (IntKind.u64.wrap (a1)) 31) = j_ := ⟨_, rfl⟩
 replace H : (if 0 ≤ (ji3) then (if 0 ≤ (IntKind.u64.wrap (32 - (ji3))) then (some (Go.bits .or .u32 (shl .u32 a0 (ji3)) (shr .u32 a0 (IntKind.u64.wrap (32 - (ji3)))))) else (none)) else (none)) = some r := by first | (rw [hji3] at H; exact H) | (simp only [hji3] at H ⊢; exact H)
 by_cases c4 : 0 ≤ (ji3)
 ·rw [if_pos c4] at H
  have c4b0 := eq_true c4
  have c4b1 : decide (0 ≤ (ji3)) = true := decide_eq_true c4
  clear c4
  obtain ⟨ji5, hji5⟩ : ∃ j_ : Int, (shl .u32 a0 (ji3)) = j_ := ⟨_, rfl⟩
  replace H : (if 0 ≤ (IntKind.u64.wrap (32 - (ji3))) then (some (Go.bits .or .u32 (ji5) (shr .u32 a0 (IntKind.u64.wrap (32 - (ji3)))))) else (none)) = some r := by first | (rw [hji5] at H; exact H) | (simp only [hji5] at H ⊢; exact H)
  have hji5_ : (IntKind.u32.wrap (a0 * 2 ^ min (ji3).toNat 32)) = ji5 := hji5
  have hji5z : (ji3) ≤ 32 → (IntKind.u32.wrap (a0 * 2 ^ (ji3).toNat)) = ji5 := shl_small hji5
  obtain ⟨ji6, hji6⟩ : ∃ j_ : Int, (IntKind.u64.wrap (32 - (ji3))) = j_ := ⟨_, rfl⟩
  replace H : (if 0 ≤ (ji6) then (some (Go.bits .or .u32 (ji5) (shr .u32 a0 (ji6)))) else (none)) = some r := by first | (rw [hji6] at H; exact H) | (simp only [hji6] at H ⊢; exact H)
  by_cases c7 : 0 ≤ (ji6)
  ·rw [if_pos c7] at H
   have c7b0 := eq_true c7
   have c7b1 : decide (0 ≤ (ji6)) = true := decide_eq_true c7
   clear c7
   obtain ⟨ji8, hji8⟩ : ∃ j_ : Int, (shr .u32 a0 (ji6)) = j_ := ⟨_, rfl⟩
   replace H : (some (Go.bits .or .u32 (ji5) (ji8))) = some r := by first | (rw [hji8] at H; exact H) | (simp only [hji8] at H ⊢; exact H)
   have hji8_ : (a0 / 2 ^ min (ji6).toNat 32) = ji8 := hji8
   have hji8z : (ji6) ≤ 32 → (a0 / 2 ^ (ji6).toNat) = ji8 := shr_small hji8
   obtain rfl := Option.some.inj H
   go_enter Try.func50, Try.ntmps50
   go_wp2
   go_ret
   exact ⟨by first | rfl | (simp; done) | (simp only [← hji3, ← hji5, ← hji6, ← hji8] <;> (first | rfl | simp)) | (simp [*]; done), by repeat (first | exact Drawn0.refl _ | apply Drawn0.step)⟩
  ·rw [if_neg c7] at H
   exact absurd H (by simp)
 ·rw [if_neg c4] at H
  exact absurd H (by simp)
def pack_Sum.l0 : Nat → Int → List Int → Int → Int → Option (Int)
 | 0, _, _, _, _ => none
 | k + 1, x3, x6, x7, x8 => if x8 < x7 then (if 0 ≤ x8 then (if x8 < (x6.length : Int) then ((bits_RotateLeft32.f (Go.bits .xor .u32 x3 ((rd x6 x8) % 4294967296)) 5).bind fun t126 => (pack_Sum.l0 k ((t126 + 2654435761) % 4294967296) x6 x7 (wrap64 (x8 + 1)))) else (none)) else (none)) else (some x3)
def pack_Sum.f (k : Nat) (l0 : List Int) : Option (Int) := pack_Sum.l0 k 2166136261 l0 (l0.length : Int) 0
theorem pack_Sum.mono_l : ∀ k, (∀ y0 y1 y2 y3, LeO (pack_Sum.l0 k y0 y1 y2 y3) (pack_Sum.l0 (k + 1) y0 y1 y2 y3))
 | 0 => fun _ _ _ _ r h => by simp [pack_Sum.l0] at h
 | k + 1 => by
  have ih0 := pack_Sum.mono_l k
  ·intro y0 y1 y2 y3
   unfold pack_Sum.l0
   repeat' first
   | (with_reducible exact ih0 _ _ _ _)
   | (with_reducible exact LeO.refl _)
   | (with_reducible exact LeO.none _)
   | (with_reducible refine LeO.ite ?_ ?_)
   | (with_reducible refine LeO.bind ?_ (fun _ => ?_))
   | exact ih0 _ _ _ _
   | exact LeO.none _
   | refine LeO.ite ?_ ?_
   | refine LeO.bind ?_ (fun _ => ?_)
theorem pack_Sum.mono : ∀ a0 k, LeO (pack_Sum.f k a0) (pack_Sum.f (k + 1) a0) := by
 intro a0 k
 have ih0 := pack_Sum.mono_l k
 unfold pack_Sum.f
 repeat' first
   | (with_reducible exact ih0 _ _ _ _)
   | (with_reducible exact LeO.refl _)
   | (with_reducible exact LeO.none _)
   | (with_reducible refine LeO.ite ?_ ?_)
   | (with_reducible refine LeO.bind ?_ (fun _ => ?_))
   | exact ih0 _ _ _ _
   | exact LeO.none _
   | refine LeO.ite ?_ ?_
   | refine LeO.bind ?_ (fun _ => ?_)
set_option maxHeartbeats 8000000 in
set_option maxRecDepth 100000 in
theorem pack_Sum.calls (k : Nat) (A0 : Option Addr) (c0 : Nat) (l0 : List Int) (r : Int) (w : World) (hr0 : Kd.C (Kd.int .u8) w A0 l0.length l0) (hc0 : l0.length ≤ c0) (h : pack_Sum.f k l0 = some r) :
  Calls Try.prog 29 #[.slice A0 l0.length c0] w fun e w' => e = .returned (.int .u32 r) ∧ Drawn0 w w' := by
 have HR0 := Aside0.mk hr0
 have HC0 := Aside0.mk hc0
 clear hr0 hc0
 have H : (pack_Sum.l0 k 2166136261 l0 (l0.length : Int) 0) = some r := h
 clear h
 have H' := Aside0.mk H
 clear H
 go_enter Try.func29, Try.ntmps29
 go_wp2
 go_loopg [3, 8] k (fun kq v3 v8 w' => ∃ (x3_1 : Int) (x8_1 : Int), v3 = .int .u32 x3_1 ∧ v8 = .int .i64 x8_1 ∧ Aside0 (pack_Sum.l0 kq x3_1 l0 (l0.length : Int) x8_1 = some r) ∧ Aside0 (kq ≤ k) ∧ Drawn0 w w')
 case atStart => exact ⟨(2166136261), (0), (by xrs_), (by xrs_), H', ⟨Nat.le_refl _⟩, by repeat (first | exact Drawn0.refl _ | apply Drawn0.step)⟩
 case round =>
  clear H'
  obtain ⟨x3_1, x8_1, rfl, rfl, HA, HK1, ⟨m1, rfl⟩⟩ := hrel
  cases gk with
  | zero => exact absurd HA.out (by simp [pack_Sum.l0])
  | succ k1 =>
   have H := HA.out
   clear HA
   simp only [pack_Sum.l0] at H
   by_cases c2 : x8_1 < (l0.length : Int)
   ·rw [if_pos c2] at H
    have c2b0 : decide (x8_1 < (l0.length : Int)) = true := decide_eq_true c2
    clear c2
    by_cases c3 : 0 ≤ x8_1
    ·rw [if_pos c3] at H
     have c3b0 : decide (0 ≤ x8_1) = true := decide_eq_true c3
     clear c3
     by_cases c4 : x8_1 < (l0.length : Int)
     ·rw [if_pos c4] at H
      have c4b0 : decide (x8_1 < (l0.length : Int)) = true := decide_eq_true c4
      clear c4
      replace H := Option.bind_eq_some_iff.mp H
      obtain ⟨t126, A50, H⟩ := H
      replace H : (pack_Sum.l0 k1 ((t126 + 2654435761) % 4294967296) l0 (l0.length : Int) (wrap64 (x8_1 + 1))) = some r := H
      have A5 := Aside0.mk A50
      clear A50
      have H' := Aside0.mk H
      clear H
      have p125 : 0 ≤ (x8_1 : Int) := of_decide_eq_true (by xas_)
      have q125 : x8_1 < (l0.length : Int) := of_decide_eq_true (by xas_)
      obtain ⟨ad125, e125, hx125_0⟩ := Kd.at_int HR0.out x8_1 p125 q125
      cases e125
      replace p125 := eq_true p125
      replace q125 := eq_true q125
      go_wp2_with (first | ((with_reducible refine gate_callee (f := 50) rfl ?_); refine goesL_ (some 16) rfl rfl Try.func50 (by kernel_rfl) rfl #[.int .u32 (Go.bits .xor .u32 x3_1 ((rd l0 x8_1) % 4294967296)), .int .i64 5] rfl (by xlm_) ?_; (with_reducible refine (bits_RotateLeft32.calls (Go.bits .xor .u32 x3_1 ((rd l0 x8_1) % 4294967296)) 5 t126 _ A5.out).mono ?_); rintro e w' ⟨rfl, ⟨nd, rfl⟩⟩; refine ⟨_, rfl, ?_⟩))
      go_roundg k1
      case measure => have := HK1.out; omega
      case rel => exact ⟨((t126 + 2654435761) % 4294967296), (wrap64 (x8_1 + 1)), (by xrs_), (by xrs_), H', ⟨by have := HK1.out; omega⟩, by repeat (first | exact Drawn0.refl _ | apply Drawn0.step)⟩
     ·rw [if_neg c4] at H
      exact absurd H (by simp)
    ·rw [if_neg c3] at H
     exact absurd H (by simp)
   ·rw [if_neg c2] at H
    have c2b0 : decide (x8_1 < (l0.length : Int)) = false := decide_eq_false c2
    clear c2
    obtain rfl := Option.some.inj H
    go_wp2
    go_ret
    exact ⟨by first | rfl | (simp; done) | (simp [*]; done), by repeat (first | exact Drawn0.refl _ | apply Drawn0.step)⟩
end Go.Proofs.Ytpcbhghgommijaa.X
end
section
namespace Go.Proofs.Ytpcbhghgommijaa.X
open Go.RowKit Go.Proofs.YtpcbhghgommijaaW.PrintWords Go.Proofs.YtpcbhghgommijaaW.PrintLast Go.Proofs.YtpcbhghgommijaaW.PrintMore
attribute [local go_sem] max2_int min2_int max_two min_two max_three min_three max_four min_four
set_option linter.unusedVariables false
set_option linter.unusedSimpArgs false
open Go.Proofs.Ytpcbhghgommijaa.XMac
mutual
def table_Encode.l0 : Nat → List Int → List (S52) → Int → Int → Int → List (S52) → List (List Int) → List Bool → Option (List Int × Bool)
 | 0, _, _, _, _, _, _, _, _ => none
 | k + 1, x5, x31, x32, x33, x128000, x128001, x128002, x128003 => if x33 < x32 then (if 0 ≤ x33 then (if x33 < (x31.length : Int) then ((pack_Put.f x5 ((rd_T52 x31 x33).f0) 3).bind fun t142 => ((some (([((rd_T52 x31 x33).f1) % 256] : List Int) : List Int)).bind fun y145 => (if t142.length + y145.length < 140737488355328 then (table_Encode.l0 k (t142 ++ y145) x31 x32 (wrap64 (x33 + 1)) x128000 x128001 x128002 x128003) else (none)))) else (none)) else (none)) else (table_Encode.l1 k x5 x128002 (x128002.length : Int) 0 x128000 x128001 x128002 x128003)
def table_Encode.l1 : Nat → List Int → List (List Int) → Int → Int → Int → List (S52) → List (List Int) → List Bool → Option (List Int × Bool)
 | 0, _, _, _, _, _, _, _, _ => none
 | k + 1, x5, x48, x49, x50, x128000, x128001, x128002, x128003 => if x50 < x49 then (if 0 ≤ x50 then (if x50 < (x48.length : Int) then (table_Encode.l2 k x5 x48 x49 x50 (rd_L1 x48 x50) ((rd_L1 x48 x50).length : Int) 0 x128000 x128001 x128002 x128003) else (none)) else (none)) else ((pack_Bits.f k x128003).bind fun t151 => (if x5.length + t151.length < 140737488355328 then ((some (x5 ++ t151 : List Int)).bind fun y154 => ((pack_Sum.f k y154).bind fun t157 => ((pack_Put.f y154 (wrap64 (t157)) 4).bind fun t158 => (some (t158, true))))) else (none)))
def table_Encode.l2 : Nat → List Int → List (List Int) → Int → Int → List Int → Int → Int → Int → List (S52) → List (List Int) → List Bool → Option (List Int × Bool)
 | 0, _, _, _, _, _, _, _, _, _, _, _ => none
 | k + 1, x5, x48, x49, x50, x54, x55, x56, x128000, x128001, x128002, x128003 => if x56 < x55 then (if 0 ≤ x56 then (if x56 < (x54.length : Int) then ((some (([(rd x54 x56) % 256] : List Int) : List Int)).bind fun y163 => (if x5.length + y163.length < 140737488355328 then (table_Encode.l2 k (x5 ++ y163) x48 x49 x50 x54 x55 (wrap64 (x56 + 1)) x128000 x128001 x128002 x128003) else (none))) else (none)) else (none)) else (table_Encode.l1 k x5 x48 x49 (wrap64 (x50 + 1)) x128000 x128001 x128002 x128003)
end
def table_Encode.f (k : Nat) (a0_0 : Int) (l0_1 : List (S52)) (l0_2 : List (List Int)) (l0_3 : List Bool) : Option (List Int × Bool) := (table_may.f k a0_0 l0_1 l0_2 l0_3).bind fun t128 => (if t128 = true then ((table_known.f).bind fun bt129 => ((some (([(a0_0) % 256, ((l0_2.length : Int)) % 256, ((l0_1.length : Int)) % 256] : List Int) : List Int)).bind fun y134 => (if ([bt129.1, bt129.2.1, bt129.2.2.1, bt129.2.2.2] : List Int).length + y134.length < 140737488355328 then (table_Encode.l0 k (([bt129.1, bt129.2.1, bt129.2.2.1, bt129.2.2.2] : List Int) ++ y134) l0_1 (l0_1.length : Int) 0 a0_0 l0_1 l0_2 l0_3) else (none)))) else (some (([] : List Int), false)))
theorem table_Encode.mono_l : ∀ k, (∀ y0 y1 y2 y3 y4 y5 y6 y7, LeO (table_Encode.l0 k y0 y1 y2 y3 y4 y5 y6 y7) (table_Encode.l0 (k + 1) y0 y1 y2 y3 y4 y5 y6 y7)) ∧ (∀ y0 y1 y2 y3 y4 y5 y6 y7, LeO (table_Encode.l1 k y0 y1 y2 y3 y4 y5 y6 y7) (table_Encode.l1 (k + 1) y0 y1 y2 y3 y4 y5 y6 y7)) ∧ (∀ y0 y1 y2 y3 y4 y5 y6 y7 y8 y9 y10, LeO (table_Encode.l2 k y0 y1 y2 y3 y4 y5 y6 y7 y8 y9 y10) (table_Encode.l2 (k + 1) y0 y1 y2 y3 y4 y5 y6 y7 y8 y9 y10))
 | 0 => ⟨fun _ _ _ _ _ _ _ _ r h => by simp [table_Encode.l0] at h, fun _ _ _ _ _ _ _ _ r h => by simp [table_Encode.l1] at h, fun _ _ _ _ _ _ _ _ _ _ _ r h => by simp [table_Encode.l2] at h⟩
 | k + 1 => by
  obtain ⟨ih0, ih1, ih2⟩ := table_Encode.mono_l k
  refine ⟨?_, ?_, ?_⟩
  ·intro y0 y1 y2 y3 y4 y5 y6 y7
   unfold table_Encode.l0
   repeat' first
   | (with_reducible exact ih0 _ _ _ _ _ _ _ _)
   | (with_reducible exact ih1 _ _ _ _ _ _ _ _)
   | (with_reducible exact ih2 _ _ _ _ _ _ _ _ _ _ _)
   | (with_reducible exact pack_Bits.mono _ _)
   | (with_reducible exact pack_Sum.mono _ _)
   | (with_reducible exact table_may.mono _ _ _ _ _)
   | (with_reducible exact LeO.refl _)
   | (with_reducible exact LeO.none _)
   | (with_reducible refine LeO.ite ?_ ?_)
   | (with_reducible refine LeO.bind ?_ (fun _ => ?_))
   | exact ih0 _ _ _ _ _ _ _ _
   | exact ih1 _ _ _ _ _ _ _ _
   | exact ih2 _ _ _ _ _ _ _ _ _ _ _
   | exact pack_Bits.mono _ _
   | exact pack_Sum.mono _ _
   | exact table_may.mono _ _ _ _ _
   | exact LeO.none _
   | refine LeO.ite ?_ ?_
   | refine LeO.bind ?_ (fun _ => ?_)
  ·intro y0 y1 y2 y3 y4 y5 y6 y7
   unfold table_Encode.l1
   repeat' first
   | (with_reducible exact ih0 _ _ _ _ _ _ _ _)
   | (with_reducible exact ih1 _ _ _ _ _ _ _ _)
   | (with_reducible exact ih2 _ _ _ _ _ _ _ _ _ _ _)
   | (with_reducible exact pack_Bits.mono _ _)
   | (with_reducible exact pack_Sum.mono _ _)
   | (with_reducible exact table_may.mono _ _ _ _ _)
   | (with_reducible exact LeO.refl _)
   | (with_reducible exact LeO.none _)
   | (with_reducible refine LeO.ite ?_ ?_)
   | (with_reducible refine LeO.bind ?_ (fun _ => ?_))
   | exact ih0 _ _ _ _ _ _ _ _
   | exact ih1 _ _ _ _ _ _ _ _
   | exact ih2 _ _ _ _ _ _ _ _ _ _ _
   | exact pack_Bits.mono _ _
   | exact pack_Sum.mono _ _
   | exact table_may.mono _ _ _ _ _
   | exact LeO.none _
   | refine LeO.ite ?_ ?_
   | refine LeO.bind ?_ (fun _ => ?_)
  ·intro y0 y1 y2 y3 y4 y5 y6 y7 y8 y9 y10
   unfold table_Encode.l2
   repeat' first
   | (with_reducible exact ih0 _ _ _ _ _ _ _ _)
   | (with_reducible exact ih1 _ _ _ _ _ _ _ _)
   | (with_reducible exact ih2 _ _ _ _ _ _ _ _ _ _ _)
   | (with_reducible exact pack_Bits.mono _ _)
   | (with_reducible exact pack_Sum.mono _ _)
   | (with_reducible exact table_may.mono _ _ _ _ _)
   | (with_reducible exact LeO.refl _)
   | (with_reducible exact LeO.none _)
   | (with_reducible refine LeO.ite ?_ ?_)
   | (with_reducible refine LeO.bind ?_ (fun _ => ?_))
   | exact ih0 _ _ _ _ _ _ _ _
   | exact ih1 _ _ _ _ _ _ _ _
   | exact ih2 _ _ _ _ _ _ _ _ _ _ _
   | exact pack_Bits.mono _ _
   | exact pack_Sum.mono _ _
   | exact table_may.mono _ _ _ _ _
   | exact LeO.none _
   | refine LeO.ite ?_ ?_
   | refine LeO.bind ?_ (fun _ => ?_)
theorem table_Encode.mono : ∀ a0 a1 a2 a3 k, LeO (table_Encode.f k a0 a1 a2 a3) (table_Encode.f (k + 1) a0 a1 a2 a3) := by
 intro a0 a1 a2 a3 k
 obtain ⟨ih0, ih1, ih2⟩ := table_Encode.mono_l k
 unfold table_Encode.f
 repeat' first
   | (with_reducible exact ih0 _ _ _ _ _ _ _ _)
   | (with_reducible exact ih1 _ _ _ _ _ _ _ _)
   | (with_reducible exact ih2 _ _ _ _ _ _ _ _ _ _ _)
   | (with_reducible exact pack_Bits.mono _ _)
   | (with_reducible exact pack_Sum.mono _ _)
   | (with_reducible exact table_may.mono _ _ _ _ _)
   | (with_reducible exact LeO.refl _)
   | (with_reducible exact LeO.none _)
   | (with_reducible refine LeO.ite ?_ ?_)
   | (with_reducible refine LeO.bind ?_ (fun _ => ?_))
   | exact ih0 _ _ _ _ _ _ _ _
   | exact ih1 _ _ _ _ _ _ _ _
   | exact ih2 _ _ _ _ _ _ _ _ _ _ _
   | exact pack_Bits.mono _ _
   | exact pack_Sum.mono _ _
   | exact table_may.mono _ _ _ _ _
   | exact LeO.none _
   | refine LeO.ite ?_ ?_
   | refine LeO.bind ?_ (fun _ => ?_)
def table_Encode.T4 : Bool × List (List Nat × List Nat) := (true, [([], []), ([], []), ([1], [1]), ([2], [2]), ([], []), ([4], [4]), ([5], [5]), ([6], [6]), ([], []), ([8], [8]), ([9], [9]), ([10], [10]), ([3, 7, 11], [3, 7, 11]), ([0, 12], [0, 12]), ([13, 13, 0, 1, 2, 3, 4, 5, 6, 7, 8, 9, 10, 11, 12, 13], [13])])
def table_Encode.B4 : List Nat := [0, 0, 2, 6, 0, 16, 48, 112, 0, 256, 768, 1792, 4094, 8191, 16383]
theorem table_Encode.tab4 : rtab .any (opsOf Try.f12 4) = table_Encode.T4 := by kernel_rfl
theorem table_Encode.bits4 : waitsOk table_Encode.T4.2 table_Encode.B4 = true := by kernel_rfl
def table_Encode.T8 : Bool × List (List Nat × List Nat) := (true, [([], []), ([], []), ([1], [1]), ([0, 2], [0, 2]), ([], []), ([4], [4]), ([5], [5]), ([6], [6]), ([3, 7, 3], [3, 7]), ([8, 8, 0, 1, 2, 3, 4, 5, 6, 7, 8], [0, 8])])
def table_Encode.B8 : List Nat := [0, 0, 2, 7, 0, 16, 48, 112, 255, 511]
theorem table_Encode.tab8 : rtab .any (opsOf Try.f12 8) = table_Encode.T8 := by kernel_rfl
theorem table_Encode.bits8 : waitsOk table_Encode.T8.2 table_Encode.B8 = true := by kernel_rfl
set_option maxHeartbeats 8000000 in
set_option maxRecDepth 100000 in
theorem table_Encode.calls (k : Nat) (a0_0 : Int) (A0_1 : Option Addr) (c0_1 : Nat) (l0_1 : List (S52)) (A0_2 : Option Addr) (c0_2 : Nat) (l0_2 : List (List Int)) (A0_3 : Option Addr) (c0_3 : Nat) (l0_3 : List Bool) (r1 : List Int) (r2 : Bool) (w : World) (hr0_1 : Kd.C k52 w A0_1 l0_1.length l0_1) (hc0_1 : l0_1.length ≤ c0_1) (hr0_2 : Kd.C (Kd.slice 3 (Kd.int .i64)) w A0_2 l0_2.length l0_2) (hc0_2 : l0_2.length ≤ c0_2) (hr0_3 : Kd.C Kd.bool w A0_3 l0_3.length l0_3) (hc0_3 : l0_3.length ≤ c0_3) (h : table_Encode.f k a0_0 l0_1 l0_2 l0_3 = some (r1, r2)) :
  Calls Try.prog 12 #[.agg #[.int .i64 a0_0, .slice A0_1 l0_1.length c0_1, .slice A0_2 l0_2.length c0_2, .slice A0_3 l0_3.length c0_3]] w fun e w' => ∃ v0_ : Value, e = .returned (.tuple #[v0_, .bool r2]) ∧ Kd.R (Kd.int .u8) 5 w' w.heap.size (fun _ => True) v0_ r1 ∧ Below w.heap.size w w' := by
 have hu26 := Try.underlying26
 have hu61 := Try.underlying61
 have hu52 := Try.underlying52
 have hsl_ : ∀ (W : World) (b : Nat), (Instr.sliceAt 61 (.pointer (some ⟨b, 0, none⟩)) none none none).run Try.prog W = .ok (.slice (some ⟨b, 0, none⟩) 4 4) W := fun W b => XFn.slice_all (s := 1) 61 Try.underlying61 (by kernel_rfl) (fun _ => by kernel_rfl) W b
 have HR0_1 := Aside0.mk hr0_1
 have HC0_1 := Aside0.mk hc0_1
 clear hr0_1 hc0_1
 have HR0_2 := Aside0.mk hr0_2
 have HC0_2 := Aside0.mk hc0_2
 clear hr0_2 hc0_2
 have HR0_3 := Aside0.mk hr0_3
 have HC0_3 := Aside0.mk hc0_3
 clear hr0_3 hc0_3
 have HB := Aside0.mk (Below.refl w.heap.size w)
 have H : ((table_may.f k a0_0 l0_1 l0_2 l0_3).bind fun t128 => (if t128 = true then ((table_known.f).bind fun bt129 => ((some (([(a0_0) % 256, ((l0_2.length : Int)) % 256, ((l0_1.length : Int)) % 256] : List Int) : List Int)).bind fun y134 => (if ([bt129.1, bt129.2.1, bt129.2.2.1, bt129.2.2.2] : List Int).length + y134.length < 140737488355328 then (table_Encode.l0 k (([bt129.1, bt129.2.1, bt129.2.2.1, bt129.2.2.2] : List Int) ++ y134) l0_1 (l0_1.length : Int) 0 a0_0 l0_1 l0_2 l0_3) else (none)))) else (some (([] : List Int), false)))) = some (r1, r2) := h
 clear h
 replace H := Option.bind_eq_some_iff.mp H
 obtain ⟨t128, A20, H⟩ := H
 replace H : (if t128 = true then ((table_known.f).bind fun bt129 => ((some (([(a0_0) % 256, ((l0_2.length : Int)) % 256, ((l0_1.length : Int)) % 256] : List Int) : List Int)).bind fun y134 => (if ([bt129.1, bt129.2.1, bt129.2.2.1, bt129.2.2.2] : List Int).length + y134.length < 140737488355328 then (table_Encode.l0 k (([bt129.1, bt129.2.1, bt129.2.2.1, bt129.2.2.2] : List Int) ++ y134) l0_1 (l0_1.length : Int) 0 a0_0 l0_1 l0_2 l0_3) else (none)))) else (some (([] : List Int), false))) = some (r1, r2) := H
 have A2 := Aside0.mk A20
 clear A20
 by_cases c3 : t128 = true
 ·subst c3
  have H1 : ((table_known.f).bind fun bt129 => ((some (([(a0_0) % 256, ((l0_2.length : Int)) % 256, ((l0_1.length : Int)) % 256] : List Int) : List Int)).bind fun y134 => (if ([bt129.1, bt129.2.1, bt129.2.2.1, bt129.2.2.2] : List Int).length + y134.length < 140737488355328 then (table_Encode.l0 k (([bt129.1, bt129.2.1, bt129.2.2.1, bt129.2.2.2] : List Int) ++ y134) l0_1 (l0_1.length : Int) 0 a0_0 l0_1 l0_2 l0_3) else (none)))) = some (r1, r2) := by rw [if_pos rfl] at H; exact H
  clear H
  have H := H1
  clear H1
  replace H := Option.bind_eq_some_iff.mp H
  obtain ⟨⟨t129, t130, t131, t132⟩, A40, H⟩ := H
  replace H : ((some (([(a0_0) % 256, ((l0_2.length : Int)) % 256, ((l0_1.length : Int)) % 256] : List Int) : List Int)).bind fun y134 => (if ([t129, t130, t131, t132] : List Int).length + y134.length < 140737488355328 then (table_Encode.l0 k (([t129, t130, t131, t132] : List Int) ++ y134) l0_1 (l0_1.length : Int) 0 a0_0 l0_1 l0_2 l0_3) else (none))) = some (r1, r2) := H
  have A4 := Aside0.mk A40
  clear A40
  obtain ⟨y134, hy134⟩ : ∃ y_ : List Int, y_ = (([(a0_0) % 256, ((l0_2.length : Int)) % 256, ((l0_1.length : Int)) % 256] : List Int)) := ⟨_, rfl⟩
  replace H : (if ([t129, t130, t131, t132] : List Int).length + y134.length < 140737488355328 then (table_Encode.l0 k (([t129, t130, t131, t132] : List Int) ++ y134) l0_1 (l0_1.length : Int) 0 a0_0 l0_1 l0_2 l0_3) else (none)) = some (r1, r2) := by first | (rw [hy134]; with_reducible exact H) | (have H2_ := (Option.bind_some _ _).symm.trans H; rw [hy134]; with_reducible exact H2_) | (have H2_ := (Option.bind_some _ _).symm.trans H; with_reducible exact H2_) | with_reducible exact H | (rw [hy134]; exact H) | exact H
  have Ny134 := Aside0.mk hy134
  clear hy134
  by_cases c5 : ([t129, t130, t131, t132] : List Int).length + y134.length < 140737488355328
  ·rw [if_pos c5] at H
   have LMc5 := Aside0.mk c5
   clear c5
   obtain ⟨y137, hy137⟩ : ∃ y_ : List Int, y_ = (([t129, t130, t131, t132] : List Int) ++ y134) := ⟨_, rfl⟩
   replace H : (table_Encode.l0 k y137 l0_1 (l0_1.length : Int) 0 a0_0 l0_1 l0_2 l0_3) = some (r1, r2) := by first | (rw [hy137]; with_reducible exact H) | (have H2_ := (Option.bind_some _ _).symm.trans H; rw [hy137]; with_reducible exact H2_) | (have H2_ := (Option.bind_some _ _).symm.trans H; with_reducible exact H2_) | with_reducible exact H | (rw [hy137]; exact H) | exact H
   have Ny137 := Aside0.mk hy137
   clear hy137
   have H' := Aside0.mk H
   clear H
   go_enter Try.func12, Try.ntmps12
   try go_wp2_with (first | ((with_reducible refine gate_dst (N := 1) rfl ?_); refine box_event ?hg (N := 1) ?hd (cs := #[.int .i64 a0_0, .slice A0_1 l0_1.length c0_1, .slice A0_2 l0_2.length c0_2, .slice A0_3 l0_3.length c0_3]) (t := 26) ?hr ?_; (case hd => rfl); (case hg => rfl); (case hr => xgs_); intro gb127 hg w6 hbox hb; have n0_ := Aside0.mk (below_step (by repeat (first | (with_reducible first | exact HB.out | apply below_alloc | apply pw_below_drewN | apply below_drew1) | exact HB.out)) hb); have n1_ := Aside0.mk (hbox); have n2_ := Aside0.mk ((by rw [hg]; exact (below_size (by repeat (first | (with_reducible first | exact HB.out | apply below_alloc | apply pw_below_drewN | apply below_drew1) | exact HB.out))) : w.heap.size ≤ gb127)); have n3_ := Aside0.mk ((by rw [hg]; exact (below_size (by repeat (first | (with_reducible first | exact HB.out | apply below_alloc | apply pw_below_drewN | apply below_drew1) | exact HB.out))) : w.heap.size ≤ gb127)); clear HB; have HB := n0_; have BK127 := n1_; have GW127 := n2_; have GE127 := n3_; clear n0_ n1_ n2_ n3_; clear hb hbox hg; have hcz7_0 : w6.cell? ⟨gb127, 0, none⟩ = some (.int .i64 a0_0) := (blk_cell BK127.out 0).trans rfl; have hcz7_1 : w6.cell? ⟨gb127, 1, none⟩ = some (.slice A0_1 l0_1.length c0_1) := (blk_cell BK127.out 1).trans rfl; have hcz7_2 : w6.cell? ⟨gb127, 2, none⟩ = some (.slice A0_2 l0_2.length c0_2) := (blk_cell BK127.out 2).trans rfl; have hcz7_3 : w6.cell? ⟨gb127, 3, none⟩ = some (.slice A0_3 l0_3.length c0_3) := (blk_cell BK127.out 3).trans rfl; have hfz7_0 := blk_frozen BK127.out 0; have hfz7_1 := blk_frozen BK127.out 1; have hfz7_2 := blk_frozen BK127.out 2; have hfz7_3 := blk_frozen BK127.out 3) | ((with_reducible refine gate_callee (f := 25) rfl ?_); refine goesL_ (some 13) rfl rfl Try.func25 (by kernel_rfl) rfl #[.agg #[.int .i64 a0_0, .slice A0_1 l0_1.length c0_1, .slice A0_2 l0_2.length c0_2, .slice A0_3 l0_3.length c0_3]] rfl (by xlm_) ?_; (with_reducible refine (table_may.calls k a0_0 _ _ l0_1 _ _ l0_2 _ _ l0_3 true _ ?side1 ?side2 ?side3 ?side4 ?side5 ?side6 A2.out).mono ?_); (case side1 => repeat (first | exact (Kd.C_below HR0_1.out HB.out) | xkC_)); (case side2 => exact HC0_1.out); (case side3 => repeat (first | exact (Kd.C_below HR0_2.out HB.out) | xkC_)); (case side4 => exact HC0_2.out); (case side5 => repeat (first | exact (Kd.C_below HR0_3.out HB.out) | xkC_)); (case side6 => exact HC0_3.out); rintro e w8 ⟨rfl, hb⟩; refine ⟨_, rfl, ?_⟩; have n0_ := Aside0.mk (blk_below (g := gb127) (o := .cells #[.int .i64 a0_0, .slice A0_1 l0_1.length c0_1, .slice A0_2 l0_2.length c0_2, .slice A0_3 l0_3.length c0_3] 26 (0, 0)) (by xkb_; exact BK127.out) hb); have n1_ := Aside0.mk (below_step (by repeat (first | (with_reducible first | exact HB.out | apply below_alloc | apply pw_below_drewN | apply below_drew1 | refine below_set ?_ GE127.out) | exact HB.out)) hb); clear BK127; clear HB; have BK127 := n0_; have HB := n1_; clear n0_ n1_; (try clear hb); (try clear hb2); (try clear hk); (try clear hi)) | ((with_reducible refine gate_callee (f := 26) rfl ?_); refine goesL_ (some 15) rfl rfl Try.func26 (by kernel_rfl) rfl #[] rfl (by xlm_) ?_; (with_reducible refine (table_known.calls  t129 t130 t131 t132 _ A4.out).mono ?_); rintro e w9 ⟨rfl, hb⟩; refine ⟨_, rfl, ?_⟩; have n0_ := Aside0.mk (blk_below (g := gb127) (o := .cells #[.int .i64 a0_0, .slice A0_1 l0_1.length c0_1, .slice A0_2 l0_2.length c0_2, .slice A0_3 l0_3.length c0_3] 26 (0, 0)) (by xkb_; exact BK127.out) hb); have n1_ := Aside0.mk (below_step (by repeat (first | (with_reducible first | exact HB.out | apply below_alloc | apply pw_below_drewN | apply below_drew1 | refine below_set ?_ GE127.out) | exact HB.out)) hb); clear BK127; clear HB; have BK127 := n0_; have HB := n1_; clear n0_ n1_; (try clear hb); (try clear hb2); (try clear hk); (try clear hi)) | ((with_reducible refine gate_dst (N := 4) rfl ?_); refine box_event ?hg (N := 4) ?hd (cs := #[.int .u8 0, .int .u8 0, .int .u8 0, .int .u8 0]) (t := 61) ?hr ?_; (case hd => rfl); (case hg => rfl); (case hr => xgs_); intro gb133 hg w10 hbox hb; have n0_ := Aside0.mk (blk_below (g := gb127) (o := .cells #[.int .i64 a0_0, .slice A0_1 l0_1.length c0_1, .slice A0_2 l0_2.length c0_2, .slice A0_3 l0_3.length c0_3] 26 (0, 0)) (by xkb_; exact BK127.out) hb); have n1_ := Aside0.mk (below_step (by repeat (first | (with_reducible first | exact HB.out | apply below_alloc | apply pw_below_drewN | apply below_drew1 | refine below_set ?_ GE127.out) | exact HB.out)) hb); have n2_ := Aside0.mk (hbox); have n3_ := Aside0.mk ((by rw [hg]; exact (below_size (by repeat (first | (with_reducible first | exact HB.out | apply below_alloc | apply pw_below_drewN | apply below_drew1 | refine below_set ?_ GE127.out) | exact HB.out))) : w.heap.size ≤ gb133)); have n4_ := Aside0.mk ((by rw [hg]; exact (below_size (by repeat (first | (with_reducible first | exact HB.out | apply below_alloc | apply pw_below_drewN | apply below_drew1 | refine below_set ?_ GE127.out) | exact HB.out))) : w.heap.size ≤ gb133)); have n5_ := Aside0.mk ((by rw [hg]; exact Nat.ne_of_lt (blk_lt (g := gb127) (o := .cells #[.int .i64 a0_0, .slice A0_1 l0_1.length c0_1, .slice A0_2 l0_2.length c0_2, .slice A0_3 l0_3.length c0_3] 26 (0, 0)) (by xkb_; exact BK127.out)) : gb127 ≠ gb133)); have n6_ := Aside0.mk ((by rw [hg]; exact Nat.ne_of_gt (blk_lt (g := gb127) (o := .cells #[.int .i64 a0_0, .slice A0_1 l0_1.length c0_1, .slice A0_2 l0_2.length c0_2, .slice A0_3 l0_3.length c0_3] 26 (0, 0)) (by xkb_; exact BK127.out)) : gb133 ≠ gb127)); clear BK127; clear HB; have BK127 := n0_; have HB := n1_; have BK133 := n2_; have GW133 := n3_; have GE133 := n4_; have NB127_133 := n5_; have NB133_127 := n6_; clear n0_ n1_ n2_ n3_ n4_ n5_ n6_; clear hb hbox hg; have hnb11 := NB133_127.out; have hnc11 := NB127_133.out; have hcz12_0 : w10.cell? ⟨gb133, 0, none⟩ = some (.int .u8 0) := (blk_cell BK133.out 0).trans rfl; have hcz12_1 : w10.cell? ⟨gb133, 1, none⟩ = some (.int .u8 0) := (blk_cell BK133.out 1).trans rfl; have hcz12_2 : w10.cell? ⟨gb133, 2, none⟩ = some (.int .u8 0) := (blk_cell BK133.out 2).trans rfl; have hcz12_3 : w10.cell? ⟨gb133, 3, none⟩ = some (.int .u8 0) := (blk_cell BK133.out 3).trans rfl; have hfz12_0 := blk_frozen BK133.out 0; have hfz12_1 := blk_frozen BK133.out 1; have hfz12_2 := blk_frozen BK133.out 2; have hfz12_3 := blk_frozen BK133.out 3))
   have n0_ : Aside0 (((((w10.setCell ⟨gb133, 0, none⟩ (.int .u8 t129)).setCell ⟨gb133, 1, none⟩ (.int .u8 t130)).setCell ⟨gb133, 2, none⟩ (.int .u8 t131)).setCell ⟨gb133, 3, none⟩ (.int .u8 t132)).heap[gb127]? = some (.cells #[.int .i64 a0_0, .slice A0_1 l0_1.length c0_1, .slice A0_2 l0_2.length c0_2, .slice A0_3 l0_3.length c0_3] 26 (0, 0))) := ⟨by xkb_; refine blk_far ?_ NB127_133.out _; xkb_; refine blk_far ?_ NB127_133.out _; xkb_; refine blk_far ?_ NB127_133.out _; xkb_; refine blk_far ?_ NB127_133.out _; xkb_; exact BK127.out⟩
   have n1_ : Aside0 (((((w10.setCell ⟨gb133, 0, none⟩ (.int .u8 t129)).setCell ⟨gb133, 1, none⟩ (.int .u8 t130)).setCell ⟨gb133, 2, none⟩ (.int .u8 t131)).setCell ⟨gb133, 3, none⟩ (.int .u8 t132)).heap[gb133]? = some (.cells #[.int .u8 t129, .int .u8 t130, .int .u8 t131, .int .u8 t132] 61 (0, 0))) := ⟨by xkb_; refine blk_put (cs := #[.int .u8 t129, .int .u8 t130, .int .u8 t131, .int .u8 0]) ?_ 3 _ rfl; xkb_; refine blk_put (cs := #[.int .u8 t129, .int .u8 t130, .int .u8 0, .int .u8 0]) ?_ 2 _ rfl; xkb_; refine blk_put (cs := #[.int .u8 t129, .int .u8 0, .int .u8 0, .int .u8 0]) ?_ 1 _ rfl; xkb_; refine blk_put (cs := #[.int .u8 0, .int .u8 0, .int .u8 0, .int .u8 0]) ?_ 0 _ rfl; xkb_; exact BK133.out⟩
   have n2_ : Aside0 (Below w.heap.size w ((((w10.setCell ⟨gb133, 0, none⟩ (.int .u8 t129)).setCell ⟨gb133, 1, none⟩ (.int .u8 t130)).setCell ⟨gb133, 2, none⟩ (.int .u8 t131)).setCell ⟨gb133, 3, none⟩ (.int .u8 t132))) := ⟨by repeat (first | (with_reducible first | exact HB.out | apply below_alloc | apply pw_below_drewN | apply below_drew1 | refine below_set ?_ GE127.out | refine below_set ?_ GE133.out) | exact HB.out)⟩
   (try clear BK127)
   (try clear BK133)
   (try clear HB)
   generalize ((((w10.setCell ⟨gb133, 0, none⟩ (.int .u8 t129)).setCell ⟨gb133, 1, none⟩ (.int .u8 t130)).setCell ⟨gb133, 2, none⟩ (.int .u8 t131)).setCell ⟨gb133, 3, none⟩ (.int .u8 t132)) = w13 at n0_ n1_ n2_ ⊢
   have BK127 := n0_
   have BK133 := n1_
   have HB := n2_
   clear n0_ n1_ n2_
   have n0_ := Aside0.mk (blk_drew BK127.out)
   have n1_ := Aside0.mk (blk_drew BK133.out)
   have n2_ := Aside0.mk (below_drew1 HB.out)
   clear BK127
   clear BK133
   clear HB
   have BK127 := n0_
   have BK133 := n1_
   have HB := n2_
   clear n0_ n1_ n2_
   refine start_ (n := 15) (S := fun w' => w'.cell? ⟨gb127, 0, none⟩ = some (.int .i64 a0_0) ∧ w'.cell? ⟨gb127, 1, none⟩ = some (.slice A0_1 l0_1.length c0_1) ∧ w'.cell? ⟨gb127, 2, none⟩ = some (.slice A0_2 l0_2.length c0_2) ∧ w'.cell? ⟨gb127, 3, none⟩ = some (.slice A0_3 l0_3.length c0_3)) (ds := []) #[false, false, false, false, false, false, false, false, false, false, false, false, false, false, false] (by kernel_rfl) rfl rfl ⟨(blk_cell BK127.out 0).trans rfl, (blk_cell BK127.out 1).trans rfl, (blk_cell BK127.out 2).trans rfl, (blk_cell BK127.out 3).trans rfl⟩ (fun hHeld => ?_); refine with_tabW table_Encode.tab4 table_Encode.bits4 (fun HT_ HW_ => ?_)
   generalize w13.drew = w14 at BK127 BK133 HB hHeld ⊢
   refine pure_ (i := 0) (N := some 16) (v := ?_) (a' := ?_) #[true, false, false, false, false, false, false, false, false, false, false, false, false, false, false] rfl rfl (any_of HT_.out (by kernel_rfl)) (fun _ _ _ h => h) (Or.inl ⟨by rfl, ?_⟩) ?_ ?_
   rotate_left
   ·intro w'
    go_simp
    with_reducible rfl
   rotate_left
   ·xsp_ i64_w i32_w
    rfl
   refine pure_ (i := 1) (N := some 17) (v := ?_) (a' := ?_) #[true, true, false, false, false, false, false, false, false, false, false, false, false, false, false] rfl rfl (any_of HT_.out (by kernel_rfl)) (fun _ _ _ h => h) (Or.inl ⟨by rfl, ?_⟩) ?_ ?_
   rotate_left
   ·intro w'
    go_simp
    with_reducible rfl
   rotate_left
   ·xsp_ i64_w i32_w
    rfl
   refine pure_ (i := 4) (N := some 20) (v := ?_) (a' := ?_) #[true, true, false, false, true, false, false, false, false, false, false, false, false, false, false] rfl rfl (any_of HT_.out (by kernel_rfl)) (fun _ _ _ h => h) (Or.inl ⟨by rfl, ?_⟩) ?_ ?_
   rotate_left
   ·intro w'
    go_simp
    with_reducible rfl
   rotate_left
   ·xsp_ i64_w i32_w
    rfl
   refine pure_ (i := 8) (N := some 24) (v := ?_) (a' := ?_) #[true, true, false, false, true, false, false, false, true, false, false, false, false, false, false] rfl rfl (any_of HT_.out (by kernel_rfl)) (fun _ _ _ h => h) (Or.inl ⟨by rfl, ?_⟩) ?_ ?_
   rotate_left
   ·intro w'
    go_simp
    with_reducible rfl
   rotate_left
   ·xsp_ i64_w i32_w
    rfl
   refine take_ (i := 2) (N := some 18) (v := ?_) (a' := ?_) #[true, true, true, false, true, false, false, false, true, false, false, false, false, false, false] rfl rfl (take_ofW HT_.out HW_.out (by kernel_rfl)) (fun _ _ _ h => h) (Or.inl ⟨by rfl, ?_⟩) hHeld ?_ ?_
   rotate_left
   ·rintro w' ⟨s0, s1, s2, s3⟩
    go_simp
    with_reducible rfl
   rotate_left
   ·xsp_ i64_w i32_w
    rfl
   refine pure_ (i := 3) (N := some 19) (v := ?_) (a' := ?_) #[true, true, true, true, true, false, false, false, true, false, false, false, false, false, false] rfl rfl (any_of HT_.out (by kernel_rfl)) (fun _ _ _ h => h) (Or.inl ⟨by rfl, ?_⟩) ?_ ?_
   rotate_left
   ·intro w'
    go_simp
    with_reducible rfl
   rotate_left
   ·xsp_ i64_w i32_w
    rfl
   refine take_ (i := 5) (N := some 21) (v := ?_) (a' := ?_) #[true, true, true, true, true, true, false, false, true, false, false, false, false, false, false] rfl rfl (take_ofW HT_.out HW_.out (by kernel_rfl)) (fun _ _ _ h => h) (Or.inl ⟨by rfl, ?_⟩) hHeld ?_ ?_
   rotate_left
   ·rintro w' ⟨s0, s1, s2, s3⟩
    go_simp
    with_reducible rfl
   rotate_left
   ·xsp_ i64_w i32_w
    rfl
   refine pure_ (i := 6) (N := some 22) (v := ?_) (a' := ?_) #[true, true, true, true, true, true, true, false, true, false, false, false, false, false, false] rfl rfl (any_of HT_.out (by kernel_rfl)) (fun _ _ _ h => h) (Or.inl ⟨by rfl, ?_⟩) ?_ ?_
   rotate_left
   ·intro w'
    go_simp
    with_reducible rfl
   rotate_left
   ·xsp_ i64_w i32_w
    rfl
   refine pure_ (i := 7) (N := some 23) (v := ?_) (a' := ?_) #[true, true, true, true, true, true, true, true, true, false, false, false, false, false, false] rfl rfl (any_of HT_.out (by kernel_rfl)) (fun _ _ _ h => h) (Or.inl ⟨by rfl, ?_⟩) ?_ ?_
   rotate_left
   ·intro w'
    go_simp
    with_reducible rfl
   rotate_left
   ·xsp_ i64_w i32_w
    rfl
   refine take_ (i := 9) (N := some 25) (v := ?_) (a' := ?_) #[true, true, true, true, true, true, true, true, true, true, false, false, false, false, false] rfl rfl (take_ofW HT_.out HW_.out (by kernel_rfl)) (fun _ _ _ h => h) (Or.inl ⟨by rfl, ?_⟩) hHeld ?_ ?_
   rotate_left
   ·rintro w' ⟨s0, s1, s2, s3⟩
    go_simp
    with_reducible rfl
   rotate_left
   ·xsp_ i64_w i32_w
    rfl
   refine pure_ (i := 10) (N := some 26) (v := ?_) (a' := ?_) #[true, true, true, true, true, true, true, true, true, true, true, false, false, false, false] rfl rfl (any_of HT_.out (by kernel_rfl)) (fun _ _ _ h => h) (Or.inl ⟨by rfl, ?_⟩) ?_ ?_
   rotate_left
   ·intro w'
    go_simp
    with_reducible rfl
   rotate_left
   ·xsp_ i64_w i32_w
    rfl
   refine pure_ (i := 11) (N := some 27) (v := ?_) (a' := ?_) #[true, true, true, true, true, true, true, true, true, true, true, true, false, false, false] rfl rfl (any_of HT_.out (by kernel_rfl)) (fun _ _ _ h => h) (Or.inl ⟨by rfl, ?_⟩) ?_ ?_
   rotate_left
   ·intro w'
    go_simp
    with_reducible rfl
   rotate_left
   ·xsp_ i64_w i32_w
    rfl
   refine one_ (i := 12) (N := some 28) #[true, true, true, true, true, true, true, true, true, true, true, true, true, false, false] rfl rfl (one_of HT_.out (by kernel_rfl)) (by decide) (fun K hK => ?_)
   refine Kd.R_lit_step (Kd.int .u8) _ 5 ?hg (N := 28) ?hd (xs := ([(a0_0) % 256, ((l0_2.length : Int)) % 256, ((l0_1.length : Int)) % 256] : List Int)) (inner := [.int .u8 ((a0_0) % 256), .int .u8 (((l0_2.length : Int)) % 256), .int .u8 (((l0_1.length : Int)) % 256)]) (ok := fun _ => True) (okp := fun _ => True) ?hr ?hp (fun _ hk => hk) trivial (Below.refl _ _) (Nat.le_refl _) (by simp) ?_; (case hd => rfl); (case hg => rfl); (case hr => xgs_); (case hp => exact (Reps.one (show Kd.M (Kd.int .u8) _ _ _ ((a0_0) % 256) [.int .u8 ((a0_0) % 256)] from rfl) (Reps.one (show Kd.M (Kd.int .u8) _ _ _ (((l0_2.length : Int)) % 256) [.int .u8 (((l0_2.length : Int)) % 256)] from rfl) (Reps.one (show Kd.M (Kd.int .u8) _ _ _ (((l0_1.length : Int)) % 256) [.int .u8 (((l0_1.length : Int)) % 256)] from rfl) (Reps.none _ _)))))
   intro v135 w15 ho16 hb hg_ hnew_
   clear hg_ hnew_
   (first | rw [← Ny134.out] at ho16 | (simp only [Int.reduceToNat] at ho16; rw [← Ny134.out] at ho16))
   have n0_ := Aside0.mk (Kd.R_lower ho16 (below_size (by repeat (first | (with_reducible first | exact HB.out | apply below_alloc | apply pw_below_drewN | apply below_drew1 | refine below_set ?_ GE127.out | refine below_set ?_ GE133.out) | exact HB.out))))
   have n1_ := Aside0.mk (blk_below (g := gb127) (o := .cells #[.int .i64 a0_0, .slice A0_1 l0_1.length c0_1, .slice A0_2 l0_2.length c0_2, .slice A0_3 l0_3.length c0_3] 26 (0, 0)) (by xkb_; exact BK127.out) hb)
   have n2_ := Aside0.mk (blk_below (g := gb133) (o := .cells #[.int .u8 t129, .int .u8 t130, .int .u8 t131, .int .u8 t132] 61 (0, 0)) (by xkb_; exact BK133.out) hb)
   have n3_ := Aside0.mk (below_step (by repeat (first | (with_reducible first | exact HB.out | apply below_alloc | apply pw_below_drewN | apply below_drew1 | refine below_set ?_ GE127.out | refine below_set ?_ GE133.out) | exact HB.out)) hb)
   clear BK127
   clear BK133
   clear HB
   have HO136 := n0_
   have BK127 := n1_
   have BK133 := n2_
   have HB := n3_
   clear n0_ n1_ n2_ n3_
   clear hb ho16
   obtain ⟨Ao18, co18, eo18⟩ := Kd.R_slice HO136.out
   (first | subst eo18 | (injection eo18 with f1_ f2_ f3_; have f4_ := f1_.symm; have f5_ := f3_.symm; clear f1_ f2_ f3_; subst f4_; subst f5_))
   refine hK.out _ _ ⟨(blk_cell BK127.out 0).trans rfl, (blk_cell BK127.out 1).trans rfl, (blk_cell BK127.out 2).trans rfl, (blk_cell BK127.out 3).trans rfl⟩ (fun hHeld => ?_)
   clear hK K
   refine norm_ (a' := ?_) ?_ ?_
   rotate_left
   ·show Act.put _ (some 28) _ = _
    xsp_ i64_w i32_w
    rfl
   refine one_ (i := 13) (N := some 29) #[true, true, true, true, true, true, true, true, true, true, true, true, true, true, false] rfl rfl (one_of HT_.out (by kernel_rfl)) (by decide) (fun K hK => ?_)
   refine XFn.append_full_step (w0 := w) w.heap.size rfl (.tmp 16) (.tmp 28) 27 5 rfl Try.underlying27 info5 ⟨gb133, 0, none⟩ 4 [t129, t130, t131, t132] y134 (fun k_ => some k_ ≠ (.slice Ao18 y134.length co18 : Value).ownBlock) rfl rfl ?aX ?aR ?aM ?aF ?aB ?aS ?aL ?_
   (case aX => exact XFn.row4 (by xkb_; exact BK133.out))
   (case aR => repeat (first | exact (Kd.R_reads' HO136.out).2.2 | xkC_))
   (case aF => exact (fun k_ hk => Kd.fresh' (Kd.R_lt (by xkR_; exact HO136.out)) k_ hk))
   (case aB => exact (by repeat (first | (with_reducible first | exact HB.out | apply below_alloc | apply pw_below_drewN | apply below_drew1 | refine below_set ?_ GE127.out | refine below_set ?_ GE133.out) | exact HB.out)))
   (case aS => exact (below_size (by repeat (first | (with_reducible first | exact HB.out | apply below_alloc | apply pw_below_drewN | apply below_drew1 | refine below_set ?_ GE127.out | refine below_set ?_ GE133.out) | exact HB.out))))
   (case aM => rw [Ny134.out]; simp)
   (case aL => rw [Ny134.out]; simp)
   intro v138 w17 ho hb hg hat
   rw [← Ny137.out] at ho
   have n0_ := Aside0.mk (blk_grown (g := gb127) (o := .cells #[.int .i64 a0_0, .slice A0_1 l0_1.length c0_1, .slice A0_2 l0_2.length c0_2, .slice A0_3 l0_3.length c0_3] 26 (0, 0)) (by xkb_; exact BK127.out) hg (by simp [Value.ownBlock]))
   have n1_ := Aside0.mk (blk_grown (g := gb133) (o := .cells #[.int .u8 t129, .int .u8 t130, .int .u8 t131, .int .u8 t132] 61 (0, 0)) (by xkb_; exact BK133.out) hg (by simp [Value.ownBlock]))
   have n2_ := Aside0.mk (Kd.R_after (Kd.R_apart_nil (by xkR_; exact HO136.out)) hg hat)
   have n3_ := Aside0.mk (hb)
   have n4_ := Aside0.mk (ho)
   clear BK127
   clear BK133
   clear HO136
   clear HB
   have BK127 := n0_
   have BK133 := n1_
   have HO136 := n2_
   have HB := n3_
   have HO139 := n4_
   clear n0_ n1_ n2_ n3_ n4_
   clear ho hb hg hat
   refine hK.out _ _ ⟨(blk_cell BK127.out 0).trans rfl, (blk_cell BK127.out 1).trans rfl, (blk_cell BK127.out 2).trans rfl, (blk_cell BK127.out 3).trans rfl⟩ (fun hHeld => ?_)
   clear hK K
   refine norm_ (a' := ?_) ?_ ?_
   rotate_left
   ·show Act.put _ (some 29) _ = _
    xsp_ i64_w i32_w
    rfl
   refine pure_ (i := 14) (N := some 5) (v := ?_) (a' := ?_) #[true, true, true, true, true, true, true, true, true, true, true, true, true, true, true] rfl rfl (any_of HT_.out (by kernel_rfl)) (fun _ _ _ h => h) (Or.inl ⟨by rfl, ?_⟩) ?_ ?_
   rotate_left
   ·intro w'
    go_simp
    with_reducible rfl
   rotate_left
   ·xsp_ i64_w i32_w
    rfl
   refine done_ (done_of HT_.out (by kernel_rfl)) ?_
   have hcz19_0 : w17.cell? ⟨gb127, 0, none⟩ = some (.int .i64 a0_0) := (blk_cell BK127.out 0).trans rfl
   have hcz19_1 : w17.cell? ⟨gb127, 1, none⟩ = some (.slice A0_1 l0_1.length c0_1) := (blk_cell BK127.out 1).trans rfl
   have hcz19_2 : w17.cell? ⟨gb127, 2, none⟩ = some (.slice A0_2 l0_2.length c0_2) := (blk_cell BK127.out 2).trans rfl
   have hcz19_3 : w17.cell? ⟨gb127, 3, none⟩ = some (.slice A0_3 l0_3.length c0_3) := (blk_cell BK127.out 3).trans rfl
   have hfz19_0 := blk_frozen BK127.out 0
   have hfz19_1 := blk_frozen BK127.out 1
   have hfz19_2 := blk_frozen BK127.out 2
   have hfz19_3 := blk_frozen BK127.out 3
   try go_wp2
   go_loopg [5, 33] k (fun kq v5 v33 w' => ∃ (x5_1 : List Int) (x33_1 : Int), v33 = .int .i64 x33_1 ∧ Aside0 (table_Encode.l0 kq x5_1 l0_1 (l0_1.length : Int) x33_1 a0_0 l0_1 l0_2 l0_3 = some (r1, r2)) ∧ Aside0 (kq ≤ k) ∧ Aside0 (Kd.R (Kd.int .u8) 5 w' w.heap.size (fun _ => True) v5 x5_1) ∧ Aside0 (w'.heap[gb127]? = some (.cells #[.int .i64 a0_0, (.slice A0_1 l0_1.length c0_1), (.slice A0_2 l0_2.length c0_2), (.slice A0_3 l0_3.length c0_3)] 26 (0, 0))) ∧ Aside0 (w'.heap[gb133]? = some (.cells #[.int .u8 t129, .int .u8 t130, .int .u8 t131, .int .u8 t132] 61 (0, 0))) ∧ Aside0 (Below w.heap.size w w'))
   case atStart => exact ⟨(y137), (0), (by xrs_), H', ⟨Nat.le_refl _⟩, ⟨by xkR_; exact Kd.R_mono HO139.out (fun _ hk => trivial)⟩, ⟨by xkb_; exact BK127.out⟩, ⟨by xkb_; exact BK133.out⟩, ⟨by repeat (first | (with_reducible first | exact HB.out | apply below_alloc | apply pw_below_drewN | apply below_drew1 | refine below_set ?_ GE127.out | refine below_set ?_ GE133.out) | exact HB.out)⟩⟩
   case round =>
    clear H'
    xcl_ c1 c2 p2 c3 c5 c11 c12 hcz12_0 hcz12_1 hcz12_2 hcz12_3 hcz19_0 hcz19_1 hcz19_2 hcz19_3 hcz7_0 hcz7_1 hcz7_2 hcz7_3 hfz12_0 hfz12_1 hfz12_2 hfz12_3 hfz19_0 hfz19_1 hfz19_2 hfz19_3 hfz7_0 hfz7_1 hfz7_2 hfz7_3
    obtain ⟨x5_1, x33_1, rfl, HA, HK1, HO_5, BK127, BK133, HB⟩ := hrel
    cases gk with
    | zero => exact absurd HA.out (by simp [table_Encode.l0])
    | succ k1 =>
     have H := HA.out
     clear HA
     simp only [table_Encode.l0] at H
     by_cases c20 : x33_1 < (l0_1.length : Int)
     ·rw [if_pos c20] at H
      have c20b0 : decide (x33_1 < (l0_1.length : Int)) = true := decide_eq_true c20
      clear c20
      by_cases c21 : 0 ≤ x33_1
      ·rw [if_pos c21] at H
       have c21b0 : decide (0 ≤ x33_1) = true := decide_eq_true c21
       clear c21
       by_cases c22 : x33_1 < (l0_1.length : Int)
       ·rw [if_pos c22] at H
        have c22b0 : decide (x33_1 < (l0_1.length : Int)) = true := decide_eq_true c22
        clear c22
        replace H := Option.bind_eq_some_iff.mp H
        obtain ⟨t142, A230, H⟩ := H
        replace H : ((some (([((rd_T52 l0_1 x33_1).f1) % 256] : List Int) : List Int)).bind fun y145 => (if t142.length + y145.length < 140737488355328 then (table_Encode.l0 k1 (t142 ++ y145) l0_1 (l0_1.length : Int) (wrap64 (x33_1 + 1)) a0_0 l0_1 l0_2 l0_3) else (none))) = some (r1, r2) := H
        have A23 := Aside0.mk A230
        clear A230
        obtain ⟨y145, hy145⟩ : ∃ y_ : List Int, y_ = (([((rd_T52 l0_1 x33_1).f1) % 256] : List Int)) := ⟨_, rfl⟩
        replace H : (if t142.length + y145.length < 140737488355328 then (table_Encode.l0 k1 (t142 ++ y145) l0_1 (l0_1.length : Int) (wrap64 (x33_1 + 1)) a0_0 l0_1 l0_2 l0_3) else (none)) = some (r1, r2) := by first | (rw [hy145]; with_reducible exact H) | (have H2_ := (Option.bind_some _ _).symm.trans H; rw [hy145]; with_reducible exact H2_) | (have H2_ := (Option.bind_some _ _).symm.trans H; with_reducible exact H2_) | with_reducible exact H | (rw [hy145]; exact H) | exact H
        have Ny145 := Aside0.mk hy145
        clear hy145
        by_cases c24 : t142.length + y145.length < 140737488355328
        ·rw [if_pos c24] at H
         have LMc24 := Aside0.mk c24
         clear c24
         obtain ⟨y148, hy148⟩ : ∃ y_ : List Int, y_ = (t142 ++ y145) := ⟨_, rfl⟩
         replace H : (table_Encode.l0 k1 y148 l0_1 (l0_1.length : Int) (wrap64 (x33_1 + 1)) a0_0 l0_1 l0_2 l0_3) = some (r1, r2) := by first | (rw [hy148]; with_reducible exact H) | (have H2_ := (Option.bind_some _ _).symm.trans H; rw [hy148]; with_reducible exact H2_) | (have H2_ := (Option.bind_some _ _).symm.trans H; with_reducible exact H2_) | with_reducible exact H | (rw [hy148]; exact H) | exact H
         have Ny148 := Aside0.mk hy148
         clear hy148
         have H' := Aside0.mk H
         clear H
         have p140 : 0 ≤ (x33_1 : Int) := of_decide_eq_true (by xas_)
         have q140 : x33_1 < (l0_1.length : Int) := of_decide_eq_true (by xas_)
         obtain ⟨ad140, e140, hx140_0, hx140_1⟩ := at_T52 HR0_1.out x33_1 p140 q140
         cases e140
         replace hx140_0 := (HB.out.cell (World.block_lt_of_cell? w _ hx140_0)).trans hx140_0
         replace hx140_1 := (HB.out.cell (World.block_lt_of_cell? w _ hx140_1)).trans hx140_1
         replace p140 := eq_true p140
         replace q140 := eq_true q140
         try go_wp2_with (first | ((with_reducible refine gate_dst (N := 7) rfl ?_); refine box_event ?hg (N := 7) ?hd (cs := #[.int .i64 0, .int .i64 0]) (t := 52) ?hr ?_; (case hd => rfl); (case hg => rfl); (case hr => xgs_); intro gb141 hg w25 hbox hb; have n0_ := Aside0.mk (Kd.R_below (by xkR_; exact HO_5.out) hb); have n1_ := Aside0.mk (blk_below (g := gb127) (o := .cells #[.int .i64 a0_0, .slice (some ad140) l0_1.length c0_1, .slice A0_2 l0_2.length c0_2, .slice A0_3 l0_3.length c0_3] 26 (0, 0)) (by xkb_; exact BK127.out) hb); have n2_ := Aside0.mk (blk_below (g := gb133) (o := .cells #[.int .u8 t129, .int .u8 t130, .int .u8 t131, .int .u8 t132] 61 (0, 0)) (by xkb_; exact BK133.out) hb); have n3_ := Aside0.mk (below_step (by repeat (first | (with_reducible first | exact HB.out | apply below_alloc | apply pw_below_drewN | apply below_drew1 | refine below_set ?_ GE127.out | refine below_set ?_ GE133.out) | exact HB.out)) hb); have n4_ := Aside0.mk (hbox); have n5_ := Aside0.mk ((by rw [hg]; exact (below_size (by repeat (first | (with_reducible first | exact HB.out | apply below_alloc | apply pw_below_drewN | apply below_drew1 | refine below_set ?_ GE127.out | refine below_set ?_ GE133.out) | exact HB.out))) : w.heap.size ≤ gb141)); have n6_ := Aside0.mk ((by rw [hg]; exact (below_size (by repeat (first | (with_reducible first | exact HB.out | apply below_alloc | apply pw_below_drewN | apply below_drew1 | refine below_set ?_ GE127.out | refine below_set ?_ GE133.out) | exact HB.out))) : w.heap.size ≤ gb141)); have n7_ := Aside0.mk ((by rw [hg]; exact Nat.ne_of_lt (blk_lt (g := gb127) (o := .cells #[.int .i64 a0_0, .slice (some ad140) l0_1.length c0_1, .slice A0_2 l0_2.length c0_2, .slice A0_3 l0_3.length c0_3] 26 (0, 0)) (by xkb_; exact BK127.out)) : gb127 ≠ gb141)); have n8_ := Aside0.mk ((by rw [hg]; exact Nat.ne_of_gt (blk_lt (g := gb127) (o := .cells #[.int .i64 a0_0, .slice (some ad140) l0_1.length c0_1, .slice A0_2 l0_2.length c0_2, .slice A0_3 l0_3.length c0_3] 26 (0, 0)) (by xkb_; exact BK127.out)) : gb141 ≠ gb127)); have n9_ := Aside0.mk ((by rw [hg]; exact Nat.ne_of_lt (blk_lt (g := gb133) (o := .cells #[.int .u8 t129, .int .u8 t130, .int .u8 t131, .int .u8 t132] 61 (0, 0)) (by xkb_; exact BK133.out)) : gb133 ≠ gb141)); have n10_ := Aside0.mk ((by rw [hg]; exact Nat.ne_of_gt (blk_lt (g := gb133) (o := .cells #[.int .u8 t129, .int .u8 t130, .int .u8 t131, .int .u8 t132] 61 (0, 0)) (by xkb_; exact BK133.out)) : gb141 ≠ gb133)); clear HO_5; clear BK127; clear BK133; clear HB; have HO_5 := n0_; have BK127 := n1_; have BK133 := n2_; have HB := n3_; have BK141 := n4_; have GW141 := n5_; have GE141 := n6_; have NB127_141 := n7_; have NB141_127 := n8_; have NB133_141 := n9_; have NB141_133 := n10_; clear n0_ n1_ n2_ n3_ n4_ n5_ n6_ n7_ n8_ n9_ n10_; clear hb hbox hg; have hnb26 := NB141_127.out; have hnc26 := NB127_141.out; have hnb27 := NB141_133.out; have hnc27 := NB133_141.out; have hcz28_0 : w25.cell? ⟨gb141, 0, none⟩ = some (.int .i64 0) := (blk_cell BK141.out 0).trans rfl; have hcz28_1 : w25.cell? ⟨gb141, 1, none⟩ = some (.int .i64 0) := (blk_cell BK141.out 1).trans rfl; have hfz28_0 := blk_frozen BK141.out 0; have hfz28_1 := blk_frozen BK141.out 1; obtain ⟨Ao29, co29, eo29⟩ := Kd.R_slice HO_5.out; subst eo29))
         have n0_ : Aside0 (Kd.R (Kd.int .u8) 5 ((w25.setCell ⟨gb141, 0, none⟩ (.int .i64 ((rd_T52 l0_1 x33_1).f0))).setCell ⟨gb141, 1, none⟩ (.int .i64 ((rd_T52 l0_1 x33_1).f1))) w.heap.size (fun _ => True) (.slice Ao29 x5_1.length co29) x5_1) := ⟨by xkR_; exact Kd.R_mono (Kd.R_far (p := ⟨gb141, 1, none⟩) (Kd.R_far (p := ⟨gb141, 0, none⟩) (Kd.R_types HO_5.out BK141.out (by decide)) (fun _ hk => hk.2) (.int .i64 ((rd_T52 l0_1 x33_1).f0))) (fun _ hk => hk.2) (.int .i64 ((rd_T52 l0_1 x33_1).f1))) (fun _ hk => trivial)⟩
         have n1_ : Aside0 (((w25.setCell ⟨gb141, 0, none⟩ (.int .i64 ((rd_T52 l0_1 x33_1).f0))).setCell ⟨gb141, 1, none⟩ (.int .i64 ((rd_T52 l0_1 x33_1).f1))).heap[gb127]? = some (.cells #[.int .i64 a0_0, .slice (some ad140) l0_1.length c0_1, .slice A0_2 l0_2.length c0_2, .slice A0_3 l0_3.length c0_3] 26 (0, 0))) := ⟨by xkb_; refine blk_far ?_ NB127_141.out _; xkb_; refine blk_far ?_ NB127_141.out _; xkb_; exact BK127.out⟩
         have n2_ : Aside0 (((w25.setCell ⟨gb141, 0, none⟩ (.int .i64 ((rd_T52 l0_1 x33_1).f0))).setCell ⟨gb141, 1, none⟩ (.int .i64 ((rd_T52 l0_1 x33_1).f1))).heap[gb133]? = some (.cells #[.int .u8 t129, .int .u8 t130, .int .u8 t131, .int .u8 t132] 61 (0, 0))) := ⟨by xkb_; refine blk_far ?_ NB133_141.out _; xkb_; refine blk_far ?_ NB133_141.out _; xkb_; exact BK133.out⟩
         have n3_ : Aside0 (((w25.setCell ⟨gb141, 0, none⟩ (.int .i64 ((rd_T52 l0_1 x33_1).f0))).setCell ⟨gb141, 1, none⟩ (.int .i64 ((rd_T52 l0_1 x33_1).f1))).heap[gb141]? = some (.cells #[.int .i64 ((rd_T52 l0_1 x33_1).f0), .int .i64 ((rd_T52 l0_1 x33_1).f1)] 52 (0, 0))) := ⟨by xkb_; refine blk_put (cs := #[.int .i64 ((rd_T52 l0_1 x33_1).f0), .int .i64 0]) ?_ 1 _ rfl; xkb_; refine blk_put (cs := #[.int .i64 0, .int .i64 0]) ?_ 0 _ rfl; xkb_; exact BK141.out⟩
         have n4_ : Aside0 (Below w.heap.size w ((w25.setCell ⟨gb141, 0, none⟩ (.int .i64 ((rd_T52 l0_1 x33_1).f0))).setCell ⟨gb141, 1, none⟩ (.int .i64 ((rd_T52 l0_1 x33_1).f1)))) := ⟨by repeat (first | (with_reducible first | exact HB.out | apply below_alloc | apply pw_below_drewN | apply below_drew1 | refine below_set ?_ GE127.out | refine below_set ?_ GE133.out | refine below_set ?_ GE141.out) | exact HB.out)⟩
         (try clear HO_5)
         (try clear BK127)
         (try clear BK133)
         (try clear BK141)
         (try clear HB)
         generalize ((w25.setCell ⟨gb141, 0, none⟩ (.int .i64 ((rd_T52 l0_1 x33_1).f0))).setCell ⟨gb141, 1, none⟩ (.int .i64 ((rd_T52 l0_1 x33_1).f1))) = w30 at n0_ n1_ n2_ n3_ n4_ ⊢
         have HO_5 := n0_
         have BK127 := n1_
         have BK133 := n2_
         have BK141 := n3_
         have HB := n4_
         clear n0_ n1_ n2_ n3_ n4_
         have n0_ := Aside0.mk (Kd.R_drew HO_5.out)
         have n1_ := Aside0.mk (blk_drew BK127.out)
         have n2_ := Aside0.mk (blk_drew BK133.out)
         have n3_ := Aside0.mk (blk_drew BK141.out)
         have n4_ := Aside0.mk (below_drew1 HB.out)
         clear HO_5
         clear BK127
         clear BK133
         clear BK141
         clear HB
         have HO_5 := n0_
         have BK127 := n1_
         have BK133 := n2_
         have BK141 := n3_
         have HB := n4_
         clear n0_ n1_ n2_ n3_ n4_
         refine start_ (n := 10) (S := fun w' => w'.cell? ⟨gb141, 0, none⟩ = some (.int .i64 ((rd_T52 l0_1 x33_1).f0)) ∧ w'.cell? ⟨gb141, 1, none⟩ = some (.int .i64 ((rd_T52 l0_1 x33_1).f1))) (ds := []) #[false, false, false, false, false, false, false, false, false, false] (by kernel_rfl) rfl rfl ⟨(blk_cell BK141.out 0).trans rfl, (blk_cell BK141.out 1).trans rfl⟩ (fun hHeld => ?_); refine with_tabW table_Encode.tab8 table_Encode.bits8 (fun HT_ HW_ => ?_)
         generalize w30.drew = w31 at HO_5 BK127 BK133 BK141 HB hHeld ⊢
         refine pure_ (i := 0) (N := some 37) (v := ?_) (a' := ?_) #[true, false, false, false, false, false, false, false, false, false] rfl rfl (any_of HT_.out (by kernel_rfl)) (fun _ _ _ h => h) (Or.inl ⟨by rfl, ?_⟩) ?_ ?_
         rotate_left
         ·intro w'
          go_simp
          with_reducible rfl
         rotate_left
         ·xsp_ i64_w i32_w
          rfl
         refine pure_ (i := 1) (N := some 38) (v := ?_) (a' := ?_) #[true, true, false, false, false, false, false, false, false, false] rfl rfl (any_of HT_.out (by kernel_rfl)) (fun _ _ _ h => h) (Or.inl ⟨by rfl, ?_⟩) ?_ ?_
         rotate_left
         ·intro w'
          go_simp
          with_reducible rfl
         rotate_left
         ·xsp_ i64_w i32_w
          rfl
         refine pure_ (i := 4) (N := some 41) (v := ?_) (a' := ?_) #[true, true, false, false, true, false, false, false, false, false] rfl rfl (any_of HT_.out (by kernel_rfl)) (fun _ _ _ h => h) (Or.inl ⟨by rfl, ?_⟩) ?_ ?_
         rotate_left
         ·intro w'
          go_simp
          with_reducible rfl
         rotate_left
         ·xsp_ i64_w i32_w
          rfl
         refine take_ (i := 2) (N := some 39) (v := ?_) (a' := ?_) #[true, true, true, false, true, false, false, false, false, false] rfl rfl (take_ofW HT_.out HW_.out (by kernel_rfl)) (fun _ _ _ h => h) (Or.inl ⟨by rfl, ?_⟩) hHeld ?_ ?_
         rotate_left
         ·rintro w' ⟨s0, s1⟩
          go_simp
          with_reducible rfl
         rotate_left
         ·xsp_ i64_w i32_w
          rfl
         refine take_ (i := 5) (N := some 42) (v := ?_) (a' := ?_) #[true, true, true, false, true, true, false, false, false, false] rfl rfl (take_ofW HT_.out HW_.out (by kernel_rfl)) (fun _ _ _ h => h) (Or.inl ⟨by rfl, ?_⟩) hHeld ?_ ?_
         rotate_left
         ·rintro w' ⟨s0, s1⟩
          go_simp
          with_reducible rfl
         rotate_left
         ·xsp_ i64_w i32_w
          rfl
         refine pure_ (i := 6) (N := some 43) (v := ?_) (a' := ?_) #[true, true, true, false, true, true, true, false, false, false] rfl rfl (any_of HT_.out (by kernel_rfl)) (fun _ _ _ h => h) (Or.inl ⟨by rfl, ?_⟩) ?_ ?_
         rotate_left
         ·intro w'
          go_simp
          with_reducible rfl
         rotate_left
         ·xsp_ i64_w i32_w
          rfl
         refine join_ (σ := Value × Value) 2 #[true, true, true, true, true, true, true, true, false, false] (fun s_ => [(40, s_.1), (44, s_.2)]) (fun s_ w' => (w'.cell? ⟨gb141, 0, none⟩ = some (.int .i64 ((rd_T52 l0_1 x33_1).f0)) ∧ w'.cell? ⟨gb141, 1, none⟩ = some (.int .i64 ((rd_T52 l0_1 x33_1).f1))) ∧ (Kd.R (Kd.int .u8) 5 w' w.heap.size (fun k_ => some k_ ≠ (s_.2 : Value).ownBlock ∧ some k_ ≠ (.slice Ao29 x5_1.length co29 : Value).ownBlock) s_.1 t142) ∧ (Kd.R (Kd.int .u8) 5 w' w.heap.size (fun k_ => some k_ ≠ (s_.1 : Value).ownBlock ∧ some k_ ≠ (.slice Ao29 x5_1.length co29 : Value).ownBlock) s_.2 y145) ∧ (Kd.R (Kd.int .u8) 5 w' w.heap.size (fun k_ => some k_ ≠ (s_.1 : Value).ownBlock ∧ some k_ ≠ (s_.2 : Value).ownBlock) (.slice Ao29 x5_1.length co29) x5_1) ∧ (w'.heap[gb127]? = some (.cells #[.int .i64 a0_0, .slice (some ad140) l0_1.length c0_1, .slice A0_2 l0_2.length c0_2, .slice A0_3 l0_3.length c0_3] 26 (0, 0))) ∧ (w'.heap[gb133]? = some (.cells #[.int .u8 t129, .int .u8 t130, .int .u8 t131, .int .u8 t132] 61 (0, 0))) ∧ (w'.heap[gb141]? = some (.cells #[.int .i64 ((rd_T52 l0_1 x33_1).f0), .int .i64 ((rd_T52 l0_1 x33_1).f1)] 52 (0, 0))) ∧ (Below w.heap.size w w')) ?_ ?_
         rotate_left
         ·intro hCont
          refine two_ (i := 3) (j := 7) (Ni := some 40) (Nj := some 44) #[true, true, true, true, true, true, true, false, false, false] #[true, true, true, false, true, true, true, true, false, false] rfl rfl rfl rfl (two_of HT_.out (by kernel_rfl)) (by decide) (by decide) (fun K hK => ?_) (fun K hK => ?_)
          ·skip
           refine goes_ Try.func27 (by kernel_rfl) rfl #[.slice Ao29 x5_1.length co29, .int .i64 ((rd_T52 l0_1 x33_1).f0), .int .i64 3] (by rfl) rfl rfl (by xlm_) ?_
           with_reducible refine (pack_Put.calls _ _ x5_1 ((rd_T52 l0_1 x33_1).f0) 3 t142 _ ?side1 ?side2 A23.out).mono ?_
           (case side1 => repeat (first | exact (Kd.R_reads' HO_5.out).2.2 | xkC_))
           (case side2 => exact (Kd.R_reads' HO_5.out).2.1)
           rintro e w32 ⟨v143, rfl, ho0, hb⟩
           refine ⟨_, rfl, ?_⟩
           have n0_ := Aside0.mk (Kd.R_elder' (by xkR_; exact HO_5.out) (Kd.R_base ho0) hb)
           have n1_ := Aside0.mk (Kd.R_lower (Kd.R_new' ho0 (Kd.R_lt (by xkR_; exact HO_5.out))) (below_size (by repeat (first | (with_reducible first | exact HB.out | apply below_alloc | apply pw_below_drewN | apply below_drew1 | refine below_set ?_ GE127.out | refine below_set ?_ GE133.out | refine below_set ?_ GE141.out) | exact HB.out))))
           have n2_ := Aside0.mk (blk_below (g := gb127) (o := .cells #[.int .i64 a0_0, .slice (some ad140) l0_1.length c0_1, .slice A0_2 l0_2.length c0_2, .slice A0_3 l0_3.length c0_3] 26 (0, 0)) (by xkb_; exact BK127.out) hb)
           have n3_ := Aside0.mk (blk_below (g := gb133) (o := .cells #[.int .u8 t129, .int .u8 t130, .int .u8 t131, .int .u8 t132] 61 (0, 0)) (by xkb_; exact BK133.out) hb)
           have n4_ := Aside0.mk (blk_below (g := gb141) (o := .cells #[.int .i64 ((rd_T52 l0_1 x33_1).f0), .int .i64 ((rd_T52 l0_1 x33_1).f1)] 52 (0, 0)) (by xkb_; exact BK141.out) hb)
           have n5_ := Aside0.mk (below_step (by repeat (first | (with_reducible first | exact HB.out | apply below_alloc | apply pw_below_drewN | apply below_drew1 | refine below_set ?_ GE127.out | refine below_set ?_ GE133.out | refine below_set ?_ GE141.out) | exact HB.out)) hb)
           clear HO_5
           clear BK127
           clear BK133
           clear BK141
           clear HB
           have HO_5 := n0_
           have HO144 := n1_
           have BK127 := n2_
           have BK133 := n3_
           have BK141 := n4_
           have HB := n5_
           clear n0_ n1_ n2_ n3_ n4_ n5_
           (try clear hb)
           (try clear hb2)
           (try clear hk)
           (try clear hi)
           (try clear ho0)
           refine hK.out _ _ ⟨(blk_cell BK141.out 0).trans rfl, (blk_cell BK141.out 1).trans rfl⟩ (fun hHeld => ?_)
           clear hK K
           refine norm_ (a' := ?_) ?_ ?_
           rotate_left
           ·show Act.put _ (some 40) _ = _
            xsp_ i64_w i32_w
            rfl
           refine one_ (i := 7) (N := some 44) #[true, true, true, true, true, true, true, true, false, false] rfl rfl (one_of HT_.out (by kernel_rfl)) (by decide) (fun K hK => ?_)
           refine Kd.R_lit_step (Kd.int .u8) _ 5 ?hg (N := 44) ?hd (xs := ([((rd_T52 l0_1 x33_1).f1) % 256] : List Int)) (inner := [.int .u8 (((rd_T52 l0_1 x33_1).f1) % 256)]) (ok := fun _ => True) (okp := fun _ => True) ?hr ?hp (fun _ hk => hk) trivial (Below.refl _ _) (Nat.le_refl _) (by simp) ?_; (case hd => rfl); (case hg => rfl); (case hr => xgs_); (case hp => exact (Reps.one (show Kd.M (Kd.int .u8) _ _ _ (((rd_T52 l0_1 x33_1).f1) % 256) [.int .u8 (((rd_T52 l0_1 x33_1).f1) % 256)] from rfl) (Reps.none _ _)))
           intro v146 w33 ho34 hb hg_ hnew_
           clear hg_ hnew_
           (first | rw [← Ny145.out] at ho34 | (simp only [Int.reduceToNat] at ho34; rw [← Ny145.out] at ho34))
           have n0_ := Aside0.mk (Kd.R_elder' (by xkR_; exact HO_5.out) (Kd.R_base ho34) hb)
           have n1_ := Aside0.mk (Kd.R_elder' (by xkR_; exact HO144.out) (Kd.R_base ho34) hb)
           have n2_ := Aside0.mk (Kd.R_lower (Kd.R_new' (Kd.R_new' ho34 (Kd.R_lt (by xkR_; exact HO_5.out))) (Kd.R_lt (by xkR_; exact HO144.out))) (below_size (by repeat (first | (with_reducible first | exact HB.out | apply below_alloc | apply pw_below_drewN | apply below_drew1 | refine below_set ?_ GE127.out | refine below_set ?_ GE133.out | refine below_set ?_ GE141.out) | exact HB.out))))
           have n3_ := Aside0.mk (blk_below (g := gb127) (o := .cells #[.int .i64 a0_0, .slice (some ad140) l0_1.length c0_1, .slice A0_2 l0_2.length c0_2, .slice A0_3 l0_3.length c0_3] 26 (0, 0)) (by xkb_; exact BK127.out) hb)
           have n4_ := Aside0.mk (blk_below (g := gb133) (o := .cells #[.int .u8 t129, .int .u8 t130, .int .u8 t131, .int .u8 t132] 61 (0, 0)) (by xkb_; exact BK133.out) hb)
           have n5_ := Aside0.mk (blk_below (g := gb141) (o := .cells #[.int .i64 ((rd_T52 l0_1 x33_1).f0), .int .i64 ((rd_T52 l0_1 x33_1).f1)] 52 (0, 0)) (by xkb_; exact BK141.out) hb)
           have n6_ := Aside0.mk (below_step (by repeat (first | (with_reducible first | exact HB.out | apply below_alloc | apply pw_below_drewN | apply below_drew1 | refine below_set ?_ GE127.out | refine below_set ?_ GE133.out | refine below_set ?_ GE141.out) | exact HB.out)) hb)
           clear HO_5
           clear HO144
           clear BK127
           clear BK133
           clear BK141
           clear HB
           have HO_5 := n0_
           have HO144 := n1_
           have HO147 := n2_
           have BK127 := n3_
           have BK133 := n4_
           have BK141 := n5_
           have HB := n6_
           clear n0_ n1_ n2_ n3_ n4_ n5_ n6_
           clear hb ho34
           refine hK.out _ _ ⟨(blk_cell BK141.out 0).trans rfl, (blk_cell BK141.out 1).trans rfl⟩ (fun hHeld => ?_)
           clear hK K
           refine norm_ (a' := ?_) ?_ ?_
           rotate_left
           ·show Act.put _ (some 44) _ = _
            xsp_ i64_w i32_w
            rfl
           exact norm_ (by simp only [putAll, Act.put, List.setIfInBounds_toArray, List.set_cons_zero, List.set_cons_succ]) (hCont (v143, v146) _ ⟨hHeld, (by xkR_; exact Kd.R_mono HO144.out (fun _ hk => ⟨hk.2, hk.1.2⟩)), (by xkR_; exact Kd.R_mono HO147.out (fun _ hk => ⟨hk.2, hk.1.2⟩)), (by xkR_; exact Kd.R_mono HO_5.out (fun _ hk => ⟨hk.1.2, hk.2⟩)), (by xkb_; exact BK127.out), (by xkb_; exact BK133.out), (by xkb_; exact BK141.out), (by repeat (first | (with_reducible first | exact HB.out | apply below_alloc | apply pw_below_drewN | apply below_drew1 | refine below_set ?_ GE127.out | refine below_set ?_ GE133.out | refine below_set ?_ GE141.out) | exact HB.out))⟩)
          ·skip
           refine Kd.R_lit_step (Kd.int .u8) _ 5 ?hg (N := 44) ?hd (xs := ([((rd_T52 l0_1 x33_1).f1) % 256] : List Int)) (inner := [.int .u8 (((rd_T52 l0_1 x33_1).f1) % 256)]) (ok := fun _ => True) (okp := fun _ => True) ?hr ?hp (fun _ hk => hk) trivial (Below.refl _ _) (Nat.le_refl _) (by simp) ?_; (case hd => rfl); (case hg => rfl); (case hr => xgs_); (case hp => exact (Reps.one (show Kd.M (Kd.int .u8) _ _ _ (((rd_T52 l0_1 x33_1).f1) % 256) [.int .u8 (((rd_T52 l0_1 x33_1).f1) % 256)] from rfl) (Reps.none _ _)))
           intro v146 w32 ho33 hb hg_ hnew_
           clear hg_ hnew_
           (first | rw [← Ny145.out] at ho33 | (simp only [Int.reduceToNat] at ho33; rw [← Ny145.out] at ho33))
           have n0_ := Aside0.mk (Kd.R_elder' (by xkR_; exact HO_5.out) (Kd.R_base ho33) hb)
           have n1_ := Aside0.mk (Kd.R_lower (Kd.R_new' ho33 (Kd.R_lt (by xkR_; exact HO_5.out))) (below_size (by repeat (first | (with_reducible first | exact HB.out | apply below_alloc | apply pw_below_drewN | apply below_drew1 | refine below_set ?_ GE127.out | refine below_set ?_ GE133.out | refine below_set ?_ GE141.out) | exact HB.out))))
           have n2_ := Aside0.mk (blk_below (g := gb127) (o := .cells #[.int .i64 a0_0, .slice (some ad140) l0_1.length c0_1, .slice A0_2 l0_2.length c0_2, .slice A0_3 l0_3.length c0_3] 26 (0, 0)) (by xkb_; exact BK127.out) hb)
           have n3_ := Aside0.mk (blk_below (g := gb133) (o := .cells #[.int .u8 t129, .int .u8 t130, .int .u8 t131, .int .u8 t132] 61 (0, 0)) (by xkb_; exact BK133.out) hb)
           have n4_ := Aside0.mk (blk_below (g := gb141) (o := .cells #[.int .i64 ((rd_T52 l0_1 x33_1).f0), .int .i64 ((rd_T52 l0_1 x33_1).f1)] 52 (0, 0)) (by xkb_; exact BK141.out) hb)
           have n5_ := Aside0.mk (below_step (by repeat (first | (with_reducible first | exact HB.out | apply below_alloc | apply pw_below_drewN | apply below_drew1 | refine below_set ?_ GE127.out | refine below_set ?_ GE133.out | refine below_set ?_ GE141.out) | exact HB.out)) hb)
           clear HO_5
           clear BK127
           clear BK133
           clear BK141
           clear HB
           have HO_5 := n0_
           have HO147 := n1_
           have BK127 := n2_
           have BK133 := n3_
           have BK141 := n4_
           have HB := n5_
           clear n0_ n1_ n2_ n3_ n4_ n5_
           clear hb ho33
           refine hK.out _ _ ⟨(blk_cell BK141.out 0).trans rfl, (blk_cell BK141.out 1).trans rfl⟩ (fun hHeld => ?_)
           clear hK K
           refine norm_ (a' := ?_) ?_ ?_
           rotate_left
           ·show Act.put _ (some 44) _ = _
            xsp_ i64_w i32_w
            rfl
           refine one_ (i := 3) (N := some 40) #[true, true, true, true, true, true, true, true, false, false] rfl rfl (one_of HT_.out (by kernel_rfl)) (by decide) (fun K hK => ?_)
           refine goes_ Try.func27 (by kernel_rfl) rfl #[.slice Ao29 x5_1.length co29, .int .i64 ((rd_T52 l0_1 x33_1).f0), .int .i64 3] (by rfl) rfl rfl (by xlm_) ?_
           with_reducible refine (pack_Put.calls _ _ x5_1 ((rd_T52 l0_1 x33_1).f0) 3 t142 _ ?side1 ?side2 A23.out).mono ?_
           (case side1 => repeat (first | exact (Kd.R_reads' HO_5.out).2.2 | xkC_))
           (case side2 => exact (Kd.R_reads' HO_5.out).2.1)
           rintro e w34 ⟨v143, rfl, ho0, hb⟩
           refine ⟨_, rfl, ?_⟩
           have n0_ := Aside0.mk (Kd.R_elder' (by xkR_; exact HO_5.out) (Kd.R_base ho0) hb)
           have n1_ := Aside0.mk (Kd.R_elder' (by xkR_; exact HO147.out) (Kd.R_base ho0) hb)
           have n2_ := Aside0.mk (Kd.R_lower (Kd.R_new' (Kd.R_new' ho0 (Kd.R_lt (by xkR_; exact HO_5.out))) (Kd.R_lt (by xkR_; exact HO147.out))) (below_size (by repeat (first | (with_reducible first | exact HB.out | apply below_alloc | apply pw_below_drewN | apply below_drew1 | refine below_set ?_ GE127.out | refine below_set ?_ GE133.out | refine below_set ?_ GE141.out) | exact HB.out))))
           have n3_ := Aside0.mk (blk_below (g := gb127) (o := .cells #[.int .i64 a0_0, .slice (some ad140) l0_1.length c0_1, .slice A0_2 l0_2.length c0_2, .slice A0_3 l0_3.length c0_3] 26 (0, 0)) (by xkb_; exact BK127.out) hb)
           have n4_ := Aside0.mk (blk_below (g := gb133) (o := .cells #[.int .u8 t129, .int .u8 t130, .int .u8 t131, .int .u8 t132] 61 (0, 0)) (by xkb_; exact BK133.out) hb)
           have n5_ := Aside0.mk (blk_below (g := gb141) (o := .cells #[.int .i64 ((rd_T52 l0_1 x33_1).f0), .int .i64 ((rd_T52 l0_1 x33_1).f1)] 52 (0, 0)) (by xkb_; exact BK141.out) hb)
           have n6_ := Aside0.mk (below_step (by repeat (first | (with_reducible first | exact HB.out | apply below_alloc | apply pw_below_drewN | apply below_drew1 | refine below_set ?_ GE127.out | refine below_set ?_ GE133.out | refine below_set ?_ GE141.out) | exact HB.out)) hb)
           clear HO_5
           clear HO147
           clear BK127
           clear BK133
           clear BK141
           clear HB
           have HO_5 := n0_
           have HO147 := n1_
           have HO144 := n2_
           have BK127 := n3_
           have BK133 := n4_
           have BK141 := n5_
           have HB := n6_
           clear n0_ n1_ n2_ n3_ n4_ n5_ n6_
           (try clear hb)
           (try clear hb2)
           (try clear hk)
           (try clear hi)
           (try clear ho0)
           refine hK.out _ _ ⟨(blk_cell BK141.out 0).trans rfl, (blk_cell BK141.out 1).trans rfl⟩ (fun hHeld => ?_)
           clear hK K
           refine norm_ (a' := ?_) ?_ ?_
           rotate_left
           ·show Act.put _ (some 40) _ = _
            xsp_ i64_w i32_w
            rfl
           exact norm_ (by simp only [putAll, Act.put, List.setIfInBounds_toArray, List.set_cons_zero, List.set_cons_succ]) (hCont (v143, v146) _ ⟨hHeld, (by xkR_; exact Kd.R_mono HO144.out (fun _ hk => ⟨hk.2, hk.1.2⟩)), (by xkR_; exact Kd.R_mono HO147.out (fun _ hk => ⟨hk.2, hk.1.2⟩)), (by xkR_; exact Kd.R_mono HO_5.out (fun _ hk => ⟨hk.2, hk.1.2⟩)), (by xkb_; exact BK127.out), (by xkb_; exact BK133.out), (by xkb_; exact BK141.out), (by repeat (first | (with_reducible first | exact HB.out | apply below_alloc | apply pw_below_drewN | apply below_drew1 | refine below_set ?_ GE127.out | refine below_set ?_ GE133.out | refine below_set ?_ GE141.out) | exact HB.out))⟩)
         rintro ⟨v143, v146⟩ w35 ⟨hS_, h0_, h1_, h2_, h3_, h4_, h5_, h6_⟩
         have n0_ : Aside0 (Kd.R (Kd.int .u8) 5 w35 w.heap.size (fun k_ => some k_ ≠ (v146 : Value).ownBlock ∧ some k_ ≠ (.slice Ao29 x5_1.length co29 : Value).ownBlock) v143 t142) := ⟨h0_⟩
         have n1_ : Aside0 (Kd.R (Kd.int .u8) 5 w35 w.heap.size (fun k_ => some k_ ≠ (v143 : Value).ownBlock ∧ some k_ ≠ (.slice Ao29 x5_1.length co29 : Value).ownBlock) v146 y145) := ⟨h1_⟩
         have n2_ : Aside0 (Kd.R (Kd.int .u8) 5 w35 w.heap.size (fun k_ => some k_ ≠ (v143 : Value).ownBlock ∧ some k_ ≠ (v146 : Value).ownBlock) (.slice Ao29 x5_1.length co29) x5_1) := ⟨h2_⟩
         have n3_ : Aside0 (w35.heap[gb127]? = some (.cells #[.int .i64 a0_0, .slice (some ad140) l0_1.length c0_1, .slice A0_2 l0_2.length c0_2, .slice A0_3 l0_3.length c0_3] 26 (0, 0))) := ⟨h3_⟩
         have n4_ : Aside0 (w35.heap[gb133]? = some (.cells #[.int .u8 t129, .int .u8 t130, .int .u8 t131, .int .u8 t132] 61 (0, 0))) := ⟨h4_⟩
         have n5_ : Aside0 (w35.heap[gb141]? = some (.cells #[.int .i64 ((rd_T52 l0_1 x33_1).f0), .int .i64 ((rd_T52 l0_1 x33_1).f1)] 52 (0, 0))) := ⟨h5_⟩
         have n6_ : Aside0 (Below w.heap.size w w35) := ⟨h6_⟩
         clear HO_5
         clear BK127
         clear BK133
         clear BK141
         clear HB
         clear h0_ h1_ h2_ h3_ h4_ h5_ h6_
         have HO144 := n0_
         have HO147 := n1_
         have HO_5 := n2_
         have BK127 := n3_
         have BK133 := n4_
         have BK141 := n5_
         have HB := n6_
         clear n0_ n1_ n2_ n3_ n4_ n5_ n6_
         have hHeld : w35.cell? ⟨gb141, 0, none⟩ = some (.int .i64 ((rd_T52 l0_1 x33_1).f0)) ∧ w35.cell? ⟨gb141, 1, none⟩ = some (.int .i64 ((rd_T52 l0_1 x33_1).f1)) := hS_
         obtain ⟨Ao37, co37, eo37⟩ := Kd.R_slice HO147.out
         (first | subst eo37 | (injection eo37 with f1_ f2_ f3_; have f4_ := f1_.symm; have f5_ := f3_.symm; clear f1_ f2_ f3_; subst f4_; subst f5_))
         refine norm_ (a' := ?_) ?_ ?_
         rotate_left
         ·simp only [putAll, Act.put, List.setIfInBounds_toArray, List.set_cons_zero, List.set_cons_succ]
          rfl
         refine one_ (i := 8) (N := some 45) #[true, true, true, true, true, true, true, true, true, false] rfl rfl (one_of HT_.out (by kernel_rfl)) (by decide) (fun K hK => ?_)
         refine Kd.R_append_rows_step (Kd.int .u8) (w0 := w) w.heap.size (by rfl) (.tmp 40) (.tmp 44) 27 5 (.int .u8 0) 1 rfl Try.underlying27 info5 rfl (by decide) (by omega) v143 t142 y145 _ _ _ (fun k_ => some k_ ≠ (.slice Ao29 x5_1.length co29 : Value).ownBlock ∧ some k_ ≠ (.slice Ao37 y145.length co37 : Value).ownBlock) (fun _ => False) rfl rfl ?aO ?aR (fun _ _ h => h) (fun _ h => h.elim) ?aF ?aB ?aS ?aL ?_
         (case aR => repeat (first | exact (Kd.R_reads' HO147.out).2.2 | xkC_))
         (case aB => exact (by repeat (first | (with_reducible first | exact HB.out | apply below_alloc | apply pw_below_drewN | apply below_drew1 | refine below_set ?_ GE127.out | refine below_set ?_ GE133.out | refine below_set ?_ GE141.out) | exact HB.out)))
         (case aF => exact (fun k_ hk => ⟨Kd.fresh' (Kd.R_lt (by xkR_; exact HO_5.out)) k_ hk, Kd.fresh' (Kd.R_lt (by xkR_; exact HO147.out)) k_ hk⟩))
         (case aO => exact (by xkR_; exact Kd.R_mono HO144.out (fun _ hk => ⟨hk.2, hk.1⟩)))
         (case aS => exact (below_size (by repeat (first | (with_reducible first | exact HB.out | apply below_alloc | apply pw_below_drewN | apply below_drew1 | refine below_set ?_ GE127.out | refine below_set ?_ GE133.out | refine below_set ?_ GE141.out) | exact HB.out))))
         (case aL => have := LMc24.out; omega)
         intro v149 w36 ho hb hg hat
         rw [← Ny148.out] at ho
         have n0_ := Aside0.mk (Kd.R_after (ok := (fun k_ => some k_ ≠ (.slice Ao37 y145.length co37 : Value).ownBlock)) (by xkR_; exact Kd.R_mono HO_5.out (fun _ hk => ⟨hk.2, hk.1⟩)) hg hat)
         have n1_ := Aside0.mk (blk_grown (g := gb127) (o := .cells #[.int .i64 a0_0, .slice (some ad140) l0_1.length c0_1, .slice A0_2 l0_2.length c0_2, .slice A0_3 l0_3.length c0_3] 26 (0, 0)) (by xkb_; exact BK127.out) hg (Kd.R_ne HO144.out BK127.out (by decide)))
         have n2_ := Aside0.mk (blk_grown (g := gb133) (o := .cells #[.int .u8 t129, .int .u8 t130, .int .u8 t131, .int .u8 t132] 61 (0, 0)) (by xkb_; exact BK133.out) hg (Kd.R_ne HO144.out BK133.out (by decide)))
         have n3_ := Aside0.mk (blk_grown (g := gb141) (o := .cells #[.int .i64 ((rd_T52 l0_1 x33_1).f0), .int .i64 ((rd_T52 l0_1 x33_1).f1)] 52 (0, 0)) (by xkb_; exact BK141.out) hg (Kd.R_ne HO144.out BK141.out (by decide)))
         have n4_ := Aside0.mk (Kd.R_after (ok := (fun k_ => some k_ ≠ (.slice Ao29 x5_1.length co29 : Value).ownBlock)) (by xkR_; exact Kd.R_mono HO147.out (fun _ hk => ⟨hk.2, hk.1⟩)) hg hat)
         have n5_ := Aside0.mk (hb)
         have n6_ := Aside0.mk (ho)
         clear HO_5
         clear BK127
         clear BK133
         clear BK141
         clear HO147
         clear HB
         clear HO144
         have HO_5 := n0_
         have BK127 := n1_
         have BK133 := n2_
         have BK141 := n3_
         have HO147 := n4_
         have HB := n5_
         have HO150 := n6_
         clear n0_ n1_ n2_ n3_ n4_ n5_ n6_
         clear ho hb hg hat
         refine hK.out _ _ ⟨(blk_cell BK141.out 0).trans rfl, (blk_cell BK141.out 1).trans rfl⟩ (fun hHeld => ?_)
         clear hK K
         refine norm_ (a' := ?_) ?_ ?_
         rotate_left
         ·show Act.put _ (some 45) _ = _
          xsp_ i64_w i32_w
          rfl
         refine pure_ (i := 9) (N := some 5) (v := ?_) (a' := ?_) #[true, true, true, true, true, true, true, true, true, true] rfl rfl (any_of HT_.out (by kernel_rfl)) (fun _ _ _ h => h) (Or.inl ⟨by rfl, ?_⟩) ?_ ?_
         rotate_left
         ·intro w'
          go_simp
          with_reducible rfl
         rotate_left
         ·xsp_ i64_w i32_w
          rfl
         refine done_ (done_of HT_.out (by kernel_rfl)) ?_
         try go_wp2
         go_roundg k1
         case measure => have := HK1.out; omega
         case rel => exact ⟨(y148), (wrap64 (x33_1 + 1)), (by xrs_), H', ⟨by have := HK1.out; omega⟩, ⟨by xkR_; exact Kd.R_mono HO150.out (fun _ hk => trivial)⟩, ⟨by xkb_; exact BK127.out⟩, ⟨by xkb_; exact BK133.out⟩, ⟨by repeat (first | (with_reducible first | exact HB.out | apply below_alloc | apply pw_below_drewN | apply below_drew1 | refine below_set ?_ GE127.out | refine below_set ?_ GE133.out | refine below_set ?_ GE141.out) | exact HB.out)⟩⟩
        ·rw [if_neg c24] at H
         exact absurd H (by simp)
       ·rw [if_neg c22] at H
        exact absurd H (by simp)
      ·rw [if_neg c21] at H
       exact absurd H (by simp)
     ·rw [if_neg c20] at H
      have c20b0 : decide (x33_1 < (l0_1.length : Int)) = false := decide_eq_false c20
      clear c20
      have H' := Aside0.mk H
      clear H
      have hnb38 := NB127_133.out
      have hnc38 := NB133_127.out
      have hcz39_0 : wr.cell? ⟨gb127, 0, none⟩ = some (.int .i64 a0_0) := (blk_cell BK127.out 0).trans rfl
      have hcz39_1 : wr.cell? ⟨gb127, 1, none⟩ = some (.slice A0_1 l0_1.length c0_1) := (blk_cell BK127.out 1).trans rfl
      have hcz39_2 : wr.cell? ⟨gb127, 2, none⟩ = some (.slice A0_2 l0_2.length c0_2) := (blk_cell BK127.out 2).trans rfl
      have hcz39_3 : wr.cell? ⟨gb127, 3, none⟩ = some (.slice A0_3 l0_3.length c0_3) := (blk_cell BK127.out 3).trans rfl
      have hfz39_0 := blk_frozen BK127.out 0
      have hfz39_1 := blk_frozen BK127.out 1
      have hfz39_2 := blk_frozen BK127.out 2
      have hfz39_3 := blk_frozen BK127.out 3
      go_wp2
      go_loopg [5, 50] k1 (fun kq v5 v50 w' => ∃ (x5_2 : List Int) (x50_2 : Int), v50 = .int .i64 x50_2 ∧ Aside0 (table_Encode.l1 kq x5_2 l0_2 (l0_2.length : Int) x50_2 a0_0 l0_1 l0_2 l0_3 = some (r1, r2)) ∧ Aside0 (kq ≤ k1) ∧ Aside0 (Kd.R (Kd.int .u8) 5 w' w.heap.size (fun _ => True) v5 x5_2) ∧ Aside0 (w'.heap[gb127]? = some (.cells #[.int .i64 a0_0, (.slice A0_1 l0_1.length c0_1), (.slice A0_2 l0_2.length c0_2), (.slice A0_3 l0_3.length c0_3)] 26 (0, 0))) ∧ Aside0 (w'.heap[gb133]? = some (.cells #[.int .u8 t129, .int .u8 t130, .int .u8 t131, .int .u8 t132] 61 (0, 0))) ∧ Aside0 (Below w.heap.size w w'))
      case atStart => exact ⟨(x5_1), (0), (by xrs_), H', ⟨Nat.le_refl _⟩, ⟨by xkR_; exact HO_5.out⟩, ⟨by xkb_; exact BK127.out⟩, ⟨by xkb_; exact BK133.out⟩, ⟨by repeat (first | (with_reducible first | exact HB.out | apply below_alloc | apply pw_below_drewN | apply below_drew1 | refine below_set ?_ GE127.out | refine below_set ?_ GE133.out) | exact HB.out)⟩⟩
      case round =>
       clear H'
       xcl_ c1 p1 q1 hx1 c2 p2 c3 c5 p6 c11 c12 p14 q14 hx14 c20 c20b0 c21 c21b0 c22 c22b0 c24 c26 c27 c38 hcz12_0 hcz12_1 hcz12_2 hcz12_3 hcz19_0 hcz19_1 hcz19_2 hcz19_3 hcz28_0 hcz28_1 hcz39_0 hcz39_1 hcz39_2 hcz39_3 hcz7_0 hcz7_1 hcz7_2 hcz7_3 hfz12_0 hfz12_1 hfz12_2 hfz12_3 hfz19_0 hfz19_1 hfz19_2 hfz19_3 hfz28_0 hfz28_1 hfz39_0 hfz39_1 hfz39_2 hfz39_3 hfz7_0 hfz7_1 hfz7_2 hfz7_3 hx140_0 hx140_1 p140 p2 q140
       obtain ⟨x5_2, x50_2, rfl, HA, HK2, HO_5, BK127, BK133, HB⟩ := hrel
       cases gk with
       | zero => exact absurd HA.out (by simp [table_Encode.l1])
       | succ k2 =>
        have H := HA.out
        clear HA
        simp only [table_Encode.l1] at H
        by_cases c40 : x50_2 < (l0_2.length : Int)
        ·rw [if_pos c40] at H
         have c40b0 : decide (x50_2 < (l0_2.length : Int)) = true := decide_eq_true c40
         clear c40
         by_cases c41 : 0 ≤ x50_2
         ·rw [if_pos c41] at H
          have c41b0 : decide (0 ≤ x50_2) = true := decide_eq_true c41
          clear c41
          by_cases c42 : x50_2 < (l0_2.length : Int)
          ·rw [if_pos c42] at H
           have c42b0 : decide (x50_2 < (l0_2.length : Int)) = true := decide_eq_true c42
           clear c42
           have H' := Aside0.mk H
           clear H
           have p161 : 0 ≤ (x50_2 : Int) := of_decide_eq_true (by xas_)
           have q161 : x50_2 < (l0_2.length : Int) := of_decide_eq_true (by xas_)
           obtain ⟨ad161, A161_0, c161_0, e161, hx161_0, hl161_0, hi161_0⟩ := at_L1 HR0_2.out x50_2 p161 q161
           cases e161
           replace hx161_0 := (HB.out.cell (World.block_lt_of_cell? w _ hx161_0)).trans hx161_0
           have HR161_0 := Aside0.mk hi161_0
           have HC161_0 := Aside0.mk hl161_0
           clear hi161_0 hl161_0
           replace p161 := eq_true p161
           replace q161 := eq_true q161
           go_wp2
           go_loopg [5, 56] k2 (fun kq v5 v56 w' => ∃ (x5_3 : List Int) (x56_3 : Int), v56 = .int .i64 x56_3 ∧ Aside0 (table_Encode.l2 kq x5_3 l0_2 (l0_2.length : Int) x50_2 (rd_L1 l0_2 x50_2) ((rd_L1 l0_2 x50_2).length : Int) x56_3 a0_0 l0_1 l0_2 l0_3 = some (r1, r2)) ∧ Aside0 (kq ≤ k2) ∧ Aside0 (Kd.R (Kd.int .u8) 5 w' w.heap.size (fun _ => True) v5 x5_3) ∧ Aside0 (w'.heap[gb127]? = some (.cells #[.int .i64 a0_0, (.slice A0_1 l0_1.length c0_1), (.slice (some ad161) l0_2.length c0_2), (.slice A0_3 l0_3.length c0_3)] 26 (0, 0))) ∧ Aside0 (w'.heap[gb133]? = some (.cells #[.int .u8 t129, .int .u8 t130, .int .u8 t131, .int .u8 t132] 61 (0, 0))) ∧ Aside0 (Below w.heap.size w w'))
           case atStart => exact ⟨(x5_2), (0), (by xrs_), H', ⟨Nat.le_refl _⟩, ⟨by xkR_; exact HO_5.out⟩, ⟨by xkb_; exact BK127.out⟩, ⟨by xkb_; exact BK133.out⟩, ⟨by repeat (first | (with_reducible first | exact HB.out | apply below_alloc | apply pw_below_drewN | apply below_drew1 | refine below_set ?_ GE127.out | refine below_set ?_ GE133.out) | exact HB.out)⟩⟩
           case round =>
            clear H'
            xcl_ c1 p1 q1 hx1 c2 p2 c3 c4 c5 p6 c11 c12 p14 q14 hx14 c16 p16 q16 hx16 c20 c20b0 c21 c21b0 c22 c22b0 c24 c26 c27 c38 c40 c40b0 c41 c41b0 c42 c42b0 hcz12_0 hcz12_1 hcz12_2 hcz12_3 hcz19_0 hcz19_1 hcz19_2 hcz19_3 hcz28_0 hcz28_1 hcz39_0 hcz39_1 hcz39_2 hcz39_3 hcz7_0 hcz7_1 hcz7_2 hcz7_3 hfz12_0 hfz12_1 hfz12_2 hfz12_3 hfz19_0 hfz19_1 hfz19_2 hfz19_3 hfz28_0 hfz28_1 hfz39_0 hfz39_1 hfz39_2 hfz39_3 hfz7_0 hfz7_1 hfz7_2 hfz7_3 hx140_0 hx140_1 hx161_0 p1 p14 p140 p161 p2 p6 q1 q14 q140 q161
            obtain ⟨x5_3, x56_3, rfl, HA, HK3, HO_5, BK127, BK133, HB⟩ := hrel
            cases gk with
            | zero => exact absurd HA.out (by simp [table_Encode.l2])
            | succ k3 =>
             have H := HA.out
             clear HA
             simp only [table_Encode.l2] at H
             by_cases c43 : x56_3 < ((rd_L1 l0_2 x50_2).length : Int)
             ·rw [if_pos c43] at H
              have c43b0 : decide (x56_3 < ((rd_L1 l0_2 x50_2).length : Int)) = true := decide_eq_true c43
              clear c43
              by_cases c44 : 0 ≤ x56_3
              ·rw [if_pos c44] at H
               have c44b0 : decide (0 ≤ x56_3) = true := decide_eq_true c44
               clear c44
               by_cases c45 : x56_3 < ((rd_L1 l0_2 x50_2).length : Int)
               ·rw [if_pos c45] at H
                have c45b0 : decide (x56_3 < ((rd_L1 l0_2 x50_2).length : Int)) = true := decide_eq_true c45
                clear c45
                obtain ⟨y163, hy163⟩ : ∃ y_ : List Int, y_ = (([(rd (rd_L1 l0_2 x50_2) x56_3) % 256] : List Int)) := ⟨_, rfl⟩
                replace H : (if x5_3.length + y163.length < 140737488355328 then (table_Encode.l2 k3 (x5_3 ++ y163) l0_2 (l0_2.length : Int) x50_2 (rd_L1 l0_2 x50_2) ((rd_L1 l0_2 x50_2).length : Int) (wrap64 (x56_3 + 1)) a0_0 l0_1 l0_2 l0_3) else (none)) = some (r1, r2) := by first | (rw [hy163]; with_reducible exact H) | (have H2_ := (Option.bind_some _ _).symm.trans H; rw [hy163]; with_reducible exact H2_) | (have H2_ := (Option.bind_some _ _).symm.trans H; with_reducible exact H2_) | with_reducible exact H | (rw [hy163]; exact H) | exact H
                have Ny163 := Aside0.mk hy163
                clear hy163
                by_cases c46 : x5_3.length + y163.length < 140737488355328
                ·rw [if_pos c46] at H
                 have LMc46 := Aside0.mk c46
                 clear c46
                 obtain ⟨y166, hy166⟩ : ∃ y_ : List Int, y_ = (x5_3 ++ y163) := ⟨_, rfl⟩
                 replace H : (table_Encode.l2 k3 y166 l0_2 (l0_2.length : Int) x50_2 (rd_L1 l0_2 x50_2) ((rd_L1 l0_2 x50_2).length : Int) (wrap64 (x56_3 + 1)) a0_0 l0_1 l0_2 l0_3) = some (r1, r2) := by first | (rw [hy166]; with_reducible exact H) | (have H2_ := (Option.bind_some _ _).symm.trans H; rw [hy166]; with_reducible exact H2_) | (have H2_ := (Option.bind_some _ _).symm.trans H; with_reducible exact H2_) | with_reducible exact H | (rw [hy166]; exact H) | exact H
                 have Ny166 := Aside0.mk hy166
                 clear hy166
                 have H' := Aside0.mk H
                 clear H
                 have p162 : 0 ≤ (x56_3 : Int) := of_decide_eq_true (by xas_)
                 have q162 : x56_3 < ((rd_L1 l0_2 x50_2).length : Int) := of_decide_eq_true (by xas_)
                 obtain ⟨ad162, e162, hx162_0⟩ := Kd.at_int HR161_0.out x56_3 p162 q162
                 cases e162
                 replace hx162_0 := (HB.out.cell (World.block_lt_of_cell? w _ hx162_0)).trans hx162_0
                 replace p162 := eq_true p162
                 replace q162 := eq_true q162
                 go_wp2_with (first | ((with_reducible refine gate_dst (N := 63) rfl ?_); refine Kd.R_lit (Kd.int .u8) _ 5 ?hg (N := 63) ?hd (xs := ([(rd (rd_L1 l0_2 x50_2) x56_3) % 256] : List Int)) (inner := [.int .u8 ((rd (rd_L1 l0_2 x50_2) x56_3) % 256)]) (ok := fun _ => True) (okp := fun _ => True) ?hr ?hp (fun _ hk => hk) trivial (Below.refl _ _) (Nat.le_refl _) (by simp) ?_; (case hd => rfl); (case hg => rfl); (case hr => xgs_); (case hp => exact (Reps.one (show Kd.M (Kd.int .u8) _ _ _ ((rd (rd_L1 l0_2 x50_2) x56_3) % 256) [.int .u8 ((rd (rd_L1 l0_2 x50_2) x56_3) % 256)] from rfl) (Reps.none _ _))); intro v164 w47 ho48 hb hg_ hnew_; clear hg_ hnew_; (first | rw [← Ny163.out] at ho48 | (simp only [Int.reduceToNat] at ho48; rw [← Ny163.out] at ho48)); have n0_ := Aside0.mk (Kd.R_elder' (by xkR_; exact HO_5.out) (Kd.R_base ho48) hb); have n1_ := Aside0.mk (Kd.R_lower (Kd.R_new' ho48 (Kd.R_lt (by xkR_; exact HO_5.out))) (below_size (by repeat (first | (with_reducible first | exact HB.out | apply below_alloc | apply pw_below_drewN | apply below_drew1 | refine below_set ?_ GE127.out | refine below_set ?_ GE133.out) | exact HB.out)))); have n2_ := Aside0.mk (blk_below (g := gb127) (o := .cells #[.int .i64 a0_0, .slice A0_1 l0_1.length c0_1, .slice (some ad161) l0_2.length c0_2, .slice A0_3 l0_3.length c0_3] 26 (0, 0)) (by xkb_; exact BK127.out) hb); have n3_ := Aside0.mk (blk_below (g := gb133) (o := .cells #[.int .u8 t129, .int .u8 t130, .int .u8 t131, .int .u8 t132] 61 (0, 0)) (by xkb_; exact BK133.out) hb); have n4_ := Aside0.mk (below_step (by repeat (first | (with_reducible first | exact HB.out | apply below_alloc | apply pw_below_drewN | apply below_drew1 | refine below_set ?_ GE127.out | refine below_set ?_ GE133.out) | exact HB.out)) hb); clear HO_5; clear BK127; clear BK133; clear HB; have HO_5 := n0_; have HO165 := n1_; have BK127 := n2_; have BK133 := n3_; have HB := n4_; clear n0_ n1_ n2_ n3_ n4_; clear hb ho48; obtain ⟨Ao50, co50, eo50⟩ := Kd.R_slice HO165.out; subst eo50) | ((with_reducible refine gate_builtin (b := .append) (xs := #[.tmp 60, .tmp 63]) rfl ?_); at_builtin; refine Kd.R_append_rows (Kd.int .u8) (w0 := w) w.heap.size rfl (.tmp 60) (.tmp 63) 27 5 (.int .u8 0) 1 rfl Try.underlying27 info5 rfl (by decide) (by omega) u5 x5_3 y163 _ _ _ (fun k_ => some k_ ≠ (.slice Ao50 y163.length co50 : Value).ownBlock) (fun _ => False) rfl rfl ?aO ?aR (fun _ _ h => h) (fun _ h => h.elim) ?aF ?aB ?aS ?aL ?_; (case aR => repeat (first | exact (Kd.R_reads' HO165.out).2.2 | xkC_)); (case aB => exact (by repeat (first | (with_reducible first | exact HB.out | apply below_alloc | apply pw_below_drewN | apply below_drew1 | refine below_set ?_ GE127.out | refine below_set ?_ GE133.out) | exact HB.out))); (case aF => exact (fun k_ hk => Kd.fresh' (Kd.R_lt (by xkR_; exact HO165.out)) k_ hk)); (case aO => exact (by xkR_; exact Kd.R_mono HO_5.out (fun _ hk => hk.2))); (case aS => exact (below_size (by repeat (first | (with_reducible first | exact HB.out | apply below_alloc | apply pw_below_drewN | apply below_drew1 | refine below_set ?_ GE127.out | refine below_set ?_ GE133.out) | exact HB.out)))); (case aL => have := LMc46.out; omega); intro v167 w49 ho hb hg hat; rw [← Ny166.out] at ho; have n0_ := Aside0.mk (blk_grown (g := gb127) (o := .cells #[.int .i64 a0_0, .slice A0_1 l0_1.length c0_1, .slice (some ad161) l0_2.length c0_2, .slice A0_3 l0_3.length c0_3] 26 (0, 0)) (by xkb_; exact BK127.out) hg (Kd.R_ne HO_5.out BK127.out (by decide))); have n1_ := Aside0.mk (blk_grown (g := gb133) (o := .cells #[.int .u8 t129, .int .u8 t130, .int .u8 t131, .int .u8 t132] 61 (0, 0)) (by xkb_; exact BK133.out) hg (Kd.R_ne HO_5.out BK133.out (by decide))); have n2_ := Aside0.mk (Kd.R_after (ok := (fun _ => True)) (by xkR_; exact HO165.out) hg hat); have n3_ := Aside0.mk (hb); have n4_ := Aside0.mk (ho); clear BK127; clear BK133; clear HO165; clear HB; clear HO_5; have BK127 := n0_; have BK133 := n1_; have HO165 := n2_; have HB := n3_; have HO168 := n4_; clear n0_ n1_ n2_ n3_ n4_; clear ho hb hg hat))
                 go_roundg k3
                 case measure => have := HK1.out; have := HK2.out; have := HK3.out; omega
                 case rel => exact ⟨(y166), (wrap64 (x56_3 + 1)), (by xrs_), H', ⟨by have := HK1.out; have := HK2.out; have := HK3.out; omega⟩, ⟨by xkR_; exact Kd.R_mono HO168.out (fun _ hk => trivial)⟩, ⟨by xkb_; exact BK127.out⟩, ⟨by xkb_; exact BK133.out⟩, ⟨by repeat (first | (with_reducible first | exact HB.out | apply below_alloc | apply pw_below_drewN | apply below_drew1 | refine below_set ?_ GE127.out | refine below_set ?_ GE133.out) | exact HB.out)⟩⟩
                ·rw [if_neg c46] at H
                 exact absurd H (by simp)
               ·rw [if_neg c45] at H
                exact absurd H (by simp)
              ·rw [if_neg c44] at H
               exact absurd H (by simp)
             ·rw [if_neg c43] at H
              have c43b0 : decide (x56_3 < ((rd_L1 l0_2 x50_2).length : Int)) = false := decide_eq_false c43
              clear c43
              have H' := Aside0.mk H
              clear H
              go_wp2
              go_roundg k3
              case measure => have := HK1.out; have := HK2.out; have := HK3.out; omega
              case rel => exact ⟨(x5_3), (wrap64 (x50_2 + 1)), (by xrs_), H', ⟨by have := HK1.out; have := HK2.out; have := HK3.out; omega⟩, ⟨by xkR_; exact HO_5.out⟩, ⟨by xkb_; exact BK127.out⟩, ⟨by xkb_; exact BK133.out⟩, ⟨by repeat (first | (with_reducible first | exact HB.out | apply below_alloc | apply pw_below_drewN | apply below_drew1 | refine below_set ?_ GE127.out | refine below_set ?_ GE133.out) | exact HB.out)⟩⟩
          ·rw [if_neg c42] at H
           exact absurd H (by simp)
         ·rw [if_neg c41] at H
          exact absurd H (by simp)
        ·rw [if_neg c40] at H
         have c40b0 : decide (x50_2 < (l0_2.length : Int)) = false := decide_eq_false c40
         clear c40
         replace H := Option.bind_eq_some_iff.mp H
         obtain ⟨t151, A510, H⟩ := H
         replace H : (if x5_2.length + t151.length < 140737488355328 then ((some (x5_2 ++ t151 : List Int)).bind fun y154 => ((pack_Sum.f k2 y154).bind fun t157 => ((pack_Put.f y154 (wrap64 (t157)) 4).bind fun t158 => (some (t158, true))))) else (none)) = some (r1, r2) := H
         have A51 := Aside0.mk A510
         clear A510
         by_cases c52 : x5_2.length + t151.length < 140737488355328
         ·rw [if_pos c52] at H
          have LMc52 := Aside0.mk c52
          clear c52
          obtain ⟨y154, hy154⟩ : ∃ y_ : List Int, y_ = (x5_2 ++ t151) := ⟨_, rfl⟩
          replace H : ((pack_Sum.f k2 y154).bind fun t157 => ((pack_Put.f y154 (wrap64 (t157)) 4).bind fun t158 => (some (t158, true)))) = some (r1, r2) := by first | (rw [hy154]; with_reducible exact H) | (have H2_ := (Option.bind_some _ _).symm.trans H; rw [hy154]; with_reducible exact H2_) | (have H2_ := (Option.bind_some _ _).symm.trans H; with_reducible exact H2_) | with_reducible exact H | (rw [hy154]; exact H) | exact H
          have Ny154 := Aside0.mk hy154
          clear hy154
          replace H := Option.bind_eq_some_iff.mp H
          obtain ⟨t157, A530, H⟩ := H
          replace H : ((pack_Put.f y154 (wrap64 (t157)) 4).bind fun t158 => (some (t158, true))) = some (r1, r2) := H
          have A53 := Aside0.mk A530
          clear A530
          replace H := Option.bind_eq_some_iff.mp H
          obtain ⟨t158, A540, H⟩ := H
          replace H : (some (t158, true)) = some (r1, r2) := H
          have A54 := Aside0.mk A540
          clear A540
          simp only [Option.some.injEq, Prod.mk.injEq] at H
          obtain ⟨rfl, rfl⟩ := H
          have hnb55 := NB127_133.out
          have hnc55 := NB133_127.out
          have hcz56_0 : wr.cell? ⟨gb127, 0, none⟩ = some (.int .i64 a0_0) := (blk_cell BK127.out 0).trans rfl
          have hcz56_1 : wr.cell? ⟨gb127, 1, none⟩ = some (.slice A0_1 l0_1.length c0_1) := (blk_cell BK127.out 1).trans rfl
          have hcz56_2 : wr.cell? ⟨gb127, 2, none⟩ = some (.slice A0_2 l0_2.length c0_2) := (blk_cell BK127.out 2).trans rfl
          have hcz56_3 : wr.cell? ⟨gb127, 3, none⟩ = some (.slice A0_3 l0_3.length c0_3) := (blk_cell BK127.out 3).trans rfl
          have hfz56_0 := blk_frozen BK127.out 0
          have hfz56_1 := blk_frozen BK127.out 1
          have hfz56_2 := blk_frozen BK127.out 2
          have hfz56_3 := blk_frozen BK127.out 3
          go_wp2_with (first | ((with_reducible refine gate_callee (f := 28) rfl ?_); refine goesL_ (some 70) rfl rfl Try.func28 (by kernel_rfl) rfl #[.slice A0_3 l0_3.length c0_3] rfl (by xlm_) ?_; (with_reducible refine (pack_Bits.calls k2 _ _ l0_3 t151 _ ?side1 ?side2 A51.out).mono ?_); (case side1 => repeat (first | exact (Kd.C_below HR0_3.out HB.out) | xkC_)); (case side2 => exact HC0_3.out); rintro e w57 ⟨v152, rfl, ho0, hb⟩; refine ⟨_, rfl, ?_⟩; have n0_ := Aside0.mk (Kd.R_elder' (by xkR_; exact HO_5.out) (Kd.R_base ho0) hb); have n1_ := Aside0.mk (Kd.R_lower (Kd.R_new' ho0 (Kd.R_lt (by xkR_; exact HO_5.out))) (below_size (by repeat (first | (with_reducible first | exact HB.out | apply below_alloc | apply pw_below_drewN | apply below_drew1 | refine below_set ?_ GE127.out | refine below_set ?_ GE133.out) | exact HB.out)))); have n2_ := Aside0.mk (blk_below (g := gb127) (o := .cells #[.int .i64 a0_0, .slice A0_1 l0_1.length c0_1, .slice A0_2 l0_2.length c0_2, .slice A0_3 l0_3.length c0_3] 26 (0, 0)) (by xkb_; exact BK127.out) hb); have n3_ := Aside0.mk (blk_below (g := gb133) (o := .cells #[.int .u8 t129, .int .u8 t130, .int .u8 t131, .int .u8 t132] 61 (0, 0)) (by xkb_; exact BK133.out) hb); have n4_ := Aside0.mk (below_step (by repeat (first | (with_reducible first | exact HB.out | apply below_alloc | apply pw_below_drewN | apply below_drew1 | refine below_set ?_ GE127.out | refine below_set ?_ GE133.out) | exact HB.out)) hb); clear HO_5; clear BK127; clear BK133; clear HB; have HO_5 := n0_; have HO153 := n1_; have BK127 := n2_; have BK133 := n3_; have HB := n4_; clear n0_ n1_ n2_ n3_ n4_; (try clear hb); (try clear hb2); (try clear hk); (try clear hi); (try clear ho0); obtain ⟨Ao59, co59, eo59⟩ := Kd.R_slice HO153.out; subst eo59) | ((with_reducible refine gate_builtin (b := .append) (xs := #[.tmp 67, .tmp 70]) rfl ?_); at_builtin; refine Kd.R_append_rows (Kd.int .u8) (w0 := w) w.heap.size rfl (.tmp 67) (.tmp 70) 27 5 (.int .u8 0) 1 rfl Try.underlying27 info5 rfl (by decide) (by omega) u5 x5_2 t151 _ _ _ (fun k_ => some k_ ≠ (.slice Ao59 t151.length co59 : Value).ownBlock) (fun _ => False) rfl rfl ?aO ?aR (fun _ _ h => h) (fun _ h => h.elim) ?aF ?aB ?aS ?aL ?_; (case aR => repeat (first | exact (Kd.R_reads' HO153.out).2.2 | xkC_)); (case aB => exact (by repeat (first | (with_reducible first | exact HB.out | apply below_alloc | apply pw_below_drewN | apply below_drew1 | refine below_set ?_ GE127.out | refine below_set ?_ GE133.out) | exact HB.out))); (case aF => exact (fun k_ hk => Kd.fresh' (Kd.R_lt (by xkR_; exact HO153.out)) k_ hk)); (case aO => exact (by xkR_; exact Kd.R_mono HO_5.out (fun _ hk => hk.2))); (case aS => exact (below_size (by repeat (first | (with_reducible first | exact HB.out | apply below_alloc | apply pw_below_drewN | apply below_drew1 | refine below_set ?_ GE127.out | refine below_set ?_ GE133.out) | exact HB.out)))); (case aL => have := LMc52.out; omega); intro v155 w58 ho hb hg hat; rw [← Ny154.out] at ho; have n0_ := Aside0.mk (blk_grown (g := gb127) (o := .cells #[.int .i64 a0_0, .slice A0_1 l0_1.length c0_1, .slice A0_2 l0_2.length c0_2, .slice A0_3 l0_3.length c0_3] 26 (0, 0)) (by xkb_; exact BK127.out) hg (Kd.R_ne HO_5.out BK127.out (by decide))); have n1_ := Aside0.mk (blk_grown (g := gb133) (o := .cells #[.int .u8 t129, .int .u8 t130, .int .u8 t131, .int .u8 t132] 61 (0, 0)) (by xkb_; exact BK133.out) hg (Kd.R_ne HO_5.out BK133.out (by decide))); have n2_ := Aside0.mk (Kd.R_after (ok := (fun _ => True)) (by xkR_; exact HO153.out) hg hat); have n3_ := Aside0.mk (hb); have n4_ := Aside0.mk (ho); clear BK127; clear BK133; clear HO153; clear HB; clear HO_5; have BK127 := n0_; have BK133 := n1_; have HO153 := n2_; have HB := n3_; have HO156 := n4_; clear n0_ n1_ n2_ n3_ n4_; clear ho hb hg hat; obtain ⟨Ao60, co60, eo60⟩ := Kd.R_slice HO156.out; subst eo60) | ((with_reducible refine gate_callee (f := 29) rfl ?_); refine goesL_ (some 74) rfl rfl Try.func29 (by kernel_rfl) rfl #[.slice Ao60 y154.length co60] rfl (by xlm_) ?_; (with_reducible refine (pack_Sum.calls k2 _ _ y154 t157 _ ?side1 ?side2 A53.out).mono ?_); (case side1 => repeat (first | exact (Kd.R_reads' HO156.out).2.2 | xkC_)); (case side2 => exact (Kd.R_reads' HO156.out).2.1); rintro e w' ⟨rfl, ⟨nd, rfl⟩⟩; refine ⟨_, rfl, ?_⟩) | ((with_reducible refine gate_callee (f := 27) rfl ?_); refine goesL_ (some 76) rfl rfl Try.func27 (by kernel_rfl) rfl #[.slice Ao60 y154.length co60, .int .i64 (wrap64 (t157)), .int .i64 4] rfl (by xlm_) ?_; (with_reducible refine (pack_Put.calls _ _ y154 (wrap64 (t157)) 4 t158 _ ?side1 ?side2 A54.out).mono ?_); (case side1 => repeat (first | exact (Kd.R_reads' HO156.out).2.2 | xkC_)); (case side2 => exact (Kd.R_reads' HO156.out).2.1); rintro e w61 ⟨v159, rfl, ho0, hb⟩; refine ⟨_, rfl, ?_⟩; have n0_ := Aside0.mk (Kd.R_elder' (by xkR_; exact HO153.out) (Kd.R_base ho0) hb); have n1_ := Aside0.mk (Kd.R_elder' (by xkR_; exact HO156.out) (Kd.R_base ho0) hb); have n2_ := Aside0.mk (Kd.R_lower (Kd.R_new' (Kd.R_new' ho0 (Kd.R_lt (by xkR_; exact HO153.out))) (Kd.R_lt (by xkR_; exact HO156.out))) (below_size (by repeat (first | (with_reducible first | exact HB.out | apply below_alloc | apply pw_below_drewN | apply below_drew1 | refine below_set ?_ GE127.out | refine below_set ?_ GE133.out) | exact HB.out)))); have n3_ := Aside0.mk (blk_below (g := gb127) (o := .cells #[.int .i64 a0_0, .slice A0_1 l0_1.length c0_1, .slice A0_2 l0_2.length c0_2, .slice A0_3 l0_3.length c0_3] 26 (0, 0)) (by xkb_; exact BK127.out) hb); have n4_ := Aside0.mk (blk_below (g := gb133) (o := .cells #[.int .u8 t129, .int .u8 t130, .int .u8 t131, .int .u8 t132] 61 (0, 0)) (by xkb_; exact BK133.out) hb); have n5_ := Aside0.mk (below_step (by repeat (first | (with_reducible first | exact HB.out | apply below_alloc | apply pw_below_drewN | apply below_drew1 | refine below_set ?_ GE127.out | refine below_set ?_ GE133.out) | exact HB.out)) hb); clear HO153; clear HO156; clear BK127; clear BK133; clear HB; have HO153 := n0_; have HO156 := n1_; have HO160 := n2_; have BK127 := n3_; have BK133 := n4_; have HB := n5_; clear n0_ n1_ n2_ n3_ n4_ n5_; (try clear hb); (try clear hb2); (try clear hk); (try clear hi); (try clear ho0)))
          go_ret2
          exact ⟨_, by first | rfl | (simp [errW_none, errW_some] <;> rfl) | (simp [*, errW_none, errW_some] <;> rfl), by xkR_; exact Kd.R_mono HO160.out (fun _ hk => trivial), by repeat (first | (with_reducible first | exact HB.out | apply below_alloc | apply pw_below_drewN | apply below_drew1 | refine below_set ?_ GE127.out | refine below_set ?_ GE133.out) | exact HB.out)⟩
         ·rw [if_neg c52] at H
          exact absurd H (by simp)
  ·rw [if_neg c5] at H
   exact absurd H (by simp)
 ·replace c3 := Bool.eq_false_iff.mpr c3
  subst c3
  have H1 : (some (([] : List Int), false)) = some (r1, r2) := by rw [if_neg (show ¬ (false = true) by decide)] at H; exact H
  clear H
  have H := H1
  clear H1
  simp only [Option.some.injEq, Prod.mk.injEq] at H
  obtain ⟨rfl, rfl⟩ := H
  go_enter Try.func12, Try.ntmps12
  go_wp2_with (first | ((with_reducible refine gate_dst (N := 1) rfl ?_); refine box_event ?hg (N := 1) ?hd (cs := #[.int .i64 a0_0, .slice A0_1 l0_1.length c0_1, .slice A0_2 l0_2.length c0_2, .slice A0_3 l0_3.length c0_3]) (t := 26) ?hr ?_; (case hd => rfl); (case hg => rfl); (case hr => xgs_); intro gb127 hg w62 hbox hb; have n0_ := Aside0.mk (below_step (by repeat (first | (with_reducible first | exact HB.out | apply below_alloc | apply pw_below_drewN | apply below_drew1) | exact HB.out)) hb); have n1_ := Aside0.mk (hbox); have n2_ := Aside0.mk ((by rw [hg]; exact (below_size (by repeat (first | (with_reducible first | exact HB.out | apply below_alloc | apply pw_below_drewN | apply below_drew1) | exact HB.out))) : w.heap.size ≤ gb127)); have n3_ := Aside0.mk ((by rw [hg]; exact (below_size (by repeat (first | (with_reducible first | exact HB.out | apply below_alloc | apply pw_below_drewN | apply below_drew1) | exact HB.out))) : w.heap.size ≤ gb127)); clear HB; have HB := n0_; have BK127 := n1_; have GW127 := n2_; have GE127 := n3_; clear n0_ n1_ n2_ n3_; clear hb hbox hg; have hcz63_0 : w62.cell? ⟨gb127, 0, none⟩ = some (.int .i64 a0_0) := (blk_cell BK127.out 0).trans rfl; have hcz63_1 : w62.cell? ⟨gb127, 1, none⟩ = some (.slice A0_1 l0_1.length c0_1) := (blk_cell BK127.out 1).trans rfl; have hcz63_2 : w62.cell? ⟨gb127, 2, none⟩ = some (.slice A0_2 l0_2.length c0_2) := (blk_cell BK127.out 2).trans rfl; have hcz63_3 : w62.cell? ⟨gb127, 3, none⟩ = some (.slice A0_3 l0_3.length c0_3) := (blk_cell BK127.out 3).trans rfl; have hfz63_0 := blk_frozen BK127.out 0; have hfz63_1 := blk_frozen BK127.out 1; have hfz63_2 := blk_frozen BK127.out 2; have hfz63_3 := blk_frozen BK127.out 3) | ((with_reducible refine gate_callee (f := 25) rfl ?_); refine goesL_ (some 13) rfl rfl Try.func25 (by kernel_rfl) rfl #[.agg #[.int .i64 a0_0, .slice A0_1 l0_1.length c0_1, .slice A0_2 l0_2.length c0_2, .slice A0_3 l0_3.length c0_3]] rfl (by xlm_) ?_; (with_reducible refine (table_may.calls k a0_0 _ _ l0_1 _ _ l0_2 _ _ l0_3 false _ ?side1 ?side2 ?side3 ?side4 ?side5 ?side6 A2.out).mono ?_); (case side1 => repeat (first | exact (Kd.C_below HR0_1.out HB.out) | xkC_)); (case side2 => exact HC0_1.out); (case side3 => repeat (first | exact (Kd.C_below HR0_2.out HB.out) | xkC_)); (case side4 => exact HC0_2.out); (case side5 => repeat (first | exact (Kd.C_below HR0_3.out HB.out) | xkC_)); (case side6 => exact HC0_3.out); rintro e w64 ⟨rfl, hb⟩; refine ⟨_, rfl, ?_⟩; have n0_ := Aside0.mk (blk_below (g := gb127) (o := .cells #[.int .i64 a0_0, .slice A0_1 l0_1.length c0_1, .slice A0_2 l0_2.length c0_2, .slice A0_3 l0_3.length c0_3] 26 (0, 0)) (by xkb_; exact BK127.out) hb); have n1_ := Aside0.mk (below_step (by repeat (first | (with_reducible first | exact HB.out | apply below_alloc | apply pw_below_drewN | apply below_drew1 | refine below_set ?_ GE127.out) | exact HB.out)) hb); clear BK127; clear HB; have BK127 := n0_; have HB := n1_; clear n0_ n1_; (try clear hb); (try clear hb2); (try clear hk); (try clear hi)))
  go_ret2
  exact ⟨_, by first | rfl | (simp [errW_none, errW_some] <;> rfl) | (simp [*, errW_none, errW_some] <;> rfl), by xni_, by repeat (first | (with_reducible first | exact HB.out | apply below_alloc | apply pw_below_drewN | apply below_drew1 | refine below_set ?_ GE127.out) | exact HB.out)⟩
end Go.Proofs.Ytpcbhghgommijaa.X
end
