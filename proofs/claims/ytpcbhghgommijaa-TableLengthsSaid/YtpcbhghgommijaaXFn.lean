/- A call through a function value that is known. -/
import Derived.Test.YtpcbhghgommijaaWLast
import Derived.Test.YtpcbhghgommijaaWWords
import Derived.Deep.RegionLawGrows
import Derived.Laws.Slices
import Derived.Deep.MidRow
import Derived.ChangeKeysEq
namespace Go.Proofs.Ytpcbhghgommijaa.XFn
open Go.RowKit Go.Proofs.YtpcbhghgommijaaW.PrintWords Go.Proofs.YtpcbhghgommijaaW.PrintLast
variable {P : Program} {ops : Array Oper} {Q : Exit → Act → World → Prop}
theorem gate_calleeV {o : Oper} {rest : List Oper} {a : Act} {W : World} {t : Tmp} {as : Array Operand} {ts : Array TypeId} (_ho : o.op = .call { callee := .value (.tmp t), args := as, argTypes := ts }) (h : wpList P ops Q (o :: rest) a W) : wpList P ops Q (o :: rest) a W := h
theorem goesV_ {rest : List Oper} {oi : Oper} {a : Act} {w : World} (N : Option Tmp) (hd : oi.dst = N) (hg : oi.guard = none) {f : FuncId} {fn : Func} {x : Operand} {as : Array Operand} {ts : Array TypeId} (hf : P.funcs[f]? = some fn) (hname : (fn.name == "runtime.NumGoroutine") = false) (hb : fn.body.isSome = true) (args : Array Value)
    (hop : oi.op = .call { callee := .value x, args := as, argTypes := ts }) (hargs : as.map a.eval = args)
    (h : Calls P f args w fun e w' => ∃ v, e = .returned v ∧ wpList P ops Q rest (a.put N v) w') (hx : a.eval x = .func (.func f) #[] #[] := by rfl) : wpList P ops Q (oi :: rest) a w := by
  refine wpList_plain hg fun K hK => ?_
  have he := enters_ hf hname hb args w
  have hrun : (execOp a.eval oi).run P w = .ok (.enter f args) w := by
    unfold execOp
    simp [hop, resolve, Deferred.ofValue, invoke, hx, hargs, he]
  unfold Oper.wp
  rw [hrun, Oper.upon_enter]
  refine h.mono fun e w'' hh => ?_
  obtain ⟨v, rfl, hk⟩ := hh
  subst hd
  exact hK _ _ hk
/-- The whole of an array in a variable, as a slice. -/
theorem slice_all {n s : Nat} (t : TypeId) (ht : P.underlying t = some (.array (P.arrayLen t) (P.elem t))) (hl : P.arrayLen t = n) (hz : ∀ W : World, (sizeOf (P.elem t)).run P W = .ok s W) (W : World) (b : Nat) :
    (Instr.sliceAt t (.pointer (some ⟨b, 0, none⟩)) none none none).run P W = .ok (.slice (some ⟨b, 0, none⟩) n n) W := by
  rw [run_sliceAt_array_all W t ⟨b, 0, none⟩ ht, hz, hl]
  simp only [Result.andThen, slicedAt]
  by_cases h0 : n = 0
  · subst h0; rfl
  · simp [Addr.add]
/-- What an array of bytes in a variable reads as. -/
theorem rowN {W : World} {g : Nat} {t : TypeId} {l : List Int} (h : W.heap[g]? = some (.cells (l.map (Value.int .u8)).toArray t (0, 0))) (hm : l.length ≤ 9223372036854775807) : Kd.C (Kd.int .u8) W (some ⟨g, 0, none⟩) l.length l := by
  refine ⟨rfl, hm, fun hn => ⟨_, rfl, fun j p hj => ⟨[.int .u8 p], rfl, rfl, fun i u hu => ?_⟩⟩⟩
  have h0 : i = 0 := by
    have := (List.getElem?_eq_some_iff.1 hu).1
    simp at this
    omega
  subst h0
  obtain rfl : Value.int .u8 p = u := by simpa using hu
  have hc : (l.map (Value.int .u8)).toArray[j]? = some (Value.int .u8 p) := by simp [hj]
  show W.cell? (Addr.add _ (j * 1 + 0)) = _
  have : W.cell? ⟨g, j, none⟩ = some (Value.int .u8 p) := by
    simp only [World.cell?, h]
    simpa using hc
  rw [← this]
  by_cases hj0 : j = 0 <;> simp [Addr.add, hj0]
theorem row4 {W : World} {g : Nat} {t : TypeId} {a b c d : Int} (h : W.heap[g]? = some (.cells #[.int .u8 a, .int .u8 b, .int .u8 c, .int .u8 d] t (0, 0))) : Kd.C (Kd.int .u8) W (some ⟨g, 0, none⟩) 4 [a, b, c, d] := rowN (l := [a, b, c, d]) h (by simp)
/-- The cells of a row of bytes. -/
theorem cells_of {W : World} {A : Option Addr} {n : Nat} {l : List Int} (h : Kd.C (Kd.int .u8) W A n l) (hn : 0 < n) : ∃ ad, A = some ad ∧ ∀ j u, (l.map (Value.int .u8))[j]? = some u → W.cell? (ad.add j) = some u := by
  obtain ⟨ad, he, hc⟩ := h.2.2 hn
  refine ⟨ad, he, fun j u hu => ?_⟩
  rw [List.getElem?_map] at hu
  obtain ⟨p, hp, rfl⟩ := Option.map_eq_some_iff.1 hu
  obtain ⟨c, hl, hk, hcell⟩ := hc j p hp
  have hk' : c = [Value.int .u8 p] := hk
  subst hk'
  have := hcell 0 _ rfl
  rwa [show j * (Kd.int .u8).sz + 0 = j from by show j * 1 + 0 = j; omega] at this
/-- Bytes appended to a slice that is full: a new row. -/
theorem append_full_step {w0 W : World} {o : Oper} {a : Act} {K : Act → World → Prop} {E : Prop} (base : Nat) (hg : o.guard = none) (s x : Operand) (t e : TypeId)
    (hop : o.op = Op.call { callee := Callee.builtin Builtin.append, args := #[s, x], argTypes := #[t, t] }) (ht : P.underlying t = some (.slice e)) (hinfo : (P.info? e).map (fun i => (i.zero, i.size, i.bytes)) = some (some (.int .u8 0), 1, 1))
    (b : Addr) (n : Nat) (xs ys : List Int) (ok : Nat → Prop) {A : Option Addr} {m c : Nat} (hs : a.eval s = .slice (some b) n n) (hx : a.eval x = .slice A m c)
    (HX : Kd.C (Kd.int .u8) W (some b) n xs) (HY : Kd.C (Kd.int .u8) W A m ys) (hm : 0 < m) (hfresh : ∀ k, W.heap.size ≤ k → ok k) (HB : Below base w0 W) (hbase : base ≤ W.heap.size) (hl : (n + m) * 1 ≤ 140737488355328)
    (h : ∀ v1 w1, Kd.R (Kd.int .u8) e w1 base ok v1 (xs ++ ys) → Below base w0 w1 → W.grownBy w1 (Value.slice none 0 0).ownBlock → (v1.ownBlock = (Value.slice none 0 0).ownBlock ∨ ∃ bb, v1.ownBlock = some bb ∧ W.heap.size ≤ bb) → K (a.put o.dst v1) w1) :
    if Region.wanted o (yielded ops a.tmps) = true then Oper.wp P o a W K Q else E := by
  obtain ⟨i0, hi, hzz⟩ := Option.map_eq_some_iff.1 hinfo
  simp only [Prod.mk.injEq] at hzz
  obtain ⟨hz0, hz1, hz2⟩ := hzz
  obtain ⟨ad, rfl, hy⟩ := cells_of HY hm
  have hxl : xs.length = n := HX.1
  have hyl : ys.length = m := HY.1
  refine step_append_grows hg s x t hop e i0 (.int .u8 0) 1 1 ht hi hz0 hz1 hz2 rfl (by omega) (some b) n n (xs.map (Value.int .u8)) hs (fun h => by cases h) (by simp [hxl]) (fun b' hb' j u hu => ?_) ad m c (ys.map (Value.int .u8)) hx (by simp [hyl]) hy ?_ (by omega) (by simp only [maxLen]; omega) hl ?_
  · cases hb'
    by_cases hn : 0 < n
    · obtain ⟨ad', he, hc⟩ := cells_of HX hn
      cases he
      exact hc j u hu
    · have : xs = [] := List.eq_nil_of_length_eq_zero (by omega)
      subst this
      simp at hu
  · intro u hu
    obtain ⟨p, _, rfl⟩ := List.mem_map.1 hu
    rfl
  · intro v' w' hown hgr
    have hgr' : W.grownBy w' (Value.slice none 0 0).ownBlock := hgr
    rw [← List.map_append] at hown
    have hblk : ∃ bb, v'.ownBlock = some bb ∧ W.heap.size ≤ bb := by
      rcases hown.2 with ⟨_, h0⟩ | ⟨g, cap, cur, hv, hg', _⟩
      · have := hown.1
        omega
      · subst hv
        exact ⟨g, by simp [Value.ownBlock], hg'⟩
    have hlen : n + m = (xs ++ ys).length := by simp [hxl, hyl]
    rw [hlen] at hown
    have ho := Kd.R_of_own (enc := Value.int .u8) (h1 := fun _ => rfl) (ok := ok) (own_weaken hown hbase) (fun k hk => by
      obtain ⟨bb, hb1, hb2⟩ := hblk
      rw [hb1] at hk
      cases hk
      exact hfresh _ hb2)
    exact h v' w' ho (HB.grown hgr' hbase (by intro k hk; cases hk)) hgr' (.inr hblk)
theorem eq_u8 (W : World) (d : Nat) {e : TypeId} {k : IntKind} (he : P.underlying e = some (.int k)) (a b : Int) : (Op.equalIn (d + 1) e (.int .u8 a) (.int .u8 b)).run P W = .ok (a == b) W := by
  simp [Op.equalIn, Sem.run_bind, run_underlying he]
theorem part_u8 (W : World) {e : TypeId} {k : IntKind} (he : P.underlying e = some (.int k)) (x : Array Value) (j : Nat) (v : Value) (h : x[j]? = some v) : (part e x (j * 1)).run P W = .ok v W := by
  have hagg : (isAgg e).run P W = .ok false W := by
    unfold isAgg
    rw [Sem.run_bind, run_underlying he W]
    rfl
  unfold part
  rw [Sem.run_bind, hagg, Nat.mul_one, h]
  rfl
theorem items_u8 (W : World) (d : Nat) {e : TypeId} {k : IntKind} (he : P.underlying e = some (.int k)) (xs ys : Array Value) (j : Nat) (is : List Nat) (a b : Int) (r : Bool) (hx : xs[j]? = some (.int .u8 a)) (hy : ys[j]? = some (.int .u8 b))
    (h : (Op.eqItems (d + 1) e 1 xs ys is).run P W = .ok r W) : (Op.eqItems (d + 1) e 1 xs ys (j :: is)).run P W = .ok (a == b && r) W := by
  simp only [Op.eqItems, Sem.run_bind, part_u8 W he xs j _ hx, part_u8 W he ys j _ hy, Result.andThen_ok, eq_u8 W d he]
  cases a == b
  · simp
  · simpa using h
theorem eqA4 (W : World) (d : Nat) {t e : TypeId} {k : IntKind} (ht : P.underlying t = some (.array 4 e)) (he : P.underlying e = some (.int k)) (hi : (P.info? e).isSome = true) (hc : P.cellsOf e = 1) (a0 a1 a2 a3 b0 b1 b2 b3 : Int) :
    (Op.equalIn (d + 2) t (.agg #[.int .u8 a0, .int .u8 a1, .int .u8 a2, .int .u8 a3]) (.agg #[.int .u8 b0, .int .u8 b1, .int .u8 b2, .int .u8 b3])).run P W = .ok (a0 == b0 && (a1 == b1 && (a2 == b2 && (a3 == b3 && true)))) W := by
  obtain ⟨i, hi⟩ := Option.isSome_iff_exists.1 hi
  rw [run_equalIn_array W (d + 1) _ _ ht hi, hc, show List.range 4 = [0, 1, 2, 3] from rfl]
  refine items_u8 W d he _ _ 0 _ a0 b0 _ rfl rfl (items_u8 W d he _ _ 1 _ a1 b1 _ rfl rfl (items_u8 W d he _ _ 2 _ a2 b2 _ rfl rfl (items_u8 W d he _ _ 3 _ a3 b3 _ rfl rfl ?_)))
  simp [Op.eqItems]
/-- A slice as the pointer to an array, and the load of the array. -/
theorem run_arrayAt {W : World} {arr e : TypeId} {n : Nat} (ht : P.underlying arr = some (.array n e)) (A : Option Addr) (len c : Nat) (h : n ≤ len) : (Instr.arrayAt arr (.slice A len c)).run P W = .ok (.pointer A) W := by
  unfold Instr.arrayAt
  rw [Sem.run_bind, run_underlying ht W]
  simp [show ¬ len < n by omega]
theorem run_load4 {W : World} {t e : TypeId} (ht : P.underlying t = some (.array 4 e)) (hi : (P.info? t).map (·.size) = some 4) (ad : Addr) (a b c d : Value) (h0 : W.cell? ad = some a)
    (h1 : W.cell? ⟨ad.block, ad.off + 1, none⟩ = some b) (h2 : W.cell? ⟨ad.block, ad.off + 2, none⟩ = some c) (h3 : W.cell? ⟨ad.block, ad.off + 3, none⟩ = some d) :
    (Instr.loadAt t (.pointer (some ad))).run P W = .ok (.agg #[a, b, c, d]) W := by
  have hl : (loadCells ad 4).run P W = .ok #[a, b, c, d] W :=
    run_loadCells_list (P := P) W ad [a, b, c, d] (fun j v hv => by
      match j, hv with
      | 0, hv => simpa [Addr.add] using h0.trans (by simpa using hv)
      | 1, hv => simpa [Addr.add] using h1.trans (by simpa using hv)
      | 2, hv => simpa [Addr.add] using h2.trans (by simpa using hv)
      | 3, hv => simpa [Addr.add] using h3.trans (by simpa using hv)
      | j + 4, hv => simp at hv)
  cases hq : P.info? t with
  | none => simp [hq] at hi
  | some i =>
    have hs : i.size = 4 := by simpa [hq] using hi
    have hagg : (isAgg t).run P W = .ok true W := by
      unfold isAgg
      rw [Sem.run_bind, run_underlying ht W]
      rfl
    simp only [Instr.loadAt, Instr.sureAddr, Sem.run_bind, Sem.run_pure, Result.andThen_ok]
    simp [loadVar, Sem.run_bind, hagg, sizeOf, typeInfo, hq, hs, hl]
end Go.Proofs.Ytpcbhghgommijaa.XFn
