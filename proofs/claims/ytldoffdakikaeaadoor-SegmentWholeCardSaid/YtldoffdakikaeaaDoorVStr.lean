/- Strings: a byte, a part, how long, one behind the other. -/
import Derived.Test.YtldoffdakikaeaaDoorVB1
namespace Go.V
set_option linter.unusedVariables false
set_option linter.unusedSimpArgs false

theorem pureRun_boundsPanic {P : Program} {α : Type} {k : IntKind} {x y : Int} {c : BoundsCode} : pureRun P (boundsPanic k x y c : Sem α) = none := by
  unfold boundsPanic
  simp only
  split
  · rw [pureRun_bind, pureRun_map]; simp [choose, pureRun]
  · rw [pureRun_bind]; simp [pureRun_pure, runtimePanic, pureRun_bind, pureRun_program, goPanic, pureRun]
theorem pureRun_asIntOf {P : Program} {k : IntKind} {n : Int} : pureRun P (asIntOf (.int k n)) = some (k, n) := rfl
theorem str_get {l : List UInt8} {i : Nat} : (str l)[i]? = l[i]? := by
  by_cases h : i < l.length
  · rw [List.getElem?_eq_getElem h, getElem?_pos (str l) i (by simpa using h)]; rfl
  · rw [List.getElem?_eq_none (by omega), getElem?_neg (str l) i (by simpa using h)]
theorem str_extract {l : List UInt8} {i j : Nat} : (str l).extract i j = str ((l.drop i).take (j - i)) := by
  apply ByteArray.ext
  simp [str, ByteArray.data_extract, List.drop_take]
theorem str_append {a b : List UInt8} : str a ++ str b = str (a ++ b) := by
  apply ByteArray.ext
  simp [str]

def idxP (P : Program) (T : TypeId) (u v : Value) : Option PV := (pureRun P (Instr.index T u v)).bind ofVal
theorem sem_index {E : Env} {F : RF} {d : Option Tmp} {S T : TypeId} {x i : Operand} {pos : String} {af : Array Edge} {g : Option (Nat × Bool)} :
    sem E { dst := d, op := .index S x i, type := T, pos := pos, after := af, guard := g } F = (E.vl F x).bind fun u => (E.vl F i).bind fun v => (idxP E.P S u v).map fun r => setD F d (.val r) := by
  show semPure E _ F = _
  unfold semPure
  rw [if_neg (by simp [isSel])]
  cases hx : E.vl F x with
  | none => simp [Op.operands, hx]
  | some u =>
    cases hy : E.vl F i with
    | none => simp [Op.operands, hx, hy]
    | some v =>
      simp only [Op.operands, List.all_cons, List.all_nil, hx, hy, Option.isSome_some, Bool.and_self, if_true, Option.bind_some, execOp, Option.getD_some, pureRun_bind]
      cases h2 : pureRun E.P (Instr.index S u v) with
      | none => simp [idxP, h2]
      | some r => simp [idxP, h2, pureRun_pure]
theorem idxP_str {P : Program} {T : TypeId} {l : List UInt8} {k : IntKind} {i : Int} (h : P.underlying T = some .string) :
    idxP P T (.string (str l)) (.int k i) = if 0 ≤ i ∧ i < (l.length : Int) then (l[i.toNat]?).map pY else none := by
  have hu : pureRun P (underlying T) = some .string := pureRun_underlying h
  unfold idxP Instr.index
  rw [pureRun_bind, pureRun_asIntOf, Option.bind_some]
  simp only
  rw [pureRun_bind, hu, Option.bind_some]
  simp only [str_get]
  by_cases h0 : 0 ≤ i
  · by_cases h1 : i < (l.length : Int)
    · rw [if_pos h0, if_pos ⟨h0, h1⟩, List.getElem?_eq_getElem (by omega)]
      simp [pureRun_pure, ofVal, ofVal1, flat]
    · rw [if_pos h0, if_neg (by omega), List.getElem?_eq_none (by omega)]
      simp [pureRun_boundsPanic]
  · rw [if_neg h0, if_neg (by omega)]
    simp [pureRun_boundsPanic]

theorem pr_isAgg {P : Program} {T : TypeId} (h : aggT P T = true) : pureRun P (isAgg T) = some true := by
  unfold aggT at h
  unfold isAgg
  rw [pureRun_bind]
  cases hu : P.underlying T with
  | none => simp [hu] at h
  | some d =>
    rw [pureRun_underlying hu, Option.bind_some]
    rw [hu] at h
    cases d <;> simp_all [pureRun_pure]
theorem pr_sizeOf {P : Program} {T : TypeId} (h : (P.info? T).isSome = true) : pureRun P (sizeOf T) = some (esz P T) := by
  obtain ⟨i, hi⟩ := Option.isSome_iff_exists.1 h
  simp [sizeOf, typeInfo, esz, pureRun_bind, pureRun_program, pureRun_pure, hi]
/-- an element of an array that is a value: a struct of its own -/
theorem idxP_agg {P : Program} {T e : TypeId} {n : Nat} {cs : List Value} {k : IntKind} {i : Int} (h : P.underlying T = some (.array n e)) (ha : aggT P e = true) (hi : (P.info? e).isSome = true) :
    idxP P T (.agg cs.toArray) (.int k i) = if 0 ≤ i ∧ i < (n : Int) then (if ((cs.drop (i.toNat * esz P e)).take (esz P e)).all flat = true then some (.agg (((cs.drop (i.toNat * esz P e)).take (esz P e)).map .prim)) else none) else none := by
  have hu : pureRun P (underlying T) = some (.array n e) := pureRun_underlying h
  unfold idxP Instr.index
  rw [pureRun_bind, pureRun_asIntOf, Option.bind_some]
  simp only
  rw [pureRun_bind, hu, Option.bind_some]
  simp only
  by_cases h0 : 0 ≤ i ∧ i < (n : Int)
  · rw [if_pos h0, if_pos h0, pureRun_bind, pr_sizeOf hi, Option.bind_some]
    unfold part
    rw [pureRun_bind, pr_isAgg ha, Option.bind_some]
    simp only [if_true]
    rw [pureRun_bind, pr_sizeOf hi, Option.bind_some, pureRun_pure, Option.bind_some]
    simp only [ofVal, ofVal1, Array.toList_extract, List.extract_eq_take_drop]
    congr 2 <;> (try rw [Nat.add_sub_cancel_left])
  · rw [if_neg h0, if_neg h0, pureRun_boundsPanic]; rfl
def lenP (P : Program) (T R : TypeId) (u : Value) : Option PV := (pureRun P (Builtin.len_ #[T] R #[u])).bind ofVal
theorem semPure_len {E : Env} {F : RF} {d : Option Tmp} {S T : TypeId} {x : Operand} {pos : String} {af : Array Edge} {g : Option (Nat × Bool)} :
    semPure E { dst := d, op := .call { callee := .builtin .len, args := ⟨[x]⟩, argTypes := ⟨[S]⟩ }, type := T, pos := pos, after := af, guard := g } F = (E.vl F x).bind fun u => (lenP E.P S T u).map fun r => setD F d (.val r) := by
  unfold semPure
  rw [if_neg (by simp [isSel])]
  cases hx : E.vl F x with
  | none => simp [Op.operands, Call.operands, hx]
  | some u =>
    simp only [Op.operands, Call.operands, List.all_cons, List.all_nil, Array.toList_append, List.nil_append, hx, Option.isSome_some, Bool.and_self, if_true, Option.bind_some]
    cases h2 : pureRun E.P (Builtin.len_ #[S] T #[u]) with
    | none => simp [lenP, h2, execOp, resolve, invoke, builtin, hx, pureRun_map, pureRun_bind, pureRun_pure]
    | some r => simp [lenP, h2, execOp, resolve, invoke, builtin, hx, pureRun_map, pureRun_bind, pureRun_pure]
theorem lenP_str {P : Program} {T R : TypeId} {l : List UInt8} (h : P.underlying T = some .string) : lenP P T R (.string (str l)) = some (pI l.length) := by
  have hu : pureRun P (underlying T) = some .string := pureRun_underlying h
  simp [lenP, Builtin.len_, pureRun_bind, hu, pureRun_pure, goInt, ofVal, ofVal1, flat]

def Env.vlo (E : Env) (F : RF) : Option Operand → Option (Option Value)
  | none => some none
  | some y => (E.vl F y).map some
def slcP (P : Program) (T : TypeId) (u : Value) (l h : Option Value) : Option PV := (pureRun P (Instr.sliceAt T u l h none)).bind ofVal
theorem semPure_slice {E : Env} {F : RF} {d : Option Tmp} {S T : TypeId} {x : Operand} {l h : Option Operand} {pos : String} {af : Array Edge} {g : Option (Nat × Bool)} :
    semPure E { dst := d, op := .slice S x l h none, type := T, pos := pos, after := af, guard := g } F = (E.vl F x).bind fun u => (E.vlo F l).bind fun a => (E.vlo F h).bind fun b => (slcP E.P S u a b).map fun r => setD F d (.val r) := by
  unfold semPure
  rw [if_neg (by simp [isSel])]
  cases hx : E.vl F x with
  | none => simp [Op.operands, hx]
  | some u =>
    have fin : ∀ a b : Option Value, Option.map (fun o => (E.vl F o).getD undef) l = a → Option.map (fun o => (E.vl F o).getD undef) h = b →
        (match pureRun E.P (execOp (fun x => (E.vl F x).getD undef) { dst := d, op := .slice S x l h none, type := T, pos := pos, after := af, guard := g }) with
          | some (.value v) => (ofVal v).map fun y => setD F d (.val y)
          | _ => none) = (slcP E.P S u a b).map fun r => setD F d (.val r) := by
      intro a b ha hb
      simp only [execOp, hx, Option.getD_some, ha, hb, Option.map_none, pureRun_bind]
      cases h2 : pureRun E.P (Instr.sliceAt S u a b none) with
      | none => simp [slcP, h2]
      | some r => simp [slcP, h2, pureRun_pure]
    cases l with
    | none =>
      cases h with
      | none => simp only [Op.operands, Env.vlo]; simp [hx]; exact fin none none rfl rfl
      | some y =>
        cases hy : E.vl F y with
        | none => simp [Op.operands, Env.vlo, hx, hy]
        | some v => simp [Op.operands, Env.vlo, hx, hy]; exact fin none (some v) rfl (by simp [hy])
    | some z =>
      cases hz : E.vl F z with
      | none => simp [Op.operands, Env.vlo, hx, hz]
      | some v =>
        cases h with
        | none => simp [Op.operands, Env.vlo, hx, hz]; exact fin (some v) none (by simp [hz]) rfl
        | some y =>
          cases hy : E.vl F y with
          | none => simp [Op.operands, Env.vlo, hx, hy, hz]
          | some v' => simp [Op.operands, Env.vlo, hx, hy, hz]; exact fin (some v) (some v') (by simp [hz]) (by simp [hy])

theorem pureRun_sliceBound {P : Program} {k : IntKind} {i : Int} {n : Nat} {c : BoundsCode} : pureRun P (Instr.sliceBound (.int k i) n c) = if 0 ≤ i ∧ i ≤ n then some i.toNat else none := by
  unfold Instr.sliceBound
  rw [pureRun_bind, pureRun_asIntOf, Option.bind_some]
  simp only
  split
  · rfl
  · exact pureRun_boundsPanic
section
variable {P : Program} {T : TypeId} {s : List UInt8} {k k' : IntKind} {i j : Int}
theorem slcP_any (h : P.underlying T = some .string) {l u : Option Value} : slcP P T (.string (str s)) l u = ((pureRun P (Instr.sliceBounds false s.length s.length l u none)).map fun (a, b, _) => pS ((s.drop a).take (b - a))) := by
  have hu : pureRun P (underlying T) = some .string := pureRun_underlying h
  unfold slcP Instr.sliceAt
  rw [pureRun_bind, hu, Option.bind_some]
  simp only
  unfold Instr.slice
  rw [pureRun_bind, hu, Option.bind_some]
  simp only [Option.isSome_none, Bool.false_eq_true, if_false, str_size]
  have e : ∀ m : Sem PUnit, pureRun P m = some ⟨⟩ → pureRun P (m >>= fun _ => Instr.sliceBounds false s.length s.length l u none >>= fun q => (pure (.string ((str s).extract q.1 q.2.1)) : Sem Value)) = (pureRun P (Instr.sliceBounds false s.length s.length l u none)).map fun q => Value.string ((str s).extract q.1 q.2.1) := by
    intro m hm
    rw [pureRun_bind, hm, Option.bind_some, pureRun_bind]
    cases pureRun P (Instr.sliceBounds false s.length s.length l u none) <;> simp [pureRun_pure]
  have := e (pure ⟨⟩) rfl
  refine (congrArg (Option.bind · ofVal) this).trans ?_
  cases pureRun P (Instr.sliceBounds false s.length s.length l u none) with
  | none => rfl
  | some q => simp [str_extract, ofVal, ofVal1, flat]
theorem slcP_nn (h : P.underlying T = some .string) : slcP P T (.string (str s)) none none = some (pS s) := by
  rw [slcP_any h]; simp [Instr.sliceBounds, pureRun_bind, pureRun_pure]
theorem slcP_sn (h : P.underlying T = some .string) : slcP P T (.string (str s)) (some (.int k i)) none = if 0 ≤ i ∧ i ≤ (s.length : Int) then some (pS (s.drop i.toNat)) else none := by
  rw [slcP_any h]
  simp only [Instr.sliceBounds, pureRun_bind, pureRun_pure, Option.bind_some, pureRun_sliceBound]
  split
  · simp only [Option.bind_some, Option.map_some]
    rw [List.take_of_length_le (by simp)]
  · rfl
theorem slcP_ns (h : P.underlying T = some .string) : slcP P T (.string (str s)) none (some (.int k j)) = if 0 ≤ j ∧ j ≤ (s.length : Int) then some (pS (s.take j.toNat)) else none := by
  rw [slcP_any h]
  simp only [Instr.sliceBounds, pureRun_bind, pureRun_pure, Option.bind_some, pureRun_sliceBound]
  split <;> simp
theorem slcP_ss (h : P.underlying T = some .string) : slcP P T (.string (str s)) (some (.int k i)) (some (.int k' j)) = if (0 ≤ i ∧ i ≤ j) ∧ j ≤ (s.length : Int) then some (pS ((s.drop i.toNat).take (j.toNat - i.toNat))) else none := by
  rw [slcP_any h]
  simp only [Instr.sliceBounds, pureRun_bind, pureRun_pure, Option.bind_some, pureRun_sliceBound]
  by_cases hj : 0 ≤ j ∧ j ≤ (s.length : Int)
  · rw [if_pos hj, Option.bind_some]
    by_cases hi : 0 ≤ i ∧ i ≤ ((j.toNat : Nat) : Int)
    · rw [if_pos hi, if_pos (by omega)]; rfl
    · rw [if_neg hi, if_neg (by omega)]; rfl
  · rw [if_neg hj, if_neg (by omega)]; rfl
theorem binP_addstr {x y : Operand} {a b : List UInt8} : binP P .add T x y (.string (str a)) (.string (str b)) = if (a.length : Int) + b.length ≤ 9223372036854775807 then some (pS (a ++ b)) else none := by
  rw [bin_str (fun _ _ => rfl) rfl]
  have hm : IntKind.i64.max = 9223372036854775807 := by decide
  simp only [Op.stringOp, str_size, hm, Int.natCast_add]
  by_cases h : (a.length : Int) + b.length ≤ 9223372036854775807
  · rw [if_neg (by omega), if_pos h]
    simp [pureRun_pure, str_append, ofVal, ofVal1, flat]
  · rw [if_pos (by omega), if_neg h]; rfl
end
attribute [simp] sem_index idxP_str semPure_len lenP_str semPure_slice slcP_nn slcP_sn slcP_ns slcP_ss binP_addstr Env.vlo.eq_1 Env.vlo.eq_2
end Go.V
