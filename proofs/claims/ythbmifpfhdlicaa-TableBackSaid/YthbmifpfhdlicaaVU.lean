/- The reckoning of a text, by rewriting. -/
import Derived.Test.YthbmifpfhdlicaaVT
import Derived.Laws.BitsLemmas
namespace Go.V
set_option linter.unusedVariables false
set_option linter.unusedSimpArgs false

theorem pureRun_pure {P : Program} {α : Type} (a : α) : pureRun P (pure a : Sem α) = some a := rfl
theorem pureRun_bind {P : Program} {α β : Type} (s : Sem α) (k : α → Sem β) : pureRun P (s >>= k) = (pureRun P s).bind fun a => pureRun P (k a) := by
  show pureRun P (s.bind k) = _
  induction s with
  | pure a => rfl
  | program h ih => simp only [Sem.bind, pureRun]; exact ih P
  | _ => rfl

def binP (P : Program) (op : BinOp) (T : TypeId) (x y : Operand) (u v : Value) : Option PV :=
  (pureRun P (do eqGuard op T x y u v; binOp op T u v)).bind ofVal
theorem sem_bin {E : Env} {F : RF} {d : Option Tmp} {op : BinOp} {X Y R : TypeId} {x y : Operand} {pos : String} {af : Array Edge} {g : Option (Nat × Bool)} :
    sem E { dst := d, op := .binOp op X x y Y, type := R, pos := pos, after := af, guard := g } F =
      (E.vl F x).bind fun u => (E.vl F y).bind fun v => (binP E.P op X x y u v).map fun r => setD F d (.val r) := by
  show semPure E _ F = _
  unfold semPure
  rw [if_neg (by simp [isSel])]
  cases hx : E.vl F x with
  | none => simp [Op.operands, hx]
  | some u =>
    cases hy : E.vl F y with
    | none => simp [Op.operands, hy]
    | some v =>
      simp only [Op.operands, List.all_cons, List.all_nil, hx, hy, Option.isSome_some, Bool.and_self, if_true, Option.bind_some, execOp, Option.getD_some, pureRun_bind]
      simp only [binP, pureRun_bind]
      cases h1 : pureRun E.P (eqGuard op X x y u v) with
      | none => simp
      | some _ =>
        cases h2 : pureRun E.P (binOp op X u v) with
        | none => simp [h2]
        | some r => simp [h2, pureRun_pure]
def unP (P : Program) (op : UnOp) (u : Value) : Option PV := (pureRun P (Op.unary op u)).bind ofVal
theorem sem_un {E : Env} {F : RF} {d : Option Tmp} {op : UnOp} {X R : TypeId} {x : Operand} {pos : String} {af : Array Edge} {g : Option (Nat × Bool)} :
    sem E { dst := d, op := .unOp op X x, type := R, pos := pos, after := af, guard := g } F = (E.vl F x).bind fun u => (unP E.P op u).map fun r => setD F d (.val r) := by
  show semPure E _ F = _
  unfold semPure
  rw [if_neg (by simp [isSel])]
  cases hx : E.vl F x with
  | none => simp [Op.operands, hx]
  | some u =>
    simp only [Op.operands, List.all_cons, List.all_nil, hx, Option.isSome_some, Bool.and_self, if_true, Option.bind_some, execOp, Option.getD_some, pureRun_bind, unP]
    cases h2 : pureRun E.P (Op.unary op u) with
    | none => simp
    | some r => simp [pureRun_pure]

section
variable {P : Program} {T : TypeId} {x y : Operand} {k k' : IntKind} {a b : Int} {p q : Bool}
theorem bin_add : binP P .add T x y (.int k a) (.int k b) = some (.prim (.int k (k.wrap (a + b)))) := by simp [binP, eqGuard, binOp, Op.intArith, pureRun_bind, pureRun_pure, ofVal, ofVal1, flat]
theorem bin_sub : binP P .sub T x y (.int k a) (.int k b) = some (.prim (.int k (k.wrap (a - b)))) := by simp [binP, eqGuard, binOp, Op.intArith, pureRun_bind, pureRun_pure, ofVal, ofVal1, flat]
theorem bin_mul : binP P .mul T x y (.int k a) (.int k b) = some (.prim (.int k (k.wrap (a * b)))) := by simp [binP, eqGuard, binOp, Op.intArith, pureRun_bind, pureRun_pure, ofVal, ofVal1, flat]
theorem bin_quo (h : b ≠ 0) : binP P .quo T x y (.int k a) (.int k b) = some (.prim (.int k (k.wrap (a.tdiv b)))) := by simp [binP, eqGuard, binOp, Op.intDiv, h, pureRun_bind, pureRun_pure, ofVal, ofVal1, flat]
theorem bin_rem (h : b ≠ 0) : binP P .rem T x y (.int k a) (.int k b) = some (.prim (.int k (a.tmod b))) := by simp [binP, eqGuard, binOp, Op.intDiv, h, pureRun_bind, pureRun_pure, ofVal, ofVal1, flat]
theorem bin_lss : binP P .lss T x y (.int k a) (.int k b) = some (.prim (.bool (decide (a < b)))) := by simp [binP, eqGuard, binOp, Op.intCmp, pureRun_bind, pureRun_pure, ofVal, ofVal1, flat]
theorem bin_leq : binP P .leq T x y (.int k a) (.int k b) = some (.prim (.bool (decide (a ≤ b)))) := by simp [binP, eqGuard, binOp, Op.intCmp, pureRun_bind, pureRun_pure, ofVal, ofVal1, flat]
theorem bin_gtr : binP P .gtr T x y (.int k a) (.int k b) = some (.prim (.bool (decide (b < a)))) := by simp [binP, eqGuard, binOp, Op.intCmp, pureRun_bind, pureRun_pure, ofVal, ofVal1, flat]
theorem bin_geq : binP P .geq T x y (.int k a) (.int k b) = some (.prim (.bool (decide (b ≤ a)))) := by simp [binP, eqGuard, binOp, Op.intCmp, pureRun_bind, pureRun_pure, ofVal, ofVal1, flat]
theorem bin_eql : binP P .eql T x y (.int k a) (.int k b) = some (.prim (.bool (decide (a = b)))) := by
  simp [binP, eqGuard, binOp, Op.intCmp, pureRun_bind, pureRun_pure, ofVal, ofVal1, flat]; rfl
theorem bin_neq : binP P .neq T x y (.int k a) (.int k b) = some (.prim (.bool (decide (a ≠ b)))) := by
  simp [binP, eqGuard, binOp, Op.intCmp, pureRun_bind, pureRun_pure, ofVal, ofVal1, flat]; rfl
theorem bin_and : binP P .and T x y (.int k a) (.int k b) = some (.prim (.int k (k.wrap (BitVec.ofInt k.bits a &&& BitVec.ofInt k.bits b).toNat))) := by simp [binP, eqGuard, binOp, Op.intBits, pureRun_bind, pureRun_pure, ofVal, ofVal1, flat]
theorem bin_or : binP P .or T x y (.int k a) (.int k b) = some (.prim (.int k (k.wrap (BitVec.ofInt k.bits a ||| BitVec.ofInt k.bits b).toNat))) := by simp [binP, eqGuard, binOp, Op.intBits, pureRun_bind, pureRun_pure, ofVal, ofVal1, flat]
theorem bin_xor : binP P .xor T x y (.int k a) (.int k b) = some (.prim (.int k (k.wrap (BitVec.ofInt k.bits a ^^^ BitVec.ofInt k.bits b).toNat))) := by simp [binP, eqGuard, binOp, Op.intBits, pureRun_bind, pureRun_pure, ofVal, ofVal1, flat]
theorem bin_shl (h : 0 ≤ b) : binP P .shl T x y (.int k a) (.int k' b) = some (.prim (.int k (k.wrap (a * 2 ^ (min b.toNat k.bits))))) := by
  simp [binP, eqGuard, binOp, Op.shift, Int.not_lt.2 h, pureRun_bind, pureRun_pure, ofVal, ofVal1, flat]
theorem bin_shr (h : 0 ≤ b) : binP P .shr T x y (.int k a) (.int k' b) = some (.prim (.int k (a.fdiv (2 ^ (min b.toNat k.bits))))) := by
  simp [binP, eqGuard, binOp, Op.shift, Int.not_lt.2 h, pureRun_bind, pureRun_pure, ofVal, ofVal1, flat]
theorem un_not : unP P .not (.bool p) = some (.prim (.bool (!p))) := by simp [unP, Op.unary, pureRun_pure, ofVal, ofVal1, flat]
end
theorem pureRun_program {P : Program} : pureRun P program = some P := rfl
theorem pureRun_underlying {P : Program} {T : TypeId} {d : TypeDesc} (h : P.underlying T = some d) : pureRun P (underlying T) = some d := by
  simp [underlying, pureRun_bind, pureRun_program, h, pureRun_pure]
theorem conv_int {E : Env} {F : RF} {o : Oper} {S D : TypeId} {x : Operand} {k0 k : IntKind} {n : Int} (ho : o.op = .convert S D x) (hS : E.P.underlying S = some (.int k0)) (hD : E.P.underlying D = some (.int k)) (hv : E.vl F x = some (.int k0 n)) :
    semConv E o S D x F = some (setD F o.dst (.val (.prim (.int k (k.wrap n))))) := by
  unfold semConv
  rw [hS, hD]
  show semPure E o F = _
  unfold semPure
  rw [ho]
  rw [if_neg (by simp [isSel])]
  simp only [Op.operands, List.all_cons, List.all_nil, hv, Option.isSome_some, Bool.and_self, if_true, execOp, ho, Option.getD_some]
  have hu : pureRun E.P (convert S D (.int k0 n)) = some (.int k (k.wrap n)) := by
    unfold convert
    have h1 : pureRun E.P (underlying S) = some (.int k0) := pureRun_underlying hS
    have h2 : pureRun E.P (underlying D) = some (.int k) := pureRun_underlying hD
    rw [pureRun_bind, h1, Option.bind_some, pureRun_bind, h2, Option.bind_some]
    simp [Conv.intToInt, pureRun_pure]
  rw [pureRun_bind, hu]
  simp [pureRun_pure, ofVal, ofVal1, flat]
theorem sem_conv_int {E : Env} {F : RF} {d : Option Tmp} {R S D : TypeId} {x : Operand} {pos : String} {af : Array Edge} {g : Option (Nat × Bool)} {k0 k : IntKind} {n : Int} (hS : E.P.underlying S = some (.int k0)) (hD : E.P.underlying D = some (.int k)) (hv : E.vl F x = some (.int k0 n)) :
    sem E { dst := d, op := .convert S D x, type := R, pos := pos, after := af, guard := g } F = some (setD F d (.val (.prim (.int k (k.wrap n))))) := conv_int rfl hS hD hv
theorem sem_conv_str {E : Env} {F : RF} {d : Option Tmp} {R S D e : TypeId} {x : Operand} {pos : String} {af : Array Edge} {g : Option (Nat × Bool)} {f : Bool} {sz : Nat} {xs : List PV} {ns : List Int} (hS : E.P.underlying S = some (.slice e)) (hD : E.P.underlying D = some .string)
    (he : E.P.underlying e = some (.int .u8)) (hz : esz E.P e = 1) (hv : E.rd F S x = some (.sl f sz xs)) (hn : bytesOf xs = some ns) :
    sem E { dst := d, op := .convert S D x, type := R, pos := pos, after := af, guard := g } F = some (setD F d (.val (.prim (.string (strOf ns))))) := by
  show semConv E _ S D x F = _
  unfold semConv
  rw [hS, hD]
  simp only [he, hv, hz, if_true, hn, Option.map_some]
theorem pureRun_map {P : Program} {α β : Type} (s : Sem α) (f : α → β) : pureRun P (f <$> s) = (pureRun P s).map f := by
  have : (f <$> s : Sem β) = s >>= fun a => pure (f a) := rfl
  rw [this, pureRun_bind]
  cases pureRun P s <;> rfl
def minP (P : Program) (u v : Value) : Option PV := (pureRun P (Builtin.min2 u v)).bind ofVal
theorem sem_min {E : Env} {F : RF} {d : Option Tmp} {T S D : TypeId} {x y : Operand} {pos : String} {af : Array Edge} {g : Option (Nat × Bool)} :
    sem E { dst := d, op := .call { callee := .builtin .min, args := ⟨[x, y]⟩, argTypes := ⟨[S, D]⟩ }, type := T, pos := pos, after := af, guard := g } F = (E.vl F x).bind fun u => (E.vl F y).bind fun v => (minP E.P u v).map fun r => setD F d (.val r) := by
  show semPure E _ F = _
  unfold semPure
  rw [if_neg (by simp [isSel])]
  cases hx : E.vl F x with
  | none => simp [Op.operands, Call.operands, hx]
  | some u =>
    cases hy : E.vl F y with
    | none => simp [Op.operands, Call.operands, hx, hy]
    | some v =>
      simp only [Op.operands, Call.operands, List.all_cons, List.all_nil, Array.toList_append, List.nil_append, hx, hy, Option.isSome_some, Bool.and_self, if_true, Option.bind_some]
      cases h2 : pureRun E.P (Builtin.min2 u v) with
      | none => simp [minP, h2, execOp, resolve, invoke, builtin, Builtin.min_, hx, hy, pureRun_map, pureRun_bind, pureRun_pure]
      | some r => simp [minP, h2, execOp, resolve, invoke, builtin, Builtin.min_, hx, hy, pureRun_map, pureRun_bind, pureRun_pure]
theorem minP_int {P : Program} {k k' : IntKind} {a b : Int} : minP P (.int k a) (.int k' b) = some (.prim (.int k (if b < a then b else a))) := by simp [minP, Builtin.min2, pureRun_pure, ofVal, ofVal1, flat]
def maxP (P : Program) (u v : Value) : Option PV := (pureRun P (Builtin.max2 u v)).bind ofVal
theorem sem_max {E : Env} {F : RF} {d : Option Tmp} {T S D : TypeId} {x y : Operand} {pos : String} {af : Array Edge} {g : Option (Nat × Bool)} :
    sem E { dst := d, op := .call { callee := .builtin .max, args := ⟨[x, y]⟩, argTypes := ⟨[S, D]⟩ }, type := T, pos := pos, after := af, guard := g } F = (E.vl F x).bind fun u => (E.vl F y).bind fun v => (maxP E.P u v).map fun r => setD F d (.val r) := by
  show semPure E _ F = _
  unfold semPure
  rw [if_neg (by simp [isSel])]
  cases hx : E.vl F x with
  | none => simp [Op.operands, Call.operands, hx]
  | some u =>
    cases hy : E.vl F y with
    | none => simp [Op.operands, Call.operands, hx, hy]
    | some v =>
      simp only [Op.operands, Call.operands, List.all_cons, List.all_nil, Array.toList_append, List.nil_append, hx, hy, Option.isSome_some, Bool.and_self, if_true, Option.bind_some]
      cases h2 : pureRun E.P (Builtin.max2 u v) with
      | none => simp [maxP, h2, execOp, resolve, invoke, builtin, Builtin.max_, hx, hy, pureRun_map, pureRun_bind, pureRun_pure]
      | some r => simp [maxP, h2, execOp, resolve, invoke, builtin, Builtin.max_, hx, hy, pureRun_map, pureRun_bind, pureRun_pure]
theorem maxP_int {P : Program} {k k' : IntKind} {a b : Int} : maxP P (.int k a) (.int k' b) = some (.prim (.int k (if a < b then b else a))) := by simp [maxP, Builtin.max2, pureRun_pure, ofVal, ofVal1, flat]
theorem wrap64 {n : Int} (h : -9223372036854775808 ≤ n ∧ n ≤ 9223372036854775807) : IntKind.i64.wrap n = n := by rw [IntKind.wrap_i64]; omega
theorem wrapU8 {n : Int} (h : 0 ≤ n ∧ n ≤ 255) : IntKind.u8.wrap n = n := by rw [IntKind.wrap_u8]; omega
theorem wrapU32 {n : Int} (h : 0 ≤ n ∧ n ≤ 4294967295) : IntKind.u32.wrap n = n := by rw [IntKind.wrap_u32]; omega

section
variable {E : Env} {F : RF} {d : Option Tmp} {T S D : TypeId} {x y c z : Operand} {pos : String} {af : Array Edge} {g : Option (Nat × Bool)} {i : Nat}
theorem sem_move : sem E { dst := d, op := .move x, type := T, pos := pos, after := af, guard := g } F = semMove E { dst := d, op := .move x, type := T, pos := pos, after := af, guard := g } x F := rfl
theorem sem_assign : sem E { dst := d, op := .assign x, type := T, pos := pos, after := af, guard := g } F = semAssign E { dst := d, op := .assign x, type := T, pos := pos, after := af, guard := g } x F := rfl
theorem sem_pick : sem E { dst := d, op := .pick c x y, type := T, pos := pos, after := af, guard := g } F = semPick E { dst := d, op := .pick c x y, type := T, pos := pos, after := af, guard := g } c x y F := rfl
end

theorem ofVal_int {k : IntKind} {n : Int} : ofVal (.int k n) = some (.prim (.int k n)) := rfl
theorem ofVal_bool {b : Bool} : ofVal (.bool b) = some (.prim (.bool b)) := rfl
theorem toVal_int {k : IntKind} {n : Int} : PV.toVal (.prim (.int k n)) = some (.int k n) := rfl
theorem toVal_bool {b : Bool} : PV.toVal (.prim (.bool b)) = some (.bool b) := rfl
section
variable {E : Env} {F : RF} {d : Option Tmp} {T : TypeId} {pos : String} {af : Array Edge} {g : Option (Nat × Bool)}
theorem sem_alloc {T' : TypeId} : sem E { dst := d, op := .alloc T', type := T, pos := pos, after := af, guard := g } F = semAlloc E { dst := d, op := .alloc T', type := T, pos := pos, after := af, guard := g } T' F := rfl
theorem sem_box {T' : TypeId} {x : Operand} : sem E { dst := d, op := .box T' x, type := T, pos := pos, after := af, guard := g } F = semBox E { dst := d, op := .box T' x, type := T, pos := pos, after := af, guard := g } T' x F := rfl
theorem sem_build {T' : TypeId} {ps : Array (Nat × Operand)} : sem E { dst := d, op := .build T' ps, type := T, pos := pos, after := af, guard := g } F = semBuild E { dst := d, op := .build T' ps, type := T, pos := pos, after := af, guard := g } T' ps.toList F := rfl
theorem sem_buildSlice {T' : TypeId} {n : Nat} {ps : Array (Nat × Operand)} : sem E { dst := d, op := .buildSlice T' n ps, type := T, pos := pos, after := af, guard := g } F = semLit E { dst := d, op := .buildSlice T' n ps, type := T, pos := pos, after := af, guard := g } T' n ps.toList F := rfl
theorem sem_load {T' : TypeId} {x : Operand} : sem E { dst := d, op := .load T' x, type := T, pos := pos, after := af, guard := g } F = if arrLoad E T' x F = true then semLoadA E { dst := d, op := .load T' x, type := T, pos := pos, after := af, guard := g } T' x F else semLoad E { dst := d, op := .load T' x, type := T, pos := pos, after := af, guard := g } T' x F := rfl
theorem sem_arr {T' : TypeId} {x : Operand} : sem E { dst := d, op := .sliceToArrayPointer T' x, type := T, pos := pos, after := af, guard := g } F = semArr E { dst := d, op := .sliceToArrayPointer T' x, type := T, pos := pos, after := af, guard := g } T' x F := rfl
theorem sem_store {T' : TypeId} {x : Operand} {y : Operand} : sem E { dst := d, op := .store T' x y, type := T, pos := pos, after := af, guard := g } F = semStore E { dst := d, op := .store T' x y, type := T, pos := pos, after := af, guard := g } T' x y F := rfl
theorem sem_nilCheck {x : Operand} : sem E { dst := d, op := .nilCheck x, type := T, pos := pos, after := af, guard := g } F = semNil E { dst := d, op := .nilCheck x, type := T, pos := pos, after := af, guard := g } x F := rfl
theorem sem_makeFunc {fn : Fn} {fs : Array Operand} {cs : Array Operand} : sem E { dst := d, op := .makeFunc fn fs cs, type := T, pos := pos, after := af, guard := g } F = semFunc E { dst := d, op := .makeFunc fn fs cs, type := T, pos := pos, after := af, guard := g } fn fs cs F := rfl
theorem sem_makeMap {T' : TypeId} {r : Option Operand} : sem E { dst := d, op := .makeMap T' r, type := T, pos := pos, after := af, guard := g } F = semMakeMap E { dst := d, op := .makeMap T' r, type := T, pos := pos, after := af, guard := g } r F := rfl
theorem sem_makeSlice {T' : TypeId} {x : Operand} {y : Operand} : sem E { dst := d, op := .makeSlice T' x y, type := T, pos := pos, after := af, guard := g } F = semMake E { dst := d, op := .makeSlice T' x y, type := T, pos := pos, after := af, guard := g } T' x y F := rfl
theorem sem_slice {T' : TypeId} {x : Operand} {l : Option Operand} {h : Option Operand} {m : Option Operand} : sem E { dst := d, op := .slice T' x l h m, type := T, pos := pos, after := af, guard := g } F = semSlice E { dst := d, op := .slice T' x l h m, type := T, pos := pos, after := af, guard := g } T' x l h m F := rfl
theorem sem_fieldAddr {S : TypeId} {x : Operand} {i : Nat} : sem E { dst := d, op := .fieldAddr S x i, type := T, pos := pos, after := af, guard := g } F = semField E { dst := d, op := .fieldAddr S x i, type := T, pos := pos, after := af, guard := g } S x i F := rfl
theorem sem_indexAddr {S : TypeId} {x : Operand} {y : Operand} : sem E { dst := d, op := .indexAddr S x y, type := T, pos := pos, after := af, guard := g } F = semIndex E { dst := d, op := .indexAddr S x y, type := T, pos := pos, after := af, guard := g } S x y F := rfl
theorem sem_lookup {S : TypeId} {x : Operand} {y : Operand} {b : Bool} : sem E { dst := d, op := .lookup S x y b, type := T, pos := pos, after := af, guard := g } F = semLookup E { dst := d, op := .lookup S x y b, type := T, pos := pos, after := af, guard := g } S x y b F := rfl
theorem sem_mapUpdate {S : TypeId} {x : Operand} {y : Operand} {z : Operand} : sem E { dst := d, op := .mapUpdate S x y z, type := T, pos := pos, after := af, guard := g } F = semMapSet E { dst := d, op := .mapUpdate S x y z, type := T, pos := pos, after := af, guard := g } S x y z F := rfl
theorem sem_insert {S : TypeId} {x : Operand} {y : Operand} {z : Operand} : sem E { dst := d, op := .insert S x y z, type := T, pos := pos, after := af, guard := g } F = semMapSet E { dst := d, op := .insert S x y z, type := T, pos := pos, after := af, guard := g } S x y z F := rfl
theorem sem_extract {x : Operand} {i : Nat} : sem E { dst := d, op := .extract x i, type := T, pos := pos, after := af, guard := g } F = semExtract E { dst := d, op := .extract x i, type := T, pos := pos, after := af, guard := g } x i F := rfl
theorem sem_len {S : TypeId} {x : Operand} : sem E { dst := d, op := .call { callee := .builtin .len, args := ⟨[x]⟩, argTypes := ⟨[S]⟩ }, type := T, pos := pos, after := af, guard := g } F = semLen E { dst := d, op := .call { callee := .builtin .len, args := ⟨[x]⟩, argTypes := ⟨[S]⟩ }, type := T, pos := pos, after := af, guard := g } S x F := rfl
theorem sem_append {S D : TypeId} {x y : Operand} : sem E { dst := d, op := .call { callee := .builtin .append, args := ⟨[x, y]⟩, argTypes := ⟨[S, D]⟩ }, type := T, pos := pos, after := af, guard := g } F = semAppend E { dst := d, op := .call { callee := .builtin .append, args := ⟨[x, y]⟩, argTypes := ⟨[S, D]⟩ }, type := T, pos := pos, after := af, guard := g } S D x y F := rfl
end
@[simp] theorem toVal_sl {o : Bool} {sz : Nat} {xs : List PV} : PV.toVal (.sl o sz xs) = none := rfl
@[simp] theorem toVal_ptr {o : Bool} {xs : List PV} : PV.toVal (.ptr o xs) = none := rfl
@[congr] theorem bind_cong {α β : Type} {a b : Option α} {f : α → Option β} (h : a = b) : a.bind f = b.bind f := by rw [h]
@[congr] theorem map_cong {α β : Type} {a b : Option α} {f : α → β} (h : a = b) : a.map f = b.map f := by rw [h]

section
variable {E : Env} {D : Array Oper → RF → Option RF} {K : Exit → RF → Prop} {p : Tmp × Slot × Nat × Nat} {F : RF}
theorem wpx_skip : wpx E D .skip K F = K .normal F := rfl
theorem wpx_exit {i : Nat} : wpx E D (.exit i) K F = K (.exit i) F := rfl
theorem wpx_ret : wpx E D .ret K F = K .ret F := rfl
theorem wpx_region {i : Nat} {ops : Array Oper} {b : Bool} : wpx E D (.region i ops b) K (p :: F) = match runR E D ops b (p :: F) with | some F' => K .normal (F'.prune (E.keep i)) | none => b = false ∧ nilLast E ops.toList (p :: F) (fun F' => K .normal (F'.prune (E.keep i))) := rfl
theorem wpx_region0 {i : Nat} {ops : Array Oper} {b : Bool} : wpx E D (.region i ops b) K [] = match runR E D ops b [] with | some F' => K .normal (F'.prune (E.keep i)) | none => b = false ∧ nilLast E ops.toList [] (fun F' => K .normal (F'.prune (E.keep i))) := rfl
theorem wpx_seq {a b : Code} : wpx E D (.seq a b) K (p :: F) = wpx E D a (fun e F' => match e with | .normal => wpx E D b K F' | e => K e F') (p :: F) := rfl
theorem wpx_seq0 {a b : Code} : wpx E D (.seq a b) K [] = wpx E D a (fun e F' => match e with | .normal => wpx E D b K F' | e => K e F') [] := rfl
theorem wpx_cond {c : Operand} {a b : Code} : wpx E D (.cond c a b) K (p :: F) = match E.vl (p :: F) c with | some (.bool t) => if t = true then wpx E D a K (p :: F) else wpx E D b K (p :: F) | _ => False := rfl
theorem wpx_block {i : Nat} {c : Code} : wpx E D (.block i c) K (p :: F) = wpx E D c (fun e F' => match e with | .exit j => if j = i then K .normal F' else K (.exit j) F' | e => K e F') (p :: F) := rfl
theorem fin_cons {fn : Func} {xs : List PV} : fin E fn xs (p :: F) = (finR E (p :: F) fn.results.toList).bind fun (ys, F') => (outsOf F' 0 xs).map fun outs => (match ys with | [y] => y | ys => .tup ys, outs) := rfl
end
attribute [simp ↓] fin_cons wpx_skip wpx_exit wpx_ret wpx_region wpx_region0 wpx_seq wpx_seq0 wpx_cond wpx_block
def maskA (F : RF) (R : List Tmp) : List Tmp → RF
  | [] => []
  | t :: ts => (t, F.masked R t, F.ver t, F.cnt t) :: maskA F R ts
theorem maskA_eq {F : RF} {R : List Tmp} : ∀ {ts : List Tmp}, (ts.map fun t => (t, F.masked R t, F.ver t, F.cnt t)) = maskA F R ts
  | [] => rfl
  | t :: ts => by simp only [List.map_cons, maskA, maskA_eq (ts := ts)]
theorem mask_eq {F : RF} {R : List Tmp} : F.mask R = maskA F R R := maskA_eq
def pruneA (F : RF) (keep : List Tmp) : List Tmp → RF
  | [] => []
  | t :: ts => (t, F.kept keep t, 0, 0) :: pruneA F keep ts
theorem pruneA_eq {F : RF} {keep : List Tmp} : ∀ {ts : List Tmp}, (ts.map fun t => (t, F.kept keep t, 0, 0)) = pruneA F keep ts
  | [] => rfl
  | t :: ts => by simp only [List.map_cons, pruneA, pruneA_eq (ts := ts)]
theorem prune_eq {F : RF} {keep : List Tmp} : F.prune keep = pruneA F keep keep := pruneA_eq
def rootsA (F : RF) : List Tmp → List Tmp
  | [] => []
  | t :: ts => match F.slot t with
    | .pl r _ _ _ => t :: r :: rootsA F ts
    | _ => t :: rootsA F ts
theorem rootsA_eq {F : RF} : ∀ {ts : List Tmp}, (ts.flatMap fun t => match F.slot t with | .pl r _ _ _ => [t, r] | _ => [t]) = rootsA F ts
  | [] => rfl
  | t :: ts => by
    simp only [List.flatMap_cons, rootsA, rootsA_eq (ts := ts)]
    cases F.slot t <;> rfl
def atA (E : Env) : List Operand → List Tmp
  | [] => []
  | x :: xs => match E.at x with
    | some t => t :: atA E xs
    | none => atA E xs
theorem atA_eq {E : Env} : ∀ {xs : List Operand}, xs.filterMap E.at = atA E xs
  | [] => rfl
  | x :: xs => by
    simp only [List.filterMap_cons, atA, atA_eq (xs := xs)]
    cases E.at x <;> rfl
def guardTmps (ops : Array Oper) : Option (Nat × Bool) → List Tmp
  | some (j, _) => ((ops[j]?).bind (·.dst)).toList
  | none => []
theorem reads_eq {E : Env} {ops : Array Oper} {o : Oper} {F : RF} : reads E ops o F = o.dst.toList ++ rootsA F (atA E o.op.operands.toList ++ guardTmps ops o.guard) := by
  unfold reads opTmps; rw [atA_eq]
  cases o.guard with
  | none => exact congrArg (o.dst.toList ++ ·) rootsA_eq
  | some g => exact congrArg (o.dst.toList ++ ·) rootsA_eq
def recC (E : Env) (ops : Array Oper) (o : Oper) (os : List Oper) (F : RF) (R : List Tmp) (U : List (Tmp × Slot)) : Option (List Rec × RF) :=
  if keysOk R U = true ∧ dstIn o U = true then (record E ops os (F.sets U)).map fun q => (⟨o, R, U⟩ :: q.1, q.2) else none
def recB (E : Env) (ops : Array Oper) (o : Oper) (os : List Oper) (F : RF) (R : List Tmp) : Option RF → Option (List Rec × RF)
  | none => none
  | some F1 => recC E ops o os F R (delta R.length F1)
def recA (E : Env) (ops : Array Oper) (o : Oper) (os : List Oper) (F : RF) (R : List Tmp) : Option (List Rec × RF) := recB E ops o os F R (step E ops o (maskA F R R))
theorem record_cons {E : Env} {ops : Array Oper} {o : Oper} {os : List Oper} {F : RF} : record E ops (o :: os) F = recA E ops o os F (o.dst.toList ++ rootsA F (atA E o.op.operands.toList ++ guardTmps ops o.guard)) := by
  rw [← reads_eq]
  simp only [record, stepM, recA, mask_eq]
  cases step E ops o (maskA F (reads E ops o F) (reads E ops o F)) with
  | none => rfl
  | some F1 =>
    simp only [Option.bind_some, recB, recC]
    split
    · rfl
    · rfl
theorem record_nil {E : Env} {ops : Array Oper} {F : RF} : record E ops [] F = some ([], F) := rfl
def drawB (ops : Array Oper) : Option (List Rec × RF) → Option RF
  | some (rs, F) => if drawOk ops.toList rs = true then some F else none
  | none => none
theorem draw_eq {E : Env} {ops : Array Oper} {F : RF} : draw E ops F = drawB ops (record E ops ops.toList F) := by
  unfold draw
  cases record E ops ops.toList F <;> rfl
def directA : List Edge → List Nat
  | [] => []
  | e :: es => if Region.binds .any e = true then e.on :: directA es else directA es
theorem directA_eq : ∀ {es : List Edge}, (es.filter (Region.binds .any)).map (·.on) = directA es
  | [] => rfl
  | e :: es => by
    simp only [List.filter_cons, directA]
    split
    · simp only [List.map_cons, directA_eq (es := es)]
    · exact directA_eq
theorem direct_eq {o : Oper} : direct o = directA o.after.toList := directA_eq

theorem sem_callv {E : Env} {F : RF} {d : Option Tmp} {T : TypeId} {f : Operand} {as : Array Operand} {ts : Array TypeId} {pos : String} {af : Array Edge} {g : Option (Nat × Bool)} :
    sem E { dst := d, op := .call { callee := .value f, args := as, argTypes := ts }, type := T, pos := pos, after := af, guard := g } F =
      semCall E { dst := d, op := .call { callee := .value f, args := as, argTypes := ts }, type := T, pos := pos, after := af, guard := g } { callee := .value f, args := as, argTypes := ts } F := by
  unfold sem; rfl
end Go.V
