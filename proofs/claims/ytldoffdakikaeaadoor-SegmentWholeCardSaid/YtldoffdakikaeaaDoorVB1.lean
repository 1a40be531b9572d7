/- How data of the program are written as values without memory. -/
import Derived.Test.YtldoffdakikaeaaDoorKp
import Derived.Laws.StructEq
namespace Go.V
open Go.Proofs
set_option linter.unusedSimpArgs false
set_option linter.unusedVariables false
abbrev pBand (b : Int × Int) : PV := .agg [pI b.1, pI b.2]
abbrev sI (l : List Int) : PV := .sl false 1 (l.map pI)
abbrev sB (l : List Bool) : PV := .sl false 1 (l.map pB)
abbrev sY (l : List UInt8) : PV := .sl false 1 (l.map pY)
abbrev sBand (l : List (Int × Int)) : PV := .sl false 2 (l.map pBand)
abbrev sII (l : List (List Int)) : PV := .sl false 1 (l.map sI)
abbrev tI (l : List Int) : PV := .sl true 1 (l.map pI)
abbrev tB (l : List Bool) : PV := .sl true 1 (l.map pB)
abbrev tY (l : List UInt8) : PV := .sl true 1 (l.map pY)
abbrev tBand (l : List (Int × Int)) : PV := .sl true 2 (l.map pBand)
abbrev tII (l : List (List Int)) : PV := .sl true 1 (l.map tI)
structure Tab where
  classes : Int
  bands : List (Int × Int)
  next : List (List Int)
  brk : List Bool
  deriving DecidableEq
abbrev pT (t : Tab) : PV := .agg [pI t.classes, sBand t.bands, sII t.next, sB t.brk]
abbrev oT (t : Tab) : PV := .agg [pI t.classes, tBand t.bands, tII t.next, tB t.brk]

theorem map_inj {α : Type} {f : α → PV} (hf : ∀ a b, f a = f b → a = b) : ∀ {l m : List α}, (l.map f = m.map f) = (l = m)
  | [], [] => by simp
  | [], b :: m => by simp
  | a :: l, [] => by simp
  | a :: l, b :: m => by
    simp only [List.map_cons, List.cons.injEq, map_inj hf (l := l) (m := m)]
    apply propext
    exact ⟨fun h => ⟨hf _ _ h.1, h.2⟩, fun h => ⟨by rw [h.1], h.2⟩⟩
theorem pI_inj (a b : Int) (h : pI a = pI b) : a = b := by simpa using h
theorem pB_inj (a b : Bool) (h : pB a = pB b) : a = b := by simpa using h
theorem pY_inj (a b : UInt8) (h : pY a = pY b) : a = b := by
  simp at h; exact UInt8.toNat_inj.1 (by omega)
theorem pBand_inj (a b : Int × Int) (h : pBand a = pBand b) : a = b := by
  simp at h; exact Prod.ext h.1 h.2
theorem map_pI_inj {l m : List Int} : (l.map pI = m.map pI) = (l = m) := map_inj pI_inj
theorem map_pB_inj {l m : List Bool} : (l.map pB = m.map pB) = (l = m) := map_inj pB_inj
theorem map_pY_inj {l m : List UInt8} : (l.map pY = m.map pY) = (l = m) := map_inj pY_inj
theorem map_pBand_inj {l m : List (Int × Int)} : (l.map pBand = m.map pBand) = (l = m) := map_inj pBand_inj
theorem sI_inj (a b : List Int) (h : sI a = sI b) : a = b := by simpa [map_pI_inj] using h
theorem map_sI_inj {l m : List (List Int)} : (l.map sI = m.map sI) = (l = m) := map_inj sI_inj
theorem tab_inj (t u : Tab) (h : pT t = pT u) : t = u := by
  obtain ⟨a, b, c, d⟩ := t; obtain ⟨a', b', c', d'⟩ := u
  simp [map_pI_inj, map_pB_inj, map_pBand_inj, map_sI_inj] at h
  simp [h]
theorem frz_pI {l : List Int} : frzL (l.map pI) = l.map pI := by simp [PV.frz]
theorem frz_pB {l : List Bool} : frzL (l.map pB) = l.map pB := by simp [PV.frz]
theorem frz_pY {l : List UInt8} : frzL (l.map pY) = l.map pY := by simp [PV.frz]
theorem frz_pBand {l : List (Int × Int)} : frzL (l.map pBand) = l.map pBand := by simp [PV.frz, frzL]
theorem frz_sI {l : List (List Int)} : frzL (l.map sI) = l.map sI := by
  rw [frzL_map]; congr 1; funext a; simp only [PV.frz_sl, frz_pI]
theorem frz_tI {l : List (List Int)} : frzL (l.map tI) = l.map sI := by
  rw [frzL_map]; congr 1; funext a; simp only [PV.frz_sl, frz_pI]
attribute [simp high] frz_pI frz_pB frz_pY frz_pBand frz_sI frz_tI
attribute [simp] View.zero.eq_1 View.zero.eq_2 splitLast.eq_1 splitLast.eq_2 takeCells.eq_1 takeCells.eq_2
attribute [simp] zeroE.eq_1 PV.allOwn.eq_1 PV.allOwn.eq_2 PV.allOwn.eq_3 PV.allOwn.eq_4 PV.allOwn.eq_5 PV.allOwn.eq_6 PV.allOwn.eq_7 PV.allOwn.eq_8 allOwnL.eq_1 allOwnL.eq_2 goP.eq_1 goP.eq_2 PV.putCs.eq_1 PV.putCs.eq_2 PV.putC.eq_1 PV.putC.eq_2 PV.upd.eq_1 PV.upd.eq_2 PV.upd.eq_3
/-! ### Bytes and numbers of 32 bits -/
@[simp] theorem bits_u8 : IntKind.u8.bits = 8 := rfl
@[simp] theorem bits_u16 : IntKind.u16.bits = 16 := rfl
@[simp] theorem bits_u32 : IntKind.u32.bits = 32 := rfl
@[simp] theorem bits_u64 : IntKind.u64.bits = 64 := rfl
@[simp] theorem bits_i64 : IntKind.i64.bits = 64 := rfl
theorem pW_inj (a b : UInt32) (h : pW a = pW b) : a = b := by
  simp at h; exact UInt32.toNat_inj.1 (by omega)
theorem by32_ext {n : Int} {w : UInt32} (h : n % 4294967296 = w.toNat) : by32 n = w := UInt32.toNat_inj.1 (by have := @by32_toNat n; omega)
theorem by8_ext {n : Int} {w : UInt8} (h : n % 256 = w.toNat) : by8 n = w := UInt8.toNat_inj.1 (by have := @by8_toNat n; omega)
@[simp] theorem by32_add {a b : UInt32} : by32 ((a.toNat : Int) + b.toNat) = a + b := by
  apply by32_ext; rw [UInt32.toNat_add]; omega
theorem ofInt_u32 {a : UInt32} : BitVec.ofInt 32 (a.toNat : Int) = a.toBitVec := by
  apply BitVec.eq_of_toNat_eq
  rw [BitVec.toNat_ofInt]
  have := a.toNat_lt
  have h2 : a.toBitVec.toNat = a.toNat := rfl
  rw [h2]; omega
theorem ofInt_u8 {a : UInt8} : BitVec.ofInt 8 (a.toNat : Int) = a.toBitVec := by
  apply BitVec.eq_of_toNat_eq
  rw [BitVec.toNat_ofInt]
  have := a.toNat_lt
  have h2 : a.toBitVec.toNat = a.toNat := rfl
  rw [h2]; omega
theorem xor_u32 {a b : UInt32} : by32 (((BitVec.ofInt 32 (a.toNat : Int) ^^^ BitVec.ofInt 32 (b.toNat : Int)).toNat : Nat) : Int) = a ^^^ b := by
  rw [ofInt_u32, ofInt_u32]; exact by32_self (b := a ^^^ b)
theorem or_u32 {a b : UInt32} : by32 (((BitVec.ofInt 32 (a.toNat : Int) ||| BitVec.ofInt 32 (b.toNat : Int)).toNat : Nat) : Int) = a ||| b := by
  rw [ofInt_u32, ofInt_u32]; exact by32_self (b := a ||| b)
theorem or_u8 {a b : UInt8} : by8 (((BitVec.ofInt 8 (a.toNat : Int) ||| BitVec.ofInt 8 (b.toNat : Int)).toNat : Nat) : Int) = a ||| b := by
  rw [ofInt_u8, ofInt_u8]; exact by8_self (b := a ||| b)
theorem and_u8 {a b : UInt8} : by8 (((BitVec.ofInt 8 (a.toNat : Int) &&& BitVec.ofInt 8 (b.toNat : Int)).toNat : Nat) : Int) = a &&& b := by
  rw [ofInt_u8, ofInt_u8]; exact by8_self (b := a &&& b)
theorem xor_u32' {a b : UInt32} : by32 ((a.toBitVec ^^^ b.toBitVec).toNat : Int) = a ^^^ b := by32_self (b := a ^^^ b)
theorem or_u32' {a b : UInt32} : by32 ((a.toBitVec ||| b.toBitVec).toNat : Int) = a ||| b := by32_self (b := a ||| b)
theorem or_u8' {a b : UInt8} : by8 ((a.toBitVec ||| b.toBitVec).toNat : Int) = a ||| b := by8_self (b := a ||| b)
theorem and_u8' {a b : UInt8} : by8 ((a.toBitVec &&& b.toBitVec).toNat : Int) = a &&& b := by8_self (b := a &&& b)
theorem xor_u8 {a b : UInt8} : by8 (((BitVec.ofInt 8 (a.toNat : Int) ^^^ BitVec.ofInt 8 (b.toNat : Int)).toNat : Nat) : Int) = a ^^^ b := by
  rw [ofInt_u8, ofInt_u8]; exact by8_self (b := a ^^^ b)
/-- a byte as a number of 32 bits -/
theorem by32_u8 {b : UInt8} : by32 (b.toNat : Int) = b.toUInt32 := by
  apply by32_ext; have := b.toNat_lt; simp; omega
@[simp] theorem toVal_agg {cs : List PV} : PV.toVal (.agg cs) = (cellVals cs).map fun vs => Value.agg vs.toArray := rfl
@[simp] theorem toVal_prim {v : Value} : PV.toVal (.prim v) = some v := rfl
attribute [simp] cellVals.eq_1 cellVals.eq_2 cellVal.eq_1
@[simp] theorem ofVal_string {s : ByteArray} : ofVal (.string s) = some (.prim (.string s)) := rfl
/-! ### Alike -/
theorem pureRun_ite {P : Program} {α : Type} {c : Prop} [Decidable c] {s t : Sem α} : pureRun P (if c then s else t) = if c then pureRun P s else pureRun P t := by split <;> rfl
theorem pr_eqb {P : Program} {T : TypeId} {d : Nat} {p q : Bool} (h : P.underlying T = some .bool) : pureRun P (Op.equalIn (d + 1) T (.bool p) (.bool q)) = some (p == q) := by
  rw [Op.equalIn, pureRun_bind, pureRun_underlying h]; rfl
theorem pr_eqi {P : Program} {T : TypeId} {d : Nat} {k k' : IntKind} {p q : Int} (h : P.underlying T = some (.int k')) : pureRun P (Op.equalIn (d + 1) T (.int k p) (.int k q)) = some (p == q) := by
  rw [Op.equalIn, pureRun_bind, pureRun_underlying h]
  simp only [Option.bind_some, if_true]; rfl
theorem pr_eqs {P : Program} {T : TypeId} {d : Nat} {p q : ByteArray} (h : P.underlying T = some .string) : pureRun P (Op.equalIn (d + 1) T (.string p) (.string q)) = some (p == q) := by
  rw [Op.equalIn, pureRun_bind, pureRun_underlying h]; rfl
theorem pr_part {P : Program} {T : TypeId} {xs : Array Value} {o : Nat} {v : Value} {u : TypeDesc} (h : P.underlying T = some u) (ha : aggT P T = false) (hv : xs[o]? = some v) : pureRun P (part T xs o) = some v := by
  unfold part isAgg
  rw [pureRun_bind, pureRun_bind, pureRun_underlying h]
  unfold aggT at ha
  rw [h] at ha
  cases u <;> simp_all [pureRun_pure]
/-- whether two structs are alike, field by field, each one cell -/
def eqL (P : Program) (xs ys : Array Value) : List Field → Option Bool
  | [] => some true
  | f :: fs => if f.name = "_" then none else
    match P.underlying f.type, xs[f.offset]?, ys[f.offset]? with
    | some .bool, some (.bool a), some (.bool b) => (eqL P xs ys fs).map fun r => (a == b) && r
    | some (.int _), some (.int k a), some (.int k' b) => if k = k' then (eqL P xs ys fs).map fun r => (a == b) && r else none
    | some .string, some (.string a), some (.string b) => (eqL P xs ys fs).map fun r => (a == b) && r
    | _, _, _ => none
theorem eqL_ok {P : Program} {xs ys : Array Value} {d : Nat} : ∀ {fs : List Field} {r : Bool}, eqL P xs ys fs = some r → pureRun P (Op.eqFields (d + 1) xs ys fs) = some r
  | [], r, h => by simp only [eqL] at h; rw [Op.eqFields]; exact h
  | f :: fs, r, h => by
    simp only [eqL] at h
    split at h
    · cases h
    rename_i hn
    rw [Op.eqFields, if_pos hn]
    have fin : ∀ {u : TypeDesc} {v w : Value} {b : Bool}, P.underlying f.type = some u → aggT P f.type = false → xs[f.offset]? = some v → ys[f.offset]? = some w → pureRun P (Op.equalIn (d + 1) f.type v w) = some b →
        (eqL P xs ys fs).map (fun r => b && r) = some r →
        pureRun P (do let a ← part f.type xs f.offset; let b ← part f.type ys f.offset; let r ← Op.equalIn (d + 1) f.type a b; if (!r) = true then pure false else Op.eqFields (d + 1) xs ys fs) = some r := by
      intro u v w b hu ha hv hw he hr
      simp only [Option.map_eq_some_iff] at hr
      obtain ⟨s, hs, rfl⟩ := hr
      rw [pureRun_bind, pr_part hu ha hv, Option.bind_some, pureRun_bind, pr_part hu ha hw, Option.bind_some, pureRun_bind, he, Option.bind_some, pureRun_ite, eqL_ok hs]
      cases b <;> simp [pureRun_pure]
    split at h
    · rename_i hu hv hw
      exact fin hu (by simp [aggT, hu]) hv hw (pr_eqb hu) h
    · rename_i hu hv hw
      split at h
      · rename_i hk; subst hk
        exact fin hu (by simp [aggT, hu]) hv hw (pr_eqi hu) h
      · cases h
    · rename_i hu hv hw
      exact fin hu (by simp [aggT, hu]) hv hw (pr_eqs hu) h
    · cases h
theorem pr_struct {P : Program} {T : TypeId} {d : Nat} {fs : Array Field} {xs ys : Array Value} (hu : P.underlying T = some (.struct fs)) (hp : P.stoodInHeld T = false) : pureRun P (Op.equalIn (d + 1) T (.agg xs) (.agg ys)) = pureRun P (Op.eqFields d xs ys fs.toList) := by
  simp only [Op.equalIn, pureRun_bind, pureRun_underlying hu, Option.bind_some, pureRun_program, hp, Bool.false_eq_true, if_false]
  rw [← Array.forIn_toList]
  generalize fs.toList = l
  clear hu
  induction l with
  | nil => simp [Op.eqFields, pureRun_pure]
  | cons f l ih =>
    simp only [List.forIn_cons, Op.eqFields, pureRun_bind, pureRun_ite]
    split
    · cases pureRun P (part f.type xs f.offset) with
      | none => simp
      | some a =>
        cases pureRun P (part f.type ys f.offset) with
        | none => simp
        | some b =>
          cases hq : pureRun P (Op.equalIn d f.type a b) with
          | none => simp [hq]
          | some r =>
            cases r with
            | false => simp [pureRun_pure, pureRun_ite, hq]
            | true => simpa [pureRun_pure, pureRun_ite, pureRun_bind, hq] using ih
    · simpa [pureRun_pure, pureRun_bind] using ih
theorem bin_eql_agg {P : Program} {T : TypeId} {x y : Operand} {fs : Array Field} {xs ys : Array Value} {r : Bool} (hu : P.underlying T = some (.struct fs)) (hp : P.stoodInHeld T = false) (hg : P.eqGuardType P.depth T = false) (h : eqL P xs ys fs.toList = some r) :
    binP P .eql T x y (.agg xs) (.agg ys) = some (.prim (.bool r)) ∧ binP P .neq T x y (.agg xs) (.agg ys) = some (.prim (.bool !r)) := by
  have he : pureRun P (Op.equal T (.agg xs) (.agg ys)) = some r := by
    show pureRun P (Op.equalIn (9998 + 1 + 1) T _ _) = _
    rw [pr_struct hu hp]; exact eqL_ok h
  have hgu : ∀ op, (op = .eql ∨ op = .neq) → pureRun P (eqGuard op T x y (.agg xs) (.agg ys)) = some () := by
    intro op ho
    have hpr : pureRun P program = some P := rfl
    rcases ho with rfl | rfl <;> simp [eqGuard, pureRun_bind, hpr, hg, pureRun_pure]
  constructor
  · unfold binP
    rw [pureRun_bind, hgu .eql (.inl rfl)]
    have : pureRun P (binOp .eql T (.agg xs) (.agg ys)) = some (.bool r) := by
      show pureRun P (do pure (Value.bool (← Op.equal T (.agg xs) (.agg ys)))) = _
      rw [pureRun_bind, he]; rfl
    simp only [Option.bind_some, this]; rfl
  · unfold binP
    rw [pureRun_bind, hgu .neq (.inr rfl)]
    have : pureRun P (binOp .neq T (.agg xs) (.agg ys)) = some (.bool !r) := by
      show pureRun P (do pure (Value.bool (!(← Op.equal T (.agg xs) (.agg ys))))) = _
      rw [pureRun_bind, he]; rfl
    simp only [Option.bind_some, this]; rfl
section
variable {P : Program} {T : TypeId} {x y : Operand}
theorem bin_eqlb {p q : Bool} (h : P.underlying T = some TypeDesc.bool) : binP P .eql T x y (.bool p) (.bool q) = some (.prim (.bool (p == q))) := by
  unfold binP
  have : pureRun P (binOp .eql T (.bool p) (.bool q)) = some (.bool (p == q)) := by
    show pureRun P (do pure (Value.bool (← Op.equalIn (9999 + 1) T (.bool p) (.bool q)))) = _
    rw [pureRun_bind, pr_eqb h]; rfl
  rw [pureRun_bind]
  show (pureRun P (binOp .eql T (.bool p) (.bool q))).bind ofVal = _
  rw [this]; rfl
theorem bin_neqb {p q : Bool} (h : P.underlying T = some TypeDesc.bool) : binP P .neq T x y (.bool p) (.bool q) = some (.prim (.bool (p != q))) := by
  unfold binP
  have : pureRun P (binOp .neq T (.bool p) (.bool q)) = some (.bool (p != q)) := by
    show pureRun P (do pure (Value.bool (!(← Op.equalIn (9999 + 1) T (.bool p) (.bool q))))) = _
    rw [pureRun_bind, pr_eqb h]; rfl
  rw [pureRun_bind]
  show (pureRun P (binOp .neq T (.bool p) (.bool q))).bind ofVal = _
  rw [this]; rfl
attribute [simp] bin_eqlb bin_neqb
end
/-! ### Strings -/
def str (l : List UInt8) : ByteArray := ⟨l.toArray⟩
theorem mk_str {l : List UInt8} : ByteArray.mk l.toArray = str l := rfl
theorem str_toList {l : List UInt8} : (str l).toList = l := by rw [ByteArray.toList_eq]; rfl
theorem str_inj {a b : List UInt8} : str a = str b ↔ a = b := ⟨fun h => by rw [← str_toList (l := a), h, str_toList], fun h => by rw [h]⟩
@[simp] theorem str_size {l : List UInt8} : (str l).size = l.length := by simp [str, ByteArray.size]
theorem bytesOf_pY : ∀ {l : List UInt8}, bytesOf (l.map pY) = some (l.map fun b => (b.toNat : Int))
  | [] => rfl
  | b :: l => by
    show (bytesOf (l.map pY)).map _ = _
    rw [bytesOf_pY]; rfl
theorem strOf_pY {l : List UInt8} : strOf (l.map fun b => (b.toNat : Int)) = str l := by
  unfold strOf str
  congr 2
  rw [List.map_map]
  have : ((fun n : Int => UInt8.ofNat n.toNat) ∘ fun b : UInt8 => (b.toNat : Int)) = id := by funext b; simp
  rw [this, List.map_id]
theorem bytesP_str {l : List UInt8} : bytesP (str l) = l.map pY := rfl
abbrev pS (l : List UInt8) : PV := .prim (.string (str l))
theorem sem_convert {E : Env} {F : RF} {d : Option Tmp} {R S D : TypeId} {x : Operand} {pos : String} {af : Array Edge} {g : Option (Nat × Bool)} :
    sem E { dst := d, op := .convert S D x, type := R, pos := pos, after := af, guard := g } F = semConv E { dst := d, op := .convert S D x, type := R, pos := pos, after := af, guard := g } S D x F := rfl
attribute [simp] bytesOf_pY strOf_pY bytesP_str sem_convert semConv.eq_1
section
variable {P : Program} {T : TypeId} {x y : Operand} {a b : List UInt8}
theorem bin_str {op : BinOp} {u v : ByteArray} (h : ∀ u v, eqGuard op T x y (.string u) (.string v) = pure ()) (h2 : binOp op T (.string u) (.string v) = Op.stringOp op u v) : binP P op T x y (.string u) (.string v) = (pureRun P (Op.stringOp op u v)).bind ofVal := by
  unfold binP
  rw [h, pureRun_bind, h2]; rfl
@[simp] theorem binP_eqstr : binP P .eql T x y (.string (str a)) (.string (str b)) = some (.prim (.bool (a == b))) := by
  rw [bin_str (fun _ _ => rfl) rfl]
  have : pureRun P (Op.stringOp .eql (str a) (str b)) = some (.bool (a == b)) := by simp only [Op.stringOp, str_toList]; rfl
  rw [this]; rfl
@[simp] theorem binP_nestr : binP P .neq T x y (.string (str a)) (.string (str b)) = some (.prim (.bool (!(a == b)))) := by
  rw [bin_str (fun _ _ => rfl) rfl]
  have : pureRun P (Op.stringOp .neq (str a) (str b)) = some (.bool (!(a == b))) := by simp only [Op.stringOp, str_toList]; rfl
  rw [this]; rfl
end
@[simp high] theorem zeroStr : (⟨#[]⟩ : ByteArray) = str [] := rfl
/-! ### Stores -/
theorem setAt_one {α : Type} {f : α → PV} (hf : ∀ a y, (f a).setC 0 y = y) {l : List α} {i : Nat} {a : α} : setAt (l.map f) i 0 (f a) = (l.set i a).map f := by
  unfold setAt
  induction l generalizing i with
  | nil => simp
  | cons b l ih => cases i with
    | zero => simp [hf]
    | succ i => simpa using ih
theorem setAt_pI {l : List Int} {i : Nat} {a : Int} : setAt (l.map pI) i 0 (pI a) = (l.set i a).map pI := setAt_one (fun _ _ => rfl)
theorem setAt_pB {l : List Bool} {i : Nat} {a : Bool} : setAt (l.map pB) i 0 (pB a) = (l.set i a).map pB := setAt_one (fun _ _ => rfl)
theorem setAt_pY {l : List UInt8} {i : Nat} {a : UInt8} : setAt (l.map pY) i 0 (pY a) = (l.set i a).map pY := setAt_one (fun _ _ => rfl)
theorem setAt_tI {l : List (List Int)} {i : Nat} {a : List Int} : setAt (l.map tI) i 0 (tI a) = (l.set i a).map tI := setAt_one (fun _ _ => rfl)
attribute [simp high] setAt_pI setAt_pB setAt_pY setAt_tI
theorem set_modify {α : Type} {f : α → α} : ∀ {l : List α} {k : Nat} (h : k < l.length), l.set k (f l[k]) = l.modify k f
  | a :: l, 0, h => by simp
  | a :: l, k + 1, h => by simp [set_modify (l := l) (k := k) (by simpa using h)]
@[simp] theorem by8_zero : by8 0 = 0 := by decide
theorem rep_pY0 {n : Nat} : List.replicate n (PV.prim (.int .u8 0)) = (List.replicate n (0 : UInt8)).map pY := by simp
theorem rep_pB0 {n : Nat} : List.replicate n (PV.prim (.bool false)) = (List.replicate n false).map pB := by simp
theorem rep_pI0 {n : Nat} : List.replicate n (PV.prim (.int .i64 0)) = (List.replicate n (0 : Int)).map pI := by simp
/-! ### Loops over lists -/
theorem and_imp_self' {p q : Prop} (hp : p) (hq : q) : p ∧ (p → q) := ⟨hp, fun _ => hq⟩
theorem by32_byte {b : UInt8} : by32 (b.toNat : Int) = b.toUInt32 := by32_u8
theorem mem_take_succ {α : Type} {l : List α} {i : Nat} (h : i < l.length) {P : α → Prop} (h1 : ∀ x ∈ l.take i, P x) (h2 : P l[i]) : ∀ x ∈ l.take (i + 1), P x := by
  rw [List.take_succ_eq_append_getElem h]; intro x hx; rcases List.mem_append.1 hx with hx | hx
  · exact h1 x hx
  · rw [List.mem_singleton.1 hx]; exact h2
theorem mem_take_all {α : Type} {l : List α} {i : Nat} (h : ¬ i < l.length) {P : α → Prop} (h1 : ∀ x ∈ l.take i, P x) : ∀ x ∈ l, P x := by
  rw [List.take_of_length_le (by omega)] at h1; exact h1
structure Each {α : Type} (p : α → Bool) (l : List α) : Prop where
  h : ∀ x ∈ l, p x = true
instance {α : Type} {p : α → Bool} {l : List α} : Decidable (Each p l) := decidable_of_iff (∀ x ∈ l, p x = true) ⟨fun h => ⟨h⟩, fun h => h.h⟩
theorem Each.zero {α : Type} {p : α → Bool} {l : List α} : Each p (l.take 0) := ⟨by intro x hx; simp at hx⟩
theorem Each.succ {α : Type} {p : α → Bool} {l : List α} {i : Nat} (h : i < l.length) (h1 : Each p (l.take i)) (h2 : p l[i] = true) : Each p (l.take (i + 1)) := by
  refine ⟨?_⟩; rw [List.take_succ_eq_append_getElem h]; intro x hx; rcases List.mem_append.1 hx with hx | hx
  · exact h1.h x hx
  · rw [List.mem_singleton.1 hx]; exact h2
theorem Each.all {α : Type} {p : α → Bool} {l : List α} {i : Nat} (h : ¬ i < l.length) (h1 : Each p (l.take i)) : Each p l := by
  rw [List.take_of_length_le (by omega)] at h1; exact h1
theorem Each.at {α : Type} {p : α → Bool} {l : List α} {i : Nat} (h1 : Each p l) (h : i < l.length) : p l[i] = true := h1.h _ (List.getElem_mem h)
theorem drop_eq_step {α : Type} {a b : List α} {i : Nat} (ha : i < a.length) (hb : i < b.length) : a.drop i = b.drop i ↔ a[i] = b[i] ∧ a.drop (i + 1) = b.drop (i + 1) := by
  rw [List.drop_eq_getElem_cons ha, List.drop_eq_getElem_cons hb, List.cons.injEq]
theorem take_succ' {α : Type} {l : List α} {i : Nat} (h : i < l.length) : l.take (i + 1) = l.take i ++ [l[i]] := List.take_succ_eq_append_getElem h
theorem foldl_take {α β : Type} {l : List α} {i : Nat} (h : i < l.length) {f : β → α → β} {b : β} : (l.take (i + 1)).foldl f b = f ((l.take i).foldl f b) l[i] := by rw [take_succ' h, List.foldl_append]; rfl
theorem foldl_range {β : Type} {i : Nat} {f : β → Nat → β} {b : β} : (List.range (i + 1)).foldl f b = f ((List.range i).foldl f b) i := by rw [List.range_succ, List.foldl_append]; rfl
theorem map_take_succ {α β : Type} {l : List α} {i : Nat} (h : i < l.length) {f : α → β} : (l.take (i + 1)).map f = (l.take i).map f ++ [f l[i]] := by rw [take_succ' h, List.map_append]; rfl
theorem map_modify {α β : Type} {f : α → β} {g : β → β} {g' : α → α} (h : ∀ a, g (f a) = f (g' a)) : ∀ {l : List α} {i : Nat}, (l.map f).modify i g = (l.modify i g').map f
  | [], i => by simp
  | a :: l, 0 => by simp [h]
  | a :: l, i + 1 => by simp [map_modify h (l := l)]
@[simp] theorem u8_le {x : UInt8} : ((x.toNat : Int) ≤ 255) = True := by have := x.toNat_lt; simp; omega
@[simp] theorem u32_le {x : UInt32} : ((x.toNat : Int) ≤ 4294967295) = True := by have := x.toNat_lt; simp; omega
section
variable {P : Program} {T : TypeId} {x y : Operand}
@[simp high] theorem binP_xor_u32 {a b : UInt32} : binP P .xor T x y (.int .u32 a.toNat) (.int .u32 b.toNat) = some (pW (a ^^^ b)) := by rw [bin_xor, wrap_by32]; exact congrArg (fun z : UInt32 => some (pW z)) xor_u32
@[simp high] theorem binP_or_u32 {a b : UInt32} : binP P .or T x y (.int .u32 a.toNat) (.int .u32 b.toNat) = some (pW (a ||| b)) := by rw [bin_or, wrap_by32]; exact congrArg (fun z : UInt32 => some (pW z)) or_u32
@[simp high] theorem binP_xor_u8 {a b : UInt8} : binP P .xor T x y (.int .u8 a.toNat) (.int .u8 b.toNat) = some (pY (a ^^^ b)) := by rw [bin_xor, wrap_by8]; exact congrArg (fun z : UInt8 => some (pY z)) xor_u8
@[simp high] theorem binP_or_u8 {a b : UInt8} : binP P .or T x y (.int .u8 a.toNat) (.int .u8 b.toNat) = some (pY (a ||| b)) := by rw [bin_or, wrap_by8]; exact congrArg (fun z : UInt8 => some (pY z)) or_u8
@[simp high] theorem binP_and_u8 {a b : UInt8} : binP P .and T x y (.int .u8 a.toNat) (.int .u8 b.toNat) = some (pY (a &&& b)) := by rw [bin_and, wrap_by8]; exact congrArg (fun z : UInt8 => some (pY z)) and_u8
end
@[simp high] theorem binP_and_u8_one {P : Program} {T : TypeId} {x y : Operand} {a : UInt8} : binP P .and T x y (.int .u8 a.toNat) (.int .u8 1) = some (pY (a &&& 1)) := binP_and_u8 (b := 1)
@[simp] theorem fits_u8 {x : UInt8} : fits (x.toNat : Int) = True := by have := x.toNat_lt; simp [fits]; omega
@[simp] theorem fits_u32 {x : UInt32} : fits (x.toNat : Int) = True := by have := x.toNat_lt; simp [fits]; omega
end Go.V
