/- Reckoning that keeps what is asked aside: what must hold of a number or a place stands in the end, as one condition. -/
import Derived.Test.YtldoffdakikaeaaDoorVM3
import Derived.Deep.Slices
import Derived.ProofKit
import Derived.OpenShut
import Derived.ShutString
import Derived.ChangeOld
import Derived.SizedLaws
import Derived.Below
namespace Go.V
set_option linter.unusedVariables false
set_option linter.unusedSimpArgs false

/-- a run that comes to an end, and what holds there -/
def Ok {α : Type} (m : Option α) (K : α → Prop) : Prop := ∃ x, m = some x ∧ K x
section
variable {α β : Type} {m m' : Option α} {K : α → Prop}
@[congr] theorem Ok_cong (h : m = m') : Ok m K = Ok m' K := by rw [h]
@[simp ↓] theorem Ok_some {x : α} : Ok (some x) K = K x := by simp [Ok]
@[simp] theorem Ok_none : Ok (none : Option α) K = False := by simp [Ok]
@[simp] theorem Ok_bind {f : α → Option β} {K : β → Prop} : Ok (m.bind f) K = Ok m fun x => Ok (f x) K := by
  cases m <;> simp [Ok]
@[simp] theorem Ok_map {f : α → β} {K : β → Prop} : Ok (m.map f) K = Ok m fun x => K (f x) := by
  cases m <;> simp [Ok]
@[simp] theorem Ok_req {c : Prop} [Decidable c] : Ok (if c then m else none) K = (c ∧ (c → Ok m K)) := by
  by_cases h : c <;> simp [Ok, h]
@[simp] theorem Ok_req' {c : Prop} [Decidable c] : Ok (if c then none else m) K = (¬ c ∧ (¬ c → Ok m K)) := by
  by_cases h : c <;> simp [Ok, h]
attribute [simp ↓] Ok_req Ok_req'
@[simp low] theorem Ok_ite {c : Prop} [Decidable c] : Ok (if c then m else m') K = ((c → Ok m K) ∧ (¬ c → Ok m' K)) := by
  by_cases h : c <;> simp [h]
@[simp] theorem Ok_get {l : List α} {i : Nat} : Ok l[i]? K = ∃ h : i < l.length, K l[i] := by
  by_cases h : i < l.length <;> simp [Ok, h]
theorem Ok_mono {K' : α → Prop} (h : ∀ x, K x → K' x) (hk : Ok m K) : Ok m K' := by
  obtain ⟨x, h1, h2⟩ := hk; exact ⟨x, h1, h _ h2⟩
end

/-- a number of 64 bits -/
def fits (n : Int) : Prop := -9223372036854775808 ≤ n ∧ n ≤ 9223372036854775807
instance {n : Int} : Decidable (fits n) := inferInstanceAs (Decidable (_ ∧ _))
theorem fits_iff {n : Int} : fits n ↔ -9223372036854775808 ≤ n ∧ n ≤ 9223372036854775807 := Iff.rfl
theorem fits_wrap {n : Int} (h : fits n) : IntKind.i64.wrap n = n := wrap64 h

/-- bytes by their numbers -/
def by8 (n : Int) : UInt8 := UInt8.ofNat (n % 256).toNat
theorem by8_toNat {n : Int} : ((by8 n).toNat : Int) = n % 256 := by
  unfold by8
  rw [UInt8.toNat_ofNat']
  omega
@[simp] theorem wrap_by8 {n : Int} : IntKind.u8.wrap n = ((by8 n).toNat : Int) := by rw [IntKind.wrap_u8, by8_toNat]
@[simp] theorem by8_self {b : UInt8} : by8 (b.toNat : Int) = b := by
  have := b.toNat_lt
  unfold by8
  have : (((b.toNat : Int)) % 256).toNat = b.toNat := by omega
  rw [this]; simp
abbrev pW (b : UInt32) : PV := .prim (.int .u32 b.toNat)
def by32 (n : Int) : UInt32 := UInt32.ofNat (n % 4294967296).toNat
theorem by32_toNat {n : Int} : ((by32 n).toNat : Int) = n % 4294967296 := by
  unfold by32
  rw [UInt32.toNat_ofNat']
  omega
@[simp] theorem wrap_by32 {n : Int} : IntKind.u32.wrap n = ((by32 n).toNat : Int) := by rw [IntKind.wrap_u32, by32_toNat]
@[simp] theorem by32_self {b : UInt32} : by32 (b.toNat : Int) = b := by
  have := b.toNat_lt
  unfold by32
  have : (((b.toNat : Int)) % 4294967296).toNat = b.toNat := by omega
  rw [this]; simp
/-! ### Sums that must fit -/
def ofI (n : Int) : Option PV := if fits n then some (.prim (.int .i64 n)) else none
theorem ofI_some {n : Int} {x : PV} (h : ofI n = some x) : some (PV.prim (.int .i64 (IntKind.i64.wrap n))) = some x := by
  unfold ofI at h
  split at h
  · rename_i hf; rw [fits_wrap hf]; exact h
  · cases h
def binN (P : Program) (op : BinOp) (T : TypeId) (x y : Operand) : Value → Value → Option PV
  | .int .i64 a, .int k b => match op, k with
    | .add, .i64 => ofI (a + b)
    | .sub, .i64 => ofI (a - b)
    | .mul, .i64 => ofI (a * b)
    | .quo, .i64 => if 0 ≤ a ∧ 0 < b then ofI (a / b) else none
    | .rem, .i64 => if 0 ≤ a ∧ 0 < b then some (.prim (.int .i64 (a % b))) else none
    | .shl, k => if 0 ≤ b ∧ b < 64 then ofI (a * 2 ^ b.toNat) else none
    | .shr, k => if 0 ≤ b ∧ b < 64 then some (.prim (.int .i64 (a / 2 ^ b.toNat))) else none
    | .and, .i64 => if (0 ≤ a ∧ fits a) ∧ 0 ≤ b ∧ fits b then some (.prim (.int .i64 ((a.toNat &&& b.toNat : Nat) : Int))) else none
    | .or, .i64 => if (0 ≤ a ∧ fits a) ∧ 0 ≤ b ∧ fits b then some (.prim (.int .i64 ((a.toNat ||| b.toNat : Nat) : Int))) else none
    | op, k => binP P op T x y (.int .i64 a) (.int k b)
  | .int .u8 a, .int k b => match op with
    | .shl => if 0 ≤ b ∧ b < 8 then some (.prim (.int .u8 (by8 (a * 2 ^ b.toNat)).toNat)) else none
    | .shr => if (0 ≤ a ∧ a ≤ 255) ∧ 0 ≤ b ∧ b < 8 then some (.prim (.int .u8 (by8 (a / 2 ^ b.toNat)).toNat)) else none
    | op => binP P op T x y (.int .u8 a) (.int k b)
  | .int .u32 a, .int k b => match op with
    | .shl => if 0 ≤ b ∧ b < 32 then some (.prim (.int .u32 (by32 (a * 2 ^ b.toNat)).toNat)) else none
    | .shr => if (0 ≤ a ∧ a ≤ 4294967295) ∧ 0 ≤ b ∧ b < 32 then some (.prim (.int .u32 (by32 (a / 2 ^ b.toNat)).toNat)) else none
    | op => binP P op T x y (.int .u32 a) (.int k b)
  | u, v => binP P op T x y u v
theorem pow_pos' (n : Nat) : (0 : Int) < 2 ^ n := Int.pow_pos (by decide)
theorem toNat_i64 {a : Int} (h : 0 ≤ a ∧ fits a) : (BitVec.ofInt IntKind.i64.bits a).toNat = a.toNat := by
  have h1 := h.1
  have h2 := h.2
  unfold fits at h2
  rw [BitVec.toNat_ofInt]
  have : IntKind.i64.bits = 64 := rfl
  rw [this]; omega
theorem binN_ok {P : Program} {op : BinOp} {T : TypeId} {x y : Operand} {u v : Value} {r : PV} (h : binN P op T x y u v = some r) : binP P op T x y u v = some r := by
  unfold binN at h
  split at h
  · split at h
    · rw [bin_add]; exact ofI_some h
    · rw [bin_sub]; exact ofI_some h
    · rw [bin_mul]; exact ofI_some h
    · split at h
      · rename_i hc
        rw [bin_quo (by omega), Int.tdiv_eq_ediv_of_nonneg hc.1]; exact ofI_some h
      · cases h
    · split at h
      · rename_i hc
        rw [bin_rem (by omega), Int.tmod_eq_emod_of_nonneg hc.1]; exact h
      · cases h
    · split at h
      · rename_i hc
        have hm : ∀ b : Int, b < 64 → min b.toNat IntKind.i64.bits = b.toNat := by intro b hb; have : IntKind.i64.bits = 64 := rfl; omega
        have hm := hm _ hc.2
        rw [bin_shl (by omega), hm]; exact ofI_some h
      · cases h
    · split at h
      · rename_i hc
        have hm : ∀ b : Int, b < 64 → min b.toNat IntKind.i64.bits = b.toNat := by intro b hb; have : IntKind.i64.bits = 64 := rfl; omega
        have hm := hm _ hc.2
        rw [bin_shr (by omega), hm, Int.fdiv_eq_ediv_of_nonneg _ (Int.le_of_lt (pow_pos' _))]; exact h
      · cases h
    · split at h
      · rename_i hc
        rw [bin_and, BitVec.toNat_and, toNat_i64 hc.1, toNat_i64 hc.2]
        have hl : ∀ a b : Int, 0 ≤ a ∧ fits a → fits ((a.toNat &&& b.toNat : Nat) : Int) := by
          intro a b ha
          have h1 := ha.2
          unfold fits at h1 ⊢
          have := Nat.and_le_left (n := a.toNat) (m := b.toNat)
          omega
        rw [fits_wrap (hl _ _ hc.1)]; exact h
      · cases h
    · split at h
      · rename_i hc
        rw [bin_or, BitVec.toNat_or, toNat_i64 hc.1, toNat_i64 hc.2]
        have hl : ∀ a b : Int, 0 ≤ a ∧ fits a → 0 ≤ b ∧ fits b → fits ((a.toNat ||| b.toNat : Nat) : Int) := by
          intro a b ha hb
          have h1 := ha.2
          have h2 := hb.2
          unfold fits at h1 h2 ⊢
          have := Nat.or_lt_two_pow (x := a.toNat) (y := b.toNat) (n := 63) (by omega) (by omega)
          omega
        rw [fits_wrap (hl _ _ hc.1 hc.2)]; exact h
      · cases h
    · exact h
  · split at h
    · split at h
      · rename_i hc
        have hm : ∀ b : Int, b < 8 → min b.toNat IntKind.u8.bits = b.toNat := by intro b hb; have : IntKind.u8.bits = 8 := rfl; omega
        have hm := hm _ hc.2
        rw [bin_shl (by omega), hm, wrap_by8]; exact h
      · cases h
    · split at h
      · rename_i hc
        have hm : ∀ b : Int, b < 8 → min b.toNat IntKind.u8.bits = b.toNat := by intro b hb; have : IntKind.u8.bits = 8 := rfl; omega
        have hm := hm _ hc.2.2
        rw [bin_shr (by omega), hm, Int.fdiv_eq_ediv_of_nonneg _ (Int.le_of_lt (pow_pos' _))]
        rw [by8_toNat] at h
        have h3 : ∀ a b : Int, 0 ≤ a → a < 256 → a / 2 ^ b.toNat % 256 = a / 2 ^ b.toNat := by
          intro a b ha hb
          have h1 : 0 ≤ a / 2 ^ b.toNat := Int.ediv_nonneg ha (Int.le_of_lt (pow_pos' _))
          have h2 : a / 2 ^ b.toNat ≤ a := Int.ediv_le_self _ ha
          omega
        rw [h3 _ _ hc.1.1 (by omega)] at h; exact h
      · cases h
    · exact h
  · split at h
    · split at h
      · rename_i hc
        have hm : ∀ b : Int, b < 32 → min b.toNat IntKind.u32.bits = b.toNat := by intro b hb; have : IntKind.u32.bits = 32 := rfl; omega
        have hm := hm _ hc.2
        rw [bin_shl (by omega), hm, wrap_by32]; exact h
      · cases h
    · split at h
      · rename_i hc
        have hm : ∀ b : Int, b < 32 → min b.toNat IntKind.u32.bits = b.toNat := by intro b hb; have : IntKind.u32.bits = 32 := rfl; omega
        have hm := hm _ hc.2.2
        rw [bin_shr (by omega), hm, Int.fdiv_eq_ediv_of_nonneg _ (Int.le_of_lt (pow_pos' _))]
        rw [by32_toNat] at h
        have h3 : ∀ a b : Int, 0 ≤ a → a < 4294967296 → a / 2 ^ b.toNat % 4294967296 = a / 2 ^ b.toNat := by
          intro a b ha hb
          have h1 : 0 ≤ a / 2 ^ b.toNat := Int.ediv_nonneg ha (Int.le_of_lt (pow_pos' _))
          have h2 : a / 2 ^ b.toNat ≤ a := Int.ediv_le_self _ ha
          omega
        rw [h3 _ _ hc.1.1 (by omega)] at h; exact h
      · cases h
    · exact h
  · exact h

/-- one operation, whose numbers must fit -/
def semN (E : Env) (o : Oper) (F : RF) : Option RF :=
  match o.op with
  | .binOp op X x y Y => (E.vl F x).bind fun u => (E.vl F y).bind fun v => (binN E.P op X x y u v).map fun r => setD F o.dst (.val r)
  | .convert S D x => match E.P.underlying S, E.P.underlying D with
    | some (.int _), some (.int .i64) => (E.vl F x).bind fun v => match v with
      | .int _ n => (ofI n).map fun r => setD F o.dst (.val r)
      | _ => none
    | some (.int _), some (.int k) => (E.vl F x).bind fun v => match v with
      | .int _ n => some (setD F o.dst (.val (.prim (.int k (k.wrap n)))))
      | _ => none
    | _, _ => sem E o F
  | _ => sem E o F
theorem conv_int' {E : Env} {F : RF} {o : Oper} {S D : TypeId} {x : Operand} {k0 k k1 : IntKind} {n : Int} (ho : o.op = .convert S D x) (hS : E.P.underlying S = some (.int k0)) (hD : E.P.underlying D = some (.int k)) (hv : E.vl F x = some (.int k1 n)) :
    semConv E o S D x F = some (setD F o.dst (.val (.prim (.int k (k.wrap n))))) := by
  unfold semConv
  rw [hS, hD]
  show semPure E o F = _
  unfold semPure
  rw [ho]
  rw [if_neg (by simp [isSel])]
  simp only [Op.operands, List.all_cons, List.all_nil, hv, Option.isSome_some, Bool.and_self, if_true, execOp, ho, Option.getD_some]
  have hu : pureRun E.P (convert S D (.int k1 n)) = some (.int k (k.wrap n)) := by
    unfold convert
    have h1 : pureRun E.P (underlying S) = some (.int k0) := pureRun_underlying hS
    have h2 : pureRun E.P (underlying D) = some (.int k) := pureRun_underlying hD
    rw [pureRun_bind, h1, Option.bind_some, pureRun_bind, h2, Option.bind_some]
    simp [Conv.intToInt, pureRun_pure]
  rw [pureRun_bind, hu]
  simp [pureRun_pure, ofVal, ofVal1, flat]
theorem semN_ok {E : Env} {o : Oper} {F F' : RF} (h : semN E o F = some F') : sem E o F = some F' := by
  obtain ⟨d, op, T, pos, af, g⟩ := o
  unfold semN at h
  split at h
  · rename_i bo X x y Y ho
    simp only at ho; subst ho
    simp only [Option.bind_eq_some_iff, Option.map_eq_some_iff] at h
    obtain ⟨u, hu, v, hv, r, hr, rfl⟩ := h
    rw [sem_bin, hu, hv]
    simp only [Option.bind_some, binN_ok hr, Option.map_some]
  · rename_i S D x ho
    simp only at ho; subst ho
    split at h
    · rename_i hS hD
      simp only [Option.bind_eq_some_iff] at h
      obtain ⟨v, hv, h⟩ := h
      split at h
      · simp only [Option.map_eq_some_iff] at h
        obtain ⟨r, hr, rfl⟩ := h
        show semConv E _ S D x F = _
        rw [conv_int' rfl hS hD hv]
        have := ofI_some hr
        rw [Option.some.inj this]
      · cases h
    · rename_i hS hD
      simp only [Option.bind_eq_some_iff] at h
      obtain ⟨v, hv, h⟩ := h
      split at h
      · show semConv E _ S D x F = _
        rw [conv_int' rfl hS hD hv]; exact h
      · cases h
    · exact h
  · exact h
def stepN (E : Env) (ops : Array Oper) (o : Oper) (F : RF) : Option RF :=
  if dstOk E o = true then
    match o.guard with
    | none => semN E o F
    | some (j, want) => match (ops[j]?).bind (·.dst) with
      | some t => (F.content t).bind fun c => match c with
        | .prim (.bool b) => if t < E.nt then (if b = want then semN E o F else some (setD F o.dst (.val (.tup [])))) else none
        | .tup [] => if t < E.nt then some (setD F o.dst (.val (.tup []))) else none
        | _ => none
      | none => none
  else none
theorem stepN_ok {E : Env} {ops : Array Oper} {o : Oper} {F F' : RF} (h : stepN E ops o F = some F') : step E ops o F = some F' := by
  unfold stepN at h
  unfold step
  split at h
  · rename_i hd
    rw [if_pos hd]
    split at h
    · rename_i hg; simp only [hg]; exact semN_ok h
    · rename_i j want hg
      simp only [hg]
      split at h
      · rename_i t ht
        rw [ht]
        simp only [Option.bind_eq_some_iff] at h
        obtain ⟨c, hc, h⟩ := h
        simp only [hc]
        split at h
        · simp only
          split at h
          · rename_i hn
            rw [if_pos hn]
            split at h
            · rename_i hb; rw [if_pos hb]; exact semN_ok h
            · rename_i hb; rw [if_neg hb]; exact h
          · cases h
        · exact h
        · cases h
      · cases h
  · cases h
def runSN (E : Env) (ops : Array Oper) : List Oper → RF → Option RF
  | [], F => some F
  | o :: os, F => (stepN E ops o F).bind fun F' => runSN E ops os F'
theorem runSN_ok {E : Env} {ops : Array Oper} : ∀ {os : List Oper} {F F' : RF}, runSN E ops os F = some F' → runS E ops os F = some F'
  | [], F, F', h => h
  | o :: os, F, F', h => by
    simp only [runSN, Option.bind_eq_some_iff] at h
    obtain ⟨F1, h1, h2⟩ := h
    simp only [runS, stepN_ok h1, Option.bind_some]
    exact runSN_ok h2

/-! ### Drawn rows -/
def recN (E : Env) (ops : Array Oper) : List Oper → RF → Option (List Rec × RF)
  | [], F => some ([], F)
  | o :: os, F => (stepN E ops o (maskA F (o.dst.toList ++ rootsA F (atA E o.op.operands.toList ++ guardTmps ops o.guard)) (o.dst.toList ++ rootsA F (atA E o.op.operands.toList ++ guardTmps ops o.guard)))).bind fun F1 =>
    if keysOk (o.dst.toList ++ rootsA F (atA E o.op.operands.toList ++ guardTmps ops o.guard)) (delta (o.dst.toList ++ rootsA F (atA E o.op.operands.toList ++ guardTmps ops o.guard)).length F1) = true ∧
        dstIn o (delta (o.dst.toList ++ rootsA F (atA E o.op.operands.toList ++ guardTmps ops o.guard)).length F1) = true then
      (recN E ops os (F.sets (delta (o.dst.toList ++ rootsA F (atA E o.op.operands.toList ++ guardTmps ops o.guard)).length F1))).map fun q =>
        (⟨o, o.dst.toList ++ rootsA F (atA E o.op.operands.toList ++ guardTmps ops o.guard), delta (o.dst.toList ++ rootsA F (atA E o.op.operands.toList ++ guardTmps ops o.guard)).length F1⟩ :: q.1, q.2)
    else none
theorem recN_ok {E : Env} {ops : Array Oper} : ∀ {os : List Oper} {F : RF} {q : List Rec × RF}, recN E ops os F = some q → record E ops os F = some q
  | [], F, q, h => h
  | o :: os, F, q, h => by
    simp only [recN, Option.bind_eq_some_iff] at h
    obtain ⟨F1, h1, h2⟩ := h
    rw [record_cons, recA, stepN_ok h1, recB, recC]
    split at h2
    · rename_i hc
      rw [if_pos hc]
      simp only [Option.map_eq_some_iff] at h2 ⊢
      obtain ⟨r, hr, e⟩ := h2
      exact ⟨r, recN_ok hr, e⟩
    · cases h2
def drawN (E : Env) (ops : Array Oper) (F : RF) : Option RF :=
  (recN E ops ops.toList F).bind fun q => if drawOk ops.toList q.1 = true then some q.2 else none
theorem drawN_ok {E : Env} {ops : Array Oper} {F F' : RF} (h : drawN E ops F = some F') : draw E ops F = some F' := by
  unfold drawN at h
  unfold draw
  simp only [Option.bind_eq_some_iff] at h ⊢
  obtain ⟨q, h1, h2⟩ := h
  exact ⟨q, recN_ok h1, h2⟩
def runN (E : Env) (ops : Array Oper) (dr : Bool) (F : RF) : Option RF := if dr = true then drawN E ops F else runSN E ops ops.toList F
theorem runN_ok {E : Env} {ops : Array Oper} {dr : Bool} {F F' : RF} (h : runN E ops dr F = some F') : runR E (draw E) ops dr F = some F' := by
  unfold runN at h
  unfold runR
  split at h
  · rename_i hd; rw [if_pos hd]; exact drawN_ok h
  · rename_i hd; rw [if_neg hd]; exact runSN_ok h

/-! ### A text -/
def asB (v : Value) (Q : Bool → Prop) : Prop := match v with
  | .bool t => Q t
  | _ => False
theorem asB_bool {t : Bool} {Q : Bool → Prop} : asB (.bool t) Q = Q t := rfl
/-- a row's last operation asks whether a slice is nil -/
def nilOp (ops : List Oper) : Bool := match ops.getLast? with
  | some o => match o.op with
    | .binOp .eql _ _ (.const (.slice none 0 0)) _ => true
    | _ => false
  | none => false
def slP (y : PV) (Q : List PV → Prop) : Prop := match y with
  | .sl _ _ xs => Q xs
  | _ => False
def lastN (E : Env) (o : Option Oper) (F : RF) (k : RF → Prop) : Prop := match o with
  | some o => match o.op with
    | .binOp .eql T x (.const (.slice none 0 0)) _ => (o.guard = none ∧ dstOk E o = true ∧ (E.at x).isSome = true) ∧ Ok o.dst fun d => Ok (E.P.underlying T) fun u => (match u with | .slice _ => True | _ => False) ∧ Ok (E.rd F T x) fun y => slP y fun xs => ∀ b : Bool, (b = true → xs = []) → k (F.set d (.val (.prim (.bool b))))
    | _ => False
  | none => False
def nilC (E : Env) (ops : List Oper) (F : RF) (k : RF → Prop) : Prop := Ok (runSN E ops.toArray ops.dropLast F) fun F1 => lastN E ops.getLast? F1 k
theorem nilC_mono {E : Env} {ops : List Oper} {F : RF} {k k' : RF → Prop} (hk : ∀ F, k F → k' F) (h : nilC E ops F k) : nilC E ops F k' := by
  refine Ok_mono (fun F1 h => ?_) h
  unfold lastN at h ⊢
  split at h
  · split at h
    · obtain ⟨h1, h3⟩ := h
      refine ⟨h1, Ok_mono (fun d h => Ok_mono (fun u h => ⟨h.1, Ok_mono (fun y h => ?_) h.2⟩) h) h3⟩
      unfold slP at h ⊢
      split at h
      · exact fun b hb => hk _ (h b hb)
      · exact h
    · exact h
  · exact h
theorem runS_append {E : Env} {A : Array Oper} : ∀ {as bs : List Oper} {F : RF}, runS E A (as ++ bs) F = (runS E A as F).bind fun F' => runS E A bs F'
  | [], bs, F => by simp [runS]
  | a :: as, bs, F => by
    simp only [List.cons_append, runS]
    cases step E A a F with
    | none => simp
    | some F1 => simp [runS_append (as := as)]
theorem nilC_last {E : Env} {ops : List Oper} {F : RF} {k : RF → Prop} (h : nilC E ops F k) : runS E ops.toArray ops F = none ∧ nilLast E ops F k := by
  obtain ⟨F1, h1, h2⟩ := h
  unfold lastN at h2
  split at h2
  case h_2 => exact h2.elim
  rename_i o ho
  split at h2
  case h_2 => exact h2.elim
  rename_i T x S hop
  obtain ⟨⟨hg, hd, hat⟩, d, hdd, u, hu, h3, y, hy, h4⟩ := h2
  unfold slP at h4
  split at h4
  case h_2 => exact h4.elim
  rename_i f sz xs
  cases u with
  | slice e =>
    have hne : ops ≠ [] := by rintro rfl; simp at ho
    have hl : ops = ops.dropLast ++ [o] := by
      have := List.dropLast_concat_getLast hne
      rw [List.getLast?_eq_some_getLast hne] at ho
      rw [Option.some.inj ho] at this; exact this.symm
    refine ⟨?_, ?_⟩
    · have hst : step E ops.toArray o F1 = none := by
        obtain ⟨d', op, T', pos, af, g⟩ := o
        simp only at hop hg
        subst hop hg
        unfold step
        rw [if_pos hd]
        show sem E _ F1 = none
        rw [sem_bin]
        obtain ⟨t, ht⟩ := Option.isSome_iff_exists.1 hat
        have : E.vl F1 x = none := by
          unfold Env.rd at hy
          rw [ht] at hy
          simp only at hy
          unfold Env.vl
          rw [ht]
          simp only [hy, Option.bind_some]
          rfl
        rw [this]; rfl
      have h5 : runS E ops.toArray (ops.dropLast ++ [o]) F = none := by
        rw [runS_append, runSN_ok h1]
        simp only [Option.bind_some, runS, hst, Option.bind_none]
      rw [← hl] at h5; exact h5
    exact ⟨ops.dropLast, o, d, T, x, S, f, sz, xs, e, F1, hl, hop, hg, hdd, hd, hu, runSN_ok h1, hy, h4⟩
  | _ => exact h3.elim
def wpo (E : Env) : Code → (Exit → RF → Prop) → RF → Prop
  | .skip, K, F => K .normal F
  | .region id ops dr, K, F => if nilOp ops.toList = true then dr = false ∧ nilC E ops.toList F (fun F' => K .normal (F'.prune (E.keep id))) else Ok (runN E ops dr F) fun F' => K .normal (F'.prune (E.keep id))
  | .seq a b, K, F => wpo E a (fun e F' => match e with | .normal => wpo E b K F' | e => K e F') F
  | .cond c a b, K, F => Ok (E.vl F c) fun v => asB v fun t => (t = true → wpo E a K F) ∧ (t = false → wpo E b K F)
  | .block id c, K, F => wpo E c (fun e F' => match e with | .exit i => if i = id then K .normal F' else K (.exit i) F' | e => K e F') F
  | .loop c, K, F => ∃ n, itr (wpo E c) K n F
  | .exit id, K, F => K (.exit id) F
  | .ret, K, F => K .ret F
  | _, _, _ => False
theorem itr_mono' {b b' : (Exit → RF → Prop) → RF → Prop} (hb : ∀ (K K' : Exit → RF → Prop) (F : RF), (∀ e F', K e F' → K' e F') → b K F → b' K' F) {K K' : Exit → RF → Prop} (hK : ∀ e F', K e F' → K' e F') :
    ∀ {n : Nat} {F : RF}, itr b K n F → itr b' K' n F
  | 0, F, h => h
  | n + 1, F, h => by
    simp only [itr] at h ⊢
    refine hb _ _ _ ?_ h
    intro e F' he
    cases e with
    | normal => exact itr_mono' hb hK he
    | _ => exact hK _ _ he
theorem wpo_wpx {E : Env} : ∀ {c : Code} {K K' : Exit → RF → Prop} {F : RF}, (∀ e F', K e F' → K' e F') → wpo E c K F → wpx E (draw E) c K' F := by
  intro c
  induction c with
  | skip => intro K K' F hK h; exact hK _ _ h
  | region id ops dr =>
    intro K K' F hK h
    simp only [wpo] at h
    split at h
    · obtain ⟨rfl, h⟩ := h
      obtain ⟨hn, hl⟩ := nilC_last (nilC_mono (fun _ h => hK _ _ h) h)
      have hn' : runR E (draw E) ops false F = none := hn
      simp only [wpx, hn']
      exact ⟨trivial, hl⟩
    · obtain ⟨F1, h1, h2⟩ := h
      simp only [wpx, runN_ok h1]
      exact hK _ _ h2
  | seq x y ihx ihy =>
    intro K K' F hK h
    simp only [wpo] at h
    simp only [wpx]
    refine ihx ?_ h
    intro e F' he
    cases e with
    | normal => exact ihy hK he
    | _ => exact hK _ _ he
  | cond v x y ihx ihy =>
    intro K K' F hK h
    simp only [wpo] at h
    obtain ⟨u, hu, h⟩ := h
    simp only [wpx, hu]
    cases u with
    | bool t =>
      simp only [asB] at h
      cases t with
      | true => exact ihx hK (h.1 rfl)
      | false => exact ihy hK (h.2 rfl)
    | _ => exact h
  | block id c ih =>
    intro K K' F hK h
    simp only [wpo] at h
    simp only [wpx]
    refine ih ?_ h
    intro e F' he
    cases e with
    | exit i =>
      simp only at he ⊢
      split
      · rename_i e; rw [if_pos e] at he; exact hK _ _ he
      · rename_i e; rw [if_neg e] at he; exact hK _ _ he
    | _ => exact hK _ _ he
  | loop c ih =>
    intro K K' F hK h
    simp only [wpo] at h
    simp only [wpx]
    obtain ⟨n, hn⟩ := h
    exact ⟨n, itr_mono' (b := wpo E c) (b' := wpx E (draw E) c) (fun _ _ _ hK h => ih hK h) hK hn⟩
  | exit id => intro K K' F hK h; exact hK _ _ h
  | ret => intro K K' F hK h; exact hK _ _ h
  | _ => intro K K' F hK h; exact h.elim
theorem wpo_mono {E : Env} : ∀ {c : Code} {K K' : Exit → RF → Prop} {F : RF}, (∀ e F', K e F' → K' e F') → wpo E c K F → wpo E c K' F := by
  intro c
  induction c with
  | skip => intro K K' F hK h; exact hK _ _ h
  | region id ops dr =>
    intro K K' F hK h
    simp only [wpo] at h ⊢
    split at h
    · rename_i hc; rw [if_pos hc]; exact ⟨h.1, nilC_mono (fun _ h => hK _ _ h) h.2⟩
    · rename_i hc; rw [if_neg hc]; exact Ok_mono (fun _ h => hK _ _ h) h
  | seq x y ihx ihy =>
    intro K K' F hK h
    simp only [wpo] at h ⊢
    refine ihx ?_ h
    intro e F' he
    cases e with
    | normal => exact ihy hK he
    | _ => exact hK _ _ he
  | cond v x y ihx ihy =>
    intro K K' F hK h
    simp only [wpo] at h ⊢
    obtain ⟨u, hu, h⟩ := h
    refine ⟨u, hu, ?_⟩
    cases u with
    | bool t => simp only [asB] at h ⊢; exact ⟨fun e => ihx hK (h.1 e), fun e => ihy hK (h.2 e)⟩
    | _ => exact h
  | block id c ih =>
    intro K K' F hK h
    simp only [wpo] at h ⊢
    refine ih ?_ h
    intro e F' he
    cases e with
    | exit i =>
      simp only at he ⊢
      split
      · rename_i e; rw [if_pos e] at he; exact hK _ _ he
      · rename_i e; rw [if_neg e] at he; exact hK _ _ he
    | _ => exact hK _ _ he
  | loop c ih =>
    intro K K' F hK h
    simp only [wpo] at h ⊢
    obtain ⟨n, hn⟩ := h
    exact ⟨n, itr_mono' (b := wpo E c) (b' := wpo E c) (fun _ _ _ hK h => ih hK h) hK hn⟩
  | exit id => intro K K' F hK h; exact hK _ _ h
  | ret => intro K K' F hK h; exact hK _ _ h
  | _ => intro K K' F hK h; exact h.elim

theorem loopo_ {E : Env} {c : Code} {K : Exit → RF → Prop} {σ : Type} (J : σ → Prop) (I : σ → RF) (m : σ → Nat)
    (h : ∀ s, J s → wpo E c (fun e F' => match e with | .normal => ∃ s', J s' ∧ m s' < m s ∧ F' = I s' | e => K e F') (I s)) {s : σ} {F : RF} (hF : F = I s) (hs : J s) : wpo E (.loop c) K F := by
  subst hF
  have key : ∀ n s, J s → m s < n → itr (wpo E c) K n (I s) := by
    intro n
    induction n with
    | zero => intro s _ hm; omega
    | succ n ih =>
      intro s hs hm
      refine wpo_mono ?_ (h s hs)
      intro e F' he
      cases e with
      | normal => obtain ⟨s', h1, h2, rfl⟩ := he; exact ih s' h1 (by omega)
      | _ => exact he
  exact ⟨m s + 1, key _ s hs (Nat.lt_succ_self _)⟩

/-- a mark that keeps what it marks from being looked into -/
structure Shut' {α : Type} (a : α) : Type where
/-- a loop that is come to -/
def LoopK (E : Env) (c : Code) (K : Exit → RF → Prop) (F : RF) (t : Shut' (E, c, K)) : Prop := wpo E (.loop c) K F
theorem wpo_loop {E : Env} {c : Code} {K : Exit → RF → Prop} {p : Tmp × Slot × Nat × Nat} {F : RF} : wpo E (.loop c) K (p :: F) = LoopK E c K (p :: F) ⟨⟩ := by unfold LoopK; rfl
theorem loopo {E : Env} {c : Code} {K : Exit → RF → Prop} {σ : Type} {t : Shut' (E, c, K)} (J : σ → Prop) (I : σ → RF) (m : σ → Nat)
    (h : ∀ s, J s → wpo E c (fun e F' => match e with | .normal => ∃ s', J s' ∧ m s' < m s ∧ F' = I s' | e => K e F') (I s)) {s : σ} {F : RF} (hF : F = I s) (hs : J s) : LoopK E c K F t :=
  loopo_ J I m h hF hs
/-- a function by its text, told with what is asked kept aside -/
theorem impl_o {α : Type} {enc : α → List PV} {ok : α → Prop} {res : α → PV × List PV} {E : Env} (hT : TblOk E) (hm : E.P.follows .mixedOrders = true) {f : FuncId} {fn : Func} {c : Code} (hf : E.P.funcs[f]? = some fn)
    (hb : fn.body = some c) (hn : fn.ntmps = E.nt)
    (h : ∀ a, ok a → (enc a).length ≤ E.nt ∧ wpo { E with pin := pinned 0 (enc a) } c
      (fun e F' => (e = .normal ∨ e = .ret) ∧ fin { E with pin := pinned 0 (enc a) } fn (enc a) F' = some (res a)) (init { E with pin := pinned 0 (enc a) } (enc a))) : Impl E.P E.G f (spec enc ok res) :=
  impl_spec hT hm hf hb hn fun a ha => ⟨(h a ha).1, wpo_wpx (fun _ _ h => h) (h a ha).2⟩

/-- the same; what may be written through is told beforehand -/
theorem impl_p {α : Type} {enc : α → List PV} {ok : α → Prop} {res : α → PV × List PV} {E : Env} (hT : TblOk E) (hm : E.P.follows .mixedOrders = true) {f : FuncId} {fn : Func} {c : Code} (hf : E.P.funcs[f]? = some fn)
    (hb : fn.body = some c) (hn : fn.ntmps = E.nt) (hp : ∀ a, pinned 0 (enc a) = E.pin)
    (h : ∀ a, ok a → (enc a).length ≤ E.nt ∧ wpo E c (fun e F' => (e = .normal ∨ e = .ret) ∧ fin E fn (enc a) F' = some (res a)) (init E (enc a))) : Impl E.P E.G f (spec enc ok res) := by
  refine impl_o hT hm hf hb hn fun a ha => ?_
  have e : ({ E with pin := pinned 0 (enc a) } : Env) = E := by rw [hp a]
  rw [e]; exact h a ha
/-- a contract that is called -/
theorem Ok_spec {α : Type} {enc : α → List PV} {ok : α → Prop} {res : α → PV × List PV} {K : PV × List PV → Prop} (hi : ∀ a b, enc a = enc b → a = b) (a : α) : Ok (spec enc ok res (enc a)) K = (ok a ∧ K (res a)) := by
  by_cases h : ok a
  · rw [spec_eq (fun a b h => by rw [hi a b h]) a h rfl]; simp [h]
  · have : spec enc ok res (enc a) = none := by
      unfold spec
      rw [dif_neg]
      rintro ⟨b, h1, h2⟩
      exact h (hi b a h1 ▸ h2)
    rw [this]; simp [h]

/-! ### Calls -/
def fnOf : PV → Option (FuncId × List PV)
  | .fn f caps => some (f, caps)
  | _ => none
def callM (r : PV) (d : Option Tmp) (F : RF) : List PV → List Tmp → List Tmp → Option RF
  | [], [], ls => if ls = [] ∨ r.allOwn = true then some (setD F d (.val r)) else giveF r d F ls
  | [out], [m], ls => if (ls = [] ∨ (r.allOwn = true ∧ out.allOwn = true)) ∧ ls.contains m = false ∧ out.notTup = true then some (setD ((F.set m .dead).set m (.val out)) d (.val r)) else none
  | _, _, _ => none
theorem sem_callN {E : Env} {F : RF} {d : Option Tmp} {T : TypeId} {f : Operand} {as : Array Operand} {ts : Array TypeId} {pos : String} {af : Array Edge} {g : Option (Nat × Bool)} :
    sem E { dst := d, op := .call { callee := .value f, args := as, argTypes := ts }, type := T, pos := pos, after := af, guard := g } F =
      (E.rd F 0 f).bind fun y => (fnOf y).bind fun q => if callable E.P q.1 = true ∧ noOwnL q.2 = true then
        (E.args F (fun k => ts.getD k 0) 0 as.toList).bind fun as => (E.tbl q.1 (as.map Arg.pv ++ q.2)).bind fun r => callM r.1 d F r.2 (muts as) (lents as)
      else none := by
  rw [sem_callv]
  unfold semCall
  simp only
  cases h : E.rd F 0 f with
  | none => simp
  | some y =>
    cases y with
    | fn fid caps =>
      simp only [fnOf, Option.bind_some]
      split
      · cases h2 : E.args F (fun k => ts.getD k 0) 0 as.toList with
        | none => simp
        | some as' =>
          simp only [Option.bind_some]
          cases h3 : E.tbl fid (as'.map Arg.pv ++ caps) with
          | none => rfl
          | some r =>
            obtain ⟨r, outs⟩ := r
            simp only [Option.bind_some]
            unfold callM
            rcases outs with _ | ⟨o1, _ | ⟨o2, os⟩⟩ <;> rcases muts as' with _ | ⟨m1, _ | ⟨m2, ms⟩⟩ <;> rfl
      · rfl
    | _ => simp [fnOf]

/-! ### Rows of encoded things -/
section
variable {α : Type} {f : α → PV} {l : List α}
@[simp] theorem frzL_map : frzL (l.map f) = l.map fun a => (f a).frz := by rw [frzL_eq_map, List.map_map]; rfl
theorem noOwnL_map (h : ∀ a, (f a).noOwn = true) : noOwnL (l.map f) = true := by
  induction l with
  | nil => simp [noOwnL]
  | cons a l ih => simp [noOwnL, h, ih]
@[simp] theorem noOwnL_map' : noOwnL (l.map f) = l.all fun a => (f a).noOwn := by
  induction l with
  | nil => simp [noOwnL]
  | cons a l ih => simp [noOwnL, ih]
@[simp] theorem allOwnL_map' : allOwnL (l.map f) = l.all fun a => (f a).allOwn := by
  induction l with
  | nil => simp [allOwnL]
  | cons a l ih => simp [allOwnL, ih]
theorem noOwnL_app {xs ys : List PV} : noOwnL (xs ++ ys) = (noOwnL xs && noOwnL ys) := by
  induction xs with
  | nil => simp [noOwnL]
  | cons a l ih => simp [noOwnL, ih, Bool.and_assoc]
theorem all_true' {l : List α} : (l.all fun _ => true) = true := by simp
end
abbrev pI (n : Int) : PV := .prim (.int .i64 n)
abbrev pB (b : Bool) : PV := .prim (.bool b)
abbrev pY (b : UInt8) : PV := .prim (.int .u8 b.toNat)

/-! ### The rules -/
section
variable {E : Env} {K : Exit → RF → Prop} {p : Tmp × Slot × Nat × Nat} {F : RF}
theorem wpo_skip : wpo E .skip K F = K .normal F := rfl
theorem wpo_exit {i : Nat} : wpo E (.exit i) K F = K (.exit i) F := rfl
theorem wpo_ret : wpo E .ret K F = K .ret F := rfl
theorem wpo_region {i : Nat} {ops : Array Oper} {b : Bool} : wpo E (.region i ops b) K (p :: F) = if nilOp ops.toList = true then b = false ∧ nilC E ops.toList (p :: F) (fun F' => K .normal (F'.prune (E.keep i))) else Ok (runN E ops b (p :: F)) fun F' => K .normal (F'.prune (E.keep i)) := rfl
theorem wpo_region0 {i : Nat} {ops : Array Oper} {b : Bool} : wpo E (.region i ops b) K [] = if nilOp ops.toList = true then b = false ∧ nilC E ops.toList [] (fun F' => K .normal (F'.prune (E.keep i))) else Ok (runN E ops b []) fun F' => K .normal (F'.prune (E.keep i)) := rfl
theorem wpo_seq {a b : Code} : wpo E (.seq a b) K (p :: F) = wpo E a (fun e F' => match e with | .normal => wpo E b K F' | e => K e F') (p :: F) := rfl
theorem wpo_seq0 {a b : Code} : wpo E (.seq a b) K [] = wpo E a (fun e F' => match e with | .normal => wpo E b K F' | e => K e F') [] := rfl
theorem wpo_block {i : Nat} {c : Code} : wpo E (.block i c) K (p :: F) = wpo E c (fun e F' => match e with | .exit j => if j = i then K .normal F' else K (.exit j) F' | e => K e F') (p :: F) := rfl
theorem wpo_block0 {i : Nat} {c : Code} : wpo E (.block i c) K [] = wpo E c (fun e F' => match e with | .exit j => if j = i then K .normal F' else K (.exit j) F' | e => K e F') [] := rfl
end
@[congr] theorem wpo_cong {E : Env} {c : Code} {K : Exit → RF → Prop} {F F' : RF} (h : F = F') : wpo E c K F = wpo E c K F' := by rw [h]
section
variable {E : Env} {ops : Array Oper} {F : RF} {o : Oper} {os : List Oper} {K : RF → Prop} {d : Option Tmp} {T : TypeId} {pos : String} {af : Array Edge}
theorem Ok_runN0 : Ok (runN E ops false F) K = Ok (runSN E ops ops.toList F) K := rfl
theorem Ok_runN1 : Ok (runN E ops true F) K = Ok (recN E ops ops.toList F) fun q => drawOk ops.toList q.1 = true ∧ K q.2 := by
  simp only [runN, if_true, drawN]
  rw [Ok_bind]
  congr 1
  funext q
  by_cases h : drawOk ops.toList q.1 = true <;> simp [h]
theorem Ok_runSN_nil : Ok (runSN E ops [] F) K = K F := by simp [runSN]
theorem Ok_runSN_any : Ok (runSN E ops (o :: os) F) K = Ok (stepN E ops o F) fun F' => Ok (runSN E ops os F') K := by simp only [runSN, Ok_bind]
theorem Ok_runSN_cons {p : Tmp × Slot × Nat × Nat} : Ok (runSN E ops (o :: os) (p :: F)) K = Ok (stepN E ops o (p :: F)) fun F' => Ok (runSN E ops os F') K := Ok_runSN_any
theorem Ok_runSN_cons0 : Ok (runSN E ops (o :: os) []) K = Ok (stepN E ops o []) fun F' => Ok (runSN E ops os F') K := Ok_runSN_any
theorem runSN_cong {F' : RF} (h : F = F') : runSN E ops os F = runSN E ops os F' := by rw [h]
def Nf {α : Type} (x : α) (K : α → Prop) : Prop := K x
theorem Nf_eq {α : Type} {x : α} {K : α → Prop} : Nf x K = K x := by unfold Nf; rfl
theorem Nf_cong {α : Type} {x x' : α} {K : α → Prop} (h : x = x') : Nf x K = Nf x' K := by rw [h]
/-- a drawn row, what was told of its first ones in a row turned round -/
def recM (E : Env) (ops : Array Oper) (os : List Oper) (F : RF) (acc : List Rec) (K : List Rec → RF → Prop) : Prop := Ok (recN E ops os F) fun q => K (acc.reverse ++ q.1) q.2
theorem recM_cong {F' : RF} {acc : List Rec} {K : List Rec → RF → Prop} (h : F = F') : recM E ops os F acc K = recM E ops os F' acc K := by rw [h]
theorem recM_nil {acc : List Rec} {K : List Rec → RF → Prop} : recM E ops [] F acc K = K (List.reverseAux acc []) F := by simp [recM, recN]
theorem rv_nil {l : List Rec} : List.reverseAux [] l = l := rfl
theorem rv_cons {r : Rec} {k l : List Rec} : List.reverseAux (r :: k) l = List.reverseAux k (r :: l) := rfl
theorem recM_any {acc : List Rec} {K : List Rec → RF → Prop} : recM E ops (o :: os) F acc K = Nf (o.dst.toList ++ rootsA F (atA E o.op.operands.toList ++ guardTmps ops o.guard)) fun R => Ok (stepN E ops o (maskA F R R)) fun F1 =>
    Nf (delta R.length F1) fun U => (keysOk R U = true ∧ dstIn o U = true) ∧ recM E ops os (F.sets U) (⟨o, R, U⟩ :: acc) K := by
  simp only [recM, recN, Ok_bind, Nf]
  congr 1
  funext F1
  split
  · rename_i h; simp only [h, true_and, Ok_map, and_self, List.reverse_cons, List.append_assoc, List.singleton_append]
  · rename_i h; rw [Ok_none]; exact (eq_false fun hh => h hh.1).symm
theorem recM_cons {p : Tmp × Slot × Nat × Nat} {acc : List Rec} {K : List Rec → RF → Prop} : recM E ops (o :: os) (p :: F) acc K = Nf (o.dst.toList ++ rootsA (p :: F) (atA E o.op.operands.toList ++ guardTmps ops o.guard)) fun R => Ok (stepN E ops o (maskA (p :: F) R R)) fun F1 =>
    Nf (delta R.length F1) fun U => (keysOk R U = true ∧ dstIn o U = true) ∧ recM E ops os (RF.sets (p :: F) U) (⟨o, R, U⟩ :: acc) K := recM_any
theorem recM_cons0 {acc : List Rec} {K : List Rec → RF → Prop} : recM E ops (o :: os) [] acc K = Nf (o.dst.toList ++ rootsA [] (atA E o.op.operands.toList ++ guardTmps ops o.guard)) fun R => Ok (stepN E ops o (maskA [] R R)) fun F1 =>
    Nf (delta R.length F1) fun U => (keysOk R U = true ∧ dstIn o U = true) ∧ recM E ops os (RF.sets [] U) (⟨o, R, U⟩ :: acc) K := recM_any
/-- whether a drawn row may be told in its text's order, by the names of slots alone -/
def sepD (r s : List Tmp × List Tmp) : Bool := r.2.all fun t => !s.1.contains t
def indepAtD (T : List (List Nat)) (j : Nat) (s : List Tmp × List Tmp) : Nat → List (List Tmp × List Tmp) → Bool
  | _, [] => true
  | i, r :: rs => (!decide (i < j) || (T.getD j []).contains i || (sepD r s && sepD s r)) && indepAtD T j s (i + 1) rs
def indepD (T : List (List Nat)) (rs : List (List Tmp × List Tmp)) : Nat → List (List Tmp × List Tmp) → Bool
  | _, [] => true
  | j, s :: ss => indepAtD T j s 0 rs && indepD T rs (j + 1) ss
def drawD (ops : List Oper) (rs : List (List Tmp × List Tmp)) : Bool := backs 0 ops && indepD (ancT [] ops) rs 0 rs
def slotsOf (r : Rec) : List Tmp × List Tmp := (r.R, r.U.map (·.1))
theorem sepD_eq {r s : Rec} : sepD (slotsOf r) (slotsOf s) = sep r s := by simp [sepD, sep, slotsOf, List.all_map, Function.comp_def]
theorem indepAtD_eq {T : List (List Nat)} {j : Nat} {s : Rec} {rs0 : List Rec} : ∀ {rs : List Rec} {i : Nat}, indepAtD T j (slotsOf s) i (rs.map slotsOf) = indepAt T rs0 j s i rs
  | [], i => rfl
  | r :: rs, i => by simp only [List.map_cons, indepAtD, indepAt, sepD_eq, indepAtD_eq (rs0 := rs0) (rs := rs)]
theorem indepD_eq {T : List (List Nat)} {rs0 : List Rec} : ∀ {rs : List Rec} {j : Nat}, indepD T (rs0.map slotsOf) j (rs.map slotsOf) = indepL T rs0 j rs
  | [], j => rfl
  | r :: rs, j => by simp only [List.map_cons, indepD, indepL, indepAtD_eq (rs0 := rs0), indepD_eq (rs := rs)]
theorem drawD_eq {ops : List Oper} {rs : List Rec} : drawOk ops rs = drawD ops (rs.map slotsOf) := by simp only [drawOk, drawD, indepD_eq]
theorem Ok_runN0a {l : List Oper} : Ok (runN E l.toArray false F) K = Ok (runSN E l.toArray l F) K := rfl
theorem Ok_runN0b {l : List Oper} : Ok (runN E ⟨l⟩ false F) K = Ok (runSN E ⟨l⟩ l F) K := rfl
theorem Ok_runN1a {l : List Oper} : Ok (runN E l.toArray true F) K = recM E l.toArray l F [] fun rs F' => Nf (rs.map slotsOf) fun rk => drawD l rk = true ∧ K F' := by
  rw [Ok_runN1]; simp only [drawD_eq, recM, Nf, List.reverse_nil, List.nil_append]
theorem Ok_runN1b {l : List Oper} : Ok (runN E ⟨l⟩ true F) K = recM E ⟨l⟩ l F [] fun rs F' => Nf (rs.map slotsOf) fun rk => drawD l rk = true ∧ K F' := by
  rw [Ok_runN1]; simp only [drawD_eq, recM, Nf, List.reverse_nil, List.nil_append]
theorem Ok_stepN0 {op : Op} : Ok (stepN E ops { dst := d, op := op, type := T, pos := pos, after := af, guard := none } F) K = (dstOk E { dst := d, op := op, type := T, pos := pos, after := af, guard := none } = true ∧ Ok (semN E { dst := d, op := op, type := T, pos := pos, after := af, guard := none } F) K) := by
  simp only [stepN]
  by_cases h : dstOk E { dst := d, op := op, type := T, pos := pos, after := af, guard := none } = true <;> simp [h]
def gtmp (ops : Array Oper) (j : Nat) : Option Tmp := (ops[j]?).bind (·.dst)
/-- where the j-th operation of a row writes -/
def gt : List Oper → Nat → Option Tmp
  | [], _ => none
  | o :: _, 0 => o.dst
  | _ :: os, j + 1 => gt os j
theorem gt_eq : ∀ {l : List Oper} {j : Nat}, gt l j = (l[j]?).bind (·.dst)
  | [], j => by simp [gt]
  | o :: os, 0 => by simp [gt]
  | o :: os, j + 1 => by simp [gt, gt_eq]
theorem gtmp_eqa {l : List Oper} {j : Nat} : gtmp l.toArray j = gt l j := by rw [gt_eq]; unfold gtmp; simp
theorem gtmp_eqb {l : List Oper} {j : Nat} : gtmp ⟨l⟩ j = gt l j := gtmp_eqa
theorem gt_0 : gt (o :: os) 0 = o.dst := rfl
theorem gt_s {j : Nat} : gt (o :: os) (j + 1) = gt os j := rfl
def asPB (c : PV) (Q : Bool → Prop) : Prop := match c with
  | .prim (.bool b) => Q b
  | _ => False
theorem asPB_eq {b : Bool} {Q : Bool → Prop} : asPB (.prim (.bool b)) Q = Q b := rfl
/-- one of two, by a cell -/
def grd (c : PV) (want : Bool) (A B : Prop) : Prop := match c with
  | .prim (.bool b) => (b = want → A) ∧ (¬ b = want → B)
  | .tup [] => B
  | _ => False
section
variable {A B : Prop} {b want : Bool}
theorem grd_tt : grd (.prim (.bool true)) true A B = A := by simp [grd]
theorem grd_tf : grd (.prim (.bool true)) false A B = B := by simp [grd]
theorem grd_ft : grd (.prim (.bool false)) true A B = B := by simp [grd]
theorem grd_ff : grd (.prim (.bool false)) false A B = A := by simp [grd]
theorem grd_any : grd (.prim (.bool b)) want A B = ((b = want → A) ∧ (¬ b = want → B)) := rfl
theorem grd_un : grd (.tup []) want A B = B := rfl
/-- one of two, by a value -/
def cnd (v : Value) (A B : Prop) : Prop := asB v fun t => (t = true → A) ∧ (t = false → B)
theorem cnd_t : cnd (.bool true) A B = A := by simp [cnd, asB]
theorem cnd_f : cnd (.bool false) A B = B := by simp [cnd, asB]
theorem cnd_any : cnd (.bool b) A B = ((b = true → A) ∧ (b = false → B)) := rfl
end
theorem wpo_cond {E : Env} {K : Exit → RF → Prop} {p : Tmp × Slot × Nat × Nat} {F : RF} {c : Operand} {a b : Code} : wpo E (.cond c a b) K (p :: F) = Ok (E.vl (p :: F) c) fun v => cnd v (wpo E a K (p :: F)) (wpo E b K (p :: F)) := rfl
theorem Ok_stepN1 {op : Op} {j : Nat} {want : Bool} : Ok (stepN E ops { dst := d, op := op, type := T, pos := pos, after := af, guard := some (j, want) } F) K = (dstOk E { dst := d, op := op, type := T, pos := pos, after := af, guard := some (j, want) } = true ∧
    Ok (gtmp ops j) fun t => t < E.nt ∧ Ok (F.content t) fun c => grd c want (Ok (semN E { dst := d, op := op, type := T, pos := pos, after := af, guard := some (j, want) } F) K) (K (setD F d (.val (.tup []))))) := by
  simp only [stepN, gtmp]
  by_cases h : dstOk E { dst := d, op := op, type := T, pos := pos, after := af, guard := some (j, want) } = true
  · simp only [h, if_true, true_and]
    cases hj : (ops[j]?).bind (·.dst) with
    | none => simp
    | some t =>
      simp only [Ok_some, Ok_bind]
      cases hc : F.content t with
      | none => simp
      | some c =>
        simp only [Ok_some]
        unfold grd
        split
        · rename_i b
          by_cases ht : t < E.nt
          · by_cases hb : b = want <;> simp [ht, hb]
          · simp [ht]
        · by_cases ht : t < E.nt <;> simp [ht]
        · simp
  · simp [h]
theorem Ok_stepN0c {op : Op} {p : Tmp × Slot × Nat × Nat} : Ok (stepN E ops { dst := d, op := op, type := T, pos := pos, after := af, guard := none } (p :: F)) K = (dstOk E { dst := d, op := op, type := T, pos := pos, after := af, guard := none } = true ∧ Ok (semN E { dst := d, op := op, type := T, pos := pos, after := af, guard := none } (p :: F)) K) := Ok_stepN0
theorem Ok_stepN00 {op : Op} : Ok (stepN E ops { dst := d, op := op, type := T, pos := pos, after := af, guard := none } []) K = (dstOk E { dst := d, op := op, type := T, pos := pos, after := af, guard := none } = true ∧ Ok (semN E { dst := d, op := op, type := T, pos := pos, after := af, guard := none } []) K) := Ok_stepN0
theorem Ok_stepN1c {op : Op} {p : Tmp × Slot × Nat × Nat} {j : Nat} {want : Bool} : Ok (stepN E ops { dst := d, op := op, type := T, pos := pos, after := af, guard := some (j, want) } (p :: F)) K = (dstOk E { dst := d, op := op, type := T, pos := pos, after := af, guard := some (j, want) } = true ∧
    Ok (gtmp ops j) fun t => t < E.nt ∧ Ok (RF.content (p :: F) t) fun c => grd c want (Ok (semN E { dst := d, op := op, type := T, pos := pos, after := af, guard := some (j, want) } (p :: F)) K) (K (setD (p :: F) d (.val (.tup []))))) := Ok_stepN1
theorem Ok_stepN10 {op : Op} {j : Nat} {want : Bool} : Ok (stepN E ops { dst := d, op := op, type := T, pos := pos, after := af, guard := some (j, want) } []) K = (dstOk E { dst := d, op := op, type := T, pos := pos, after := af, guard := some (j, want) } = true ∧
    Ok (gtmp ops j) fun t => t < E.nt ∧ Ok (RF.content [] t) fun c => grd c want (Ok (semN E { dst := d, op := op, type := T, pos := pos, after := af, guard := some (j, want) } []) K) (K (setD [] d (.val (.tup []))))) := Ok_stepN1
theorem stepN_cong {F' : RF} (h : F = F') : stepN E ops o F = stepN E ops o F' := by rw [h]
theorem semN_cong {F' : RF} (h : F = F') : semN E o F = semN E o F' := by rw [h]
theorem sem_cong {F' : RF} (h : F = F') : sem E o F = sem E o F' := by rw [h]
theorem Ok_semN_bin {op : BinOp} {X Y : TypeId} {x y : Operand} {g : Option (Nat × Bool)} : Ok (semN E { dst := d, op := .binOp op X x y Y, type := T, pos := pos, after := af, guard := g } F) K =
    Ok (E.vl F x) fun u => Ok (E.vl F y) fun v => Ok (binN E.P op X x y u v) fun r => K (setD F d (.val r)) := by simp only [semN, Ok_bind, Ok_map]
theorem Ok_semN_call {f : Operand} {as : Array Operand} {ts : Array TypeId} {g : Option (Nat × Bool)} : Ok (semN E { dst := d, op := .call { callee := .value f, args := as, argTypes := ts }, type := T, pos := pos, after := af, guard := g } F) K =
    Ok (E.rd F 0 f) fun y => Ok (fnOf y) fun q => (callable E.P q.1 = true ∧ noOwnL q.2 = true) ∧ Ok (E.args F (fun k => ts.getD k 0) 0 as.toList) fun as => Nf (as.map Arg.pv ++ q.2) fun xs => Ok (E.tbl q.1 xs) fun r => Ok (callM r.1 d F r.2 (muts as) (lents as)) K := by
  simp only [semN, sem_callN, Ok_bind, Ok_some, Nf]
  congr 1; funext y
  congr 1; funext q
  by_cases h : callable E.P q.1 = true ∧ noOwnL q.2 = true <;> simp [h]
theorem Ok_semN_calla {f : Operand} {as : List Operand} {ts : Array TypeId} {g : Option (Nat × Bool)} : Ok (semN E { dst := d, op := .call { callee := .value f, args := as.toArray, argTypes := ts }, type := T, pos := pos, after := af, guard := g } F) K =
    Ok (E.rd F 0 f) fun y => Ok (fnOf y) fun q => (callable E.P q.1 = true ∧ noOwnL q.2 = true) ∧ Ok (E.args F (fun k => ts.getD k 0) 0 as) fun as => Nf (as.map Arg.pv ++ q.2) fun xs => Ok (E.tbl q.1 xs) fun r => Ok (callM r.1 d F r.2 (muts as) (lents as)) K := Ok_semN_call
theorem Ok_semN_callb {f : Operand} {as : List Operand} {ts : Array TypeId} {g : Option (Nat × Bool)} : Ok (semN E { dst := d, op := .call { callee := .value f, args := ⟨as⟩, argTypes := ts }, type := T, pos := pos, after := af, guard := g } F) K =
    Ok (E.rd F 0 f) fun y => Ok (fnOf y) fun q => (callable E.P q.1 = true ∧ noOwnL q.2 = true) ∧ Ok (E.args F (fun k => ts.getD k 0) 0 as) fun as => Nf (as.map Arg.pv ++ q.2) fun xs => Ok (E.tbl q.1 xs) fun r => Ok (callM r.1 d F r.2 (muts as) (lents as)) K := Ok_semN_call
end
def setF (F : RF) (t : Tmp) (s : Slot) : Slot × Nat × Nat → RF
  | (_, n, k) => (t, s, n + 1, k) :: F
theorem setF_eq {F : RF} {t : Tmp} {s s' : Slot} {n k : Nat} : setF F t s (s', n, k) = (t, s, n + 1, k) :: F := rfl
theorem set_setF {F : RF} {t : Tmp} {s : Slot} : RF.set F t s = setF F t s (RF.find F t) := rfl
/-- a slot is looked for: by what keys differ -/
def fn (t0 : Tmp) (F : RF) (t : Tmp) : Slot × Nat × Nat := RF.find F t
theorem find_fn {F : RF} {t : Tmp} : RF.find F t = fn t F t := rfl
theorem fn_nil {t0 t : Tmp} : fn t0 [] t = (.dead, 0, 0) := rfl
theorem fn_here {t0 t : Tmp} {x : Slot × Nat × Nat} {F : RF} : fn t0 ((t, x) :: F) t = x := by obtain ⟨s, n, k⟩ := x; simp [fn, RF.find]
theorem fn_gt {t d : Nat} {x : Slot × Nat × Nat} {F : RF} : fn t ((d + t + 1, x) :: F) t = fn t F t := by
  obtain ⟨s, n, k⟩ := x
  have h : ¬ t = d + t + 1 := by omega
  simp only [fn, RF.find, if_neg h]
theorem fn_lt {t0 u d : Nat} {x : Slot × Nat × Nat} {F : RF} : fn t0 ((u, x) :: F) (d + u + 1) = fn t0 F (d + u + 1) := by
  obtain ⟨s, n, k⟩ := x
  have h : ¬ d + u + 1 = u := by omega
  simp only [fn, RF.find, if_neg h]
attribute [simp ↓] fn_nil fn_here fn_gt fn_lt
attribute [simp] find_fn
theorem guardTmps_a {l : List Oper} {j : Nat} {w : Bool} : guardTmps l.toArray (some (j, w)) = (gt l j).toList := by rw [gt_eq]; simp [guardTmps]
theorem guardTmps_b {l : List Oper} {j : Nat} {w : Bool} : guardTmps ⟨l⟩ (some (j, w)) = (gt l j).toList := guardTmps_a
attribute [simp ↓] guardTmps_a guardTmps_b
attribute [simp] setF_eq set_setF
attribute [simp ↓] wpo_loop wpo_skip wpo_exit wpo_ret wpo_region wpo_region0 wpo_seq wpo_seq0 wpo_cond wpo_block wpo_block0
attribute [simp ↓] Ok_runN0a Ok_runN0b Ok_runN1a Ok_runN1b Ok_semN_calla Ok_semN_callb Ok_runSN_nil Ok_runSN_cons Ok_runSN_cons0 recM_nil recM_cons recM_cons0 Ok_stepN0c Ok_stepN1c Ok_stepN00 Ok_stepN10 Ok_semN_bin Ok_bind Ok_map
attribute [simp ↓] rv_nil rv_cons gtmp_eqa gtmp_eqb gt_0 gt_s
attribute [simp] sem_arr semArr.eq_1 semLoadA.eq_1 arrLoad.eq_1 slRow.eq_1
attribute [simp] Nf_eq slotsOf.eq_1
theorem drawD_cong {l : List Oper} {r r' : List (List Tmp × List Tmp)} (h : r = r') : drawD l r = drawD l r' := by rw [h]
attribute [congr] Nf_cong recM_cong drawD_cong runSN_cong stepN_cong semN_cong sem_cong
theorem slP_eq {o : Bool} {sz : Nat} {xs : List PV} {Q : List PV → Prop} : slP (.sl o sz xs) Q = Q xs := rfl
theorem nilC_eq {E : Env} {ops : List Oper} {F : RF} {k : RF → Prop} : nilC E ops F k = Nf ops.dropLast fun pre => Nf ops.getLast? fun lo => Ok (runSN E ops.toArray pre F) fun F1 => lastN E lo F1 k := by unfold nilC Nf; rfl
theorem lastN_eq {E : Env} {d : Tmp} {T S R : TypeId} {x : Operand} {pos : String} {af : Array Edge} {F : RF} {k : RF → Prop} : lastN E (some { dst := some d, op := .binOp .eql T x (.const (.slice none 0 0)) S, type := R, pos := pos, after := af, guard := none }) F k =
    ((dstOk E { dst := some d, op := .binOp .eql T x (.const (.slice none 0 0)) S, type := R, pos := pos, after := af, guard := none } = true ∧ (E.at x).isSome = true) ∧ Ok (E.P.underlying T) fun u => (match u with | .slice _ => True | _ => False) ∧ Ok (E.rd F T x) fun y => slP y fun xs => ∀ b : Bool, (b = true → xs = []) → k (F.set d (.val (.prim (.bool b))))) := by
  simp [lastN]
attribute [simp] nilOp.eq_1
attribute [simp ↓] lastN_eq
attribute [simp ↓] nilC_eq slP_eq
attribute [simp ↓] asPB_eq asB_bool grd_tt grd_tf grd_ft grd_ff grd_un cnd_t cnd_f
attribute [simp ↓ low] grd_any cnd_any
section
variable {P : Program} {T : TypeId} {x y : Operand} {k : IntKind} {a b : Int} {p q : Bool} {op : BinOp} {v : Value}
theorem binN_add : binN P .add T x y (.int .i64 a) (.int .i64 b) = ofI (a + b) := rfl
theorem binN_sub : binN P .sub T x y (.int .i64 a) (.int .i64 b) = ofI (a - b) := rfl
theorem binN_mul : binN P .mul T x y (.int .i64 a) (.int .i64 b) = ofI (a * b) := rfl
theorem binN_quo : binN P .quo T x y (.int .i64 a) (.int .i64 b) = if 0 ≤ a ∧ 0 < b then ofI (a / b) else none := rfl
theorem binN_rem : binN P .rem T x y (.int .i64 a) (.int .i64 b) = if 0 ≤ a ∧ 0 < b then some (.prim (.int .i64 (a % b))) else none := rfl
theorem binN_shl : binN P .shl T x y (.int .i64 a) (.int k b) = if 0 ≤ b ∧ b < 64 then ofI (a * 2 ^ b.toNat) else none := by cases k <;> rfl
theorem binN_shr : binN P .shr T x y (.int .i64 a) (.int k b) = if 0 ≤ b ∧ b < 64 then some (.prim (.int .i64 (a / 2 ^ b.toNat))) else none := by cases k <;> rfl
theorem binN_lss : binN P .lss T x y (.int .i64 a) (.int k b) = binP P .lss T x y (.int .i64 a) (.int k b) := by cases k <;> rfl
theorem binN_leq : binN P .leq T x y (.int .i64 a) (.int k b) = binP P .leq T x y (.int .i64 a) (.int k b) := by cases k <;> rfl
theorem binN_gtr : binN P .gtr T x y (.int .i64 a) (.int k b) = binP P .gtr T x y (.int .i64 a) (.int k b) := by cases k <;> rfl
theorem binN_geq : binN P .geq T x y (.int .i64 a) (.int k b) = binP P .geq T x y (.int .i64 a) (.int k b) := by cases k <;> rfl
theorem binN_eql : binN P .eql T x y (.int .i64 a) (.int k b) = binP P .eql T x y (.int .i64 a) (.int k b) := by cases k <;> rfl
theorem binN_neq : binN P .neq T x y (.int .i64 a) (.int k b) = binP P .neq T x y (.int .i64 a) (.int k b) := by cases k <;> rfl
theorem binN_and : binN P .and T x y (.int .i64 a) (.int .i64 b) = if (0 ≤ a ∧ fits a) ∧ 0 ≤ b ∧ fits b then some (.prim (.int .i64 ((a.toNat &&& b.toNat : Nat) : Int))) else none := rfl
theorem binN_or : binN P .or T x y (.int .i64 a) (.int .i64 b) = if (0 ≤ a ∧ fits a) ∧ 0 ≤ b ∧ fits b then some (.prim (.int .i64 ((a.toNat ||| b.toNat : Nat) : Int))) else none := rfl
theorem binN_xor : binN P .xor T x y (.int .i64 a) (.int k b) = binP P .xor T x y (.int .i64 a) (.int k b) := by cases k <;> rfl
theorem binN_add_u8 : binN P .add T x y (.int .u8 a) (.int k b) = binP P .add T x y (.int .u8 a) (.int k b) := rfl
theorem binN_sub_u8 : binN P .sub T x y (.int .u8 a) (.int k b) = binP P .sub T x y (.int .u8 a) (.int k b) := rfl
theorem binN_mul_u8 : binN P .mul T x y (.int .u8 a) (.int k b) = binP P .mul T x y (.int .u8 a) (.int k b) := rfl
theorem binN_quo_u8 : binN P .quo T x y (.int .u8 a) (.int k b) = binP P .quo T x y (.int .u8 a) (.int k b) := rfl
theorem binN_rem_u8 : binN P .rem T x y (.int .u8 a) (.int k b) = binP P .rem T x y (.int .u8 a) (.int k b) := rfl
theorem binN_lss_u8 : binN P .lss T x y (.int .u8 a) (.int k b) = binP P .lss T x y (.int .u8 a) (.int k b) := rfl
theorem binN_leq_u8 : binN P .leq T x y (.int .u8 a) (.int k b) = binP P .leq T x y (.int .u8 a) (.int k b) := rfl
theorem binN_gtr_u8 : binN P .gtr T x y (.int .u8 a) (.int k b) = binP P .gtr T x y (.int .u8 a) (.int k b) := rfl
theorem binN_geq_u8 : binN P .geq T x y (.int .u8 a) (.int k b) = binP P .geq T x y (.int .u8 a) (.int k b) := rfl
theorem binN_eql_u8 : binN P .eql T x y (.int .u8 a) (.int k b) = binP P .eql T x y (.int .u8 a) (.int k b) := rfl
theorem binN_neq_u8 : binN P .neq T x y (.int .u8 a) (.int k b) = binP P .neq T x y (.int .u8 a) (.int k b) := rfl
theorem binN_and_u8 : binN P .and T x y (.int .u8 a) (.int k b) = binP P .and T x y (.int .u8 a) (.int k b) := rfl
theorem binN_or_u8 : binN P .or T x y (.int .u8 a) (.int k b) = binP P .or T x y (.int .u8 a) (.int k b) := rfl
theorem binN_xor_u8 : binN P .xor T x y (.int .u8 a) (.int k b) = binP P .xor T x y (.int .u8 a) (.int k b) := rfl
theorem binN_shl_u8 : binN P .shl T x y (.int .u8 a) (.int k b) = if 0 ≤ b ∧ b < 8 then some (.prim (.int .u8 (by8 (a * 2 ^ b.toNat)).toNat)) else none := rfl
theorem binN_shr_u8 : binN P .shr T x y (.int .u8 a) (.int k b) = if (0 ≤ a ∧ a ≤ 255) ∧ 0 ≤ b ∧ b < 8 then some (.prim (.int .u8 (by8 (a / 2 ^ b.toNat)).toNat)) else none := rfl
theorem binN_add_u32 : binN P .add T x y (.int .u32 a) (.int k b) = binP P .add T x y (.int .u32 a) (.int k b) := rfl
theorem binN_sub_u32 : binN P .sub T x y (.int .u32 a) (.int k b) = binP P .sub T x y (.int .u32 a) (.int k b) := rfl
theorem binN_mul_u32 : binN P .mul T x y (.int .u32 a) (.int k b) = binP P .mul T x y (.int .u32 a) (.int k b) := rfl
theorem binN_quo_u32 : binN P .quo T x y (.int .u32 a) (.int k b) = binP P .quo T x y (.int .u32 a) (.int k b) := rfl
theorem binN_rem_u32 : binN P .rem T x y (.int .u32 a) (.int k b) = binP P .rem T x y (.int .u32 a) (.int k b) := rfl
theorem binN_lss_u32 : binN P .lss T x y (.int .u32 a) (.int k b) = binP P .lss T x y (.int .u32 a) (.int k b) := rfl
theorem binN_leq_u32 : binN P .leq T x y (.int .u32 a) (.int k b) = binP P .leq T x y (.int .u32 a) (.int k b) := rfl
theorem binN_gtr_u32 : binN P .gtr T x y (.int .u32 a) (.int k b) = binP P .gtr T x y (.int .u32 a) (.int k b) := rfl
theorem binN_geq_u32 : binN P .geq T x y (.int .u32 a) (.int k b) = binP P .geq T x y (.int .u32 a) (.int k b) := rfl
theorem binN_eql_u32 : binN P .eql T x y (.int .u32 a) (.int k b) = binP P .eql T x y (.int .u32 a) (.int k b) := rfl
theorem binN_neq_u32 : binN P .neq T x y (.int .u32 a) (.int k b) = binP P .neq T x y (.int .u32 a) (.int k b) := rfl
theorem binN_and_u32 : binN P .and T x y (.int .u32 a) (.int k b) = binP P .and T x y (.int .u32 a) (.int k b) := rfl
theorem binN_or_u32 : binN P .or T x y (.int .u32 a) (.int k b) = binP P .or T x y (.int .u32 a) (.int k b) := rfl
theorem binN_xor_u32 : binN P .xor T x y (.int .u32 a) (.int k b) = binP P .xor T x y (.int .u32 a) (.int k b) := rfl
theorem binN_shl_u32 : binN P .shl T x y (.int .u32 a) (.int k b) = if 0 ≤ b ∧ b < 32 then some (.prim (.int .u32 (by32 (a * 2 ^ b.toNat)).toNat)) else none := rfl
theorem binN_shr_u32 : binN P .shr T x y (.int .u32 a) (.int k b) = if (0 ≤ a ∧ a ≤ 4294967295) ∧ 0 ≤ b ∧ b < 32 then some (.prim (.int .u32 (by32 (a / 2 ^ b.toNat)).toNat)) else none := rfl
theorem binN_u16 : binN P op T x y (.int .u16 a) v = binP P op T x y (.int .u16 a) v := rfl
theorem binN_u64 : binN P op T x y (.int .u64 a) v = binP P op T x y (.int .u64 a) v := rfl
theorem binN_i32 : binN P op T x y (.int .i32 a) v = binP P op T x y (.int .i32 a) v := rfl
theorem binN_bool : binN P op T x y (.bool p) v = binP P op T x y (.bool p) v := rfl
theorem binN_string {s : ByteArray} : binN P op T x y (.string s) v = binP P op T x y (.string s) v := rfl
theorem binN_agg {s : Array Value} : binN P op T x y (.agg s) v = binP P op T x y (.agg s) v := rfl
end
attribute [simp] binN_add_u8 binN_sub_u8 binN_mul_u8 binN_quo_u8 binN_rem_u8 binN_lss_u8 binN_leq_u8 binN_gtr_u8 binN_geq_u8 binN_eql_u8 binN_neq_u8 binN_and_u8 binN_or_u8 binN_xor_u8 binN_shl_u8 binN_shr_u8 binN_add_u32 binN_sub_u32 binN_mul_u32 binN_quo_u32 binN_rem_u32 binN_lss_u32 binN_leq_u32 binN_gtr_u32 binN_geq_u32 binN_eql_u32 binN_neq_u32 binN_and_u32 binN_or_u32 binN_xor_u32 binN_shl_u32 binN_shr_u32
attribute [simp] binN_add binN_sub binN_mul binN_quo binN_rem binN_shl binN_shr binN_lss binN_leq binN_gtr binN_geq binN_eql binN_neq binN_and binN_or binN_xor binN_u16 binN_u64 binN_i32 binN_bool binN_string binN_agg
attribute [simp] directA.eq_1 directA.eq_2 direct_eq maskA.eq_1 maskA.eq_2 pruneA.eq_1 pruneA.eq_2 rootsA.eq_1 rootsA.eq_2 atA.eq_1 atA.eq_2 guardTmps.eq_1 guardTmps.eq_2 prune_eq mask_eq
attribute [simp] Go.Op.operands.eq_1 Go.Op.operands.eq_2 Go.Op.operands.eq_3 Go.Op.operands.eq_4 Go.Op.operands.eq_5 Go.Op.operands.eq_6 Go.Op.operands.eq_7 Go.Op.operands.eq_8 Go.Op.operands.eq_9
attribute [simp] Go.Op.operands.eq_10 Go.Op.operands.eq_11 Go.Op.operands.eq_12 Go.Op.operands.eq_13 Go.Op.operands.eq_14 Go.Op.operands.eq_15 Go.Op.operands.eq_16 Go.Op.operands.eq_17
attribute [simp] Go.Op.operands.eq_18 Go.Op.operands.eq_19 Go.Op.operands.eq_20 Go.Op.operands.eq_21 Go.Op.operands.eq_22 Go.Op.operands.eq_23 Go.Op.operands.eq_24 Go.Op.operands.eq_25
attribute [simp] Go.Op.operands.eq_26 Go.Op.operands.eq_27 Go.Op.operands.eq_28 Go.Op.operands.eq_29 Go.Op.operands.eq_30 Go.Op.operands.eq_31 Go.Op.operands.eq_32 Go.Op.operands.eq_33
attribute [simp] Go.Op.operands.eq_34 Go.Op.operands.eq_35 Go.Op.operands.eq_36 Go.Op.operands.eq_37 Go.Op.operands.eq_38 Go.Op.operands.eq_39 Go.Op.operands.eq_40 Go.Op.operands.eq_41
attribute [simp] Go.Op.operands.eq_42 Go.Op.operands.eq_43 Go.Call.operands.eq_1 sem_min sem_max minP_int maxP_int sem_conv_str sem_alloc sem_box sem_build sem_buildSlice sem_load sem_store
attribute [simp] sem_nilCheck sem_makeFunc sem_makeMap sem_makeSlice sem_slice sem_fieldAddr sem_indexAddr sem_lookup sem_mapUpdate sem_insert sem_extract sem_len sem_append semAlloc.eq_1 semBox.eq_1
attribute [simp] semBuild.eq_1 semLit.eq_1 semLoad.eq_1 semStore.eq_1 semNil.eq_1 semFunc.eq_1 semFunc.eq_2 semMakeMap.eq_1 semMakeMap.eq_2 semMake.eq_1 semSlice.eq_1 semField.eq_1 semIndex.eq_1
attribute [simp] semLookup.eq_1 semMapSet.eq_1 semExtract.eq_1 semLen.eq_1 semAppend.eq_1 Env.target.eq_1 RF.target.eq_1 Env.sloc.eq_1 Env.bound.eq_1 Env.bound.eq_2 Env.tks.eq_1 Env.tks.eq_2
attribute [simp] Env.caps.eq_1 Env.caps.eq_2 Env.exact.eq_1 Env.fst.eq_1 Env.snd.eq_1 PV.get?.eq_1 PV.get?.eq_2 PV.at?.eq_1 PV.at?.eq_2 PV.at?.eq_3 PV.row.eq_1 PV.row.eq_2 PV.row.eq_3 PV.cells.eq_1
attribute [simp] PV.cells.eq_2 PV.width.eq_1 PV.width.eq_2 PV.owned.eq_1 PV.owned.eq_2 PV.owned.eq_3 PV.owned.eq_4 viewC.eq_1 viewC.eq_2 viewC.eq_3 viewC.eq_4 viewC.eq_5 viewC.eq_6 RF.re.eq_1
attribute [simp] delta.eq_1 RF.masked.eq_1 RF.sets.eq_1 RF.sets.eq_2 keysOk.eq_1 dstIn.eq_1 look.eq_1 look.eq_2 drawOk.eq_1 backs.eq_1 backs.eq_2 ancT.eq_1 ancT.eq_2 addA.eq_1 addA.eq_2 addL.eq_1
attribute [simp] addL.eq_2 indepL.eq_1 indepL.eq_2 indepAt.eq_1 indepAt.eq_2 sep.eq_1 Go.Region.binds.eq_1 init.eq_1 ents0.eq_1 ents0.eq_2 globs0.eq_1 dstOk.eq_1 sem_move sem_assign sem_pick sem_bin
attribute [simp] sem_un semMove.eq_1 semAssign.eq_1 semPick.eq_1 Env.at.eq_1 Env.at.eq_2 Env.at.eq_3 Env.tk.eq_1 Env.imm.eq_1 Env.imm.eq_2 Env.imm.eq_3 Env.vl.eq_1 Env.vl.eq_2 ofConst.eq_1 ofConst.eq_2
attribute [simp] ofCell.eq_1 ofCell.eq_2 szs.eq_1 szs.eq_2 RF.slot.eq_1 setD.eq_1 setD.eq_2 RF.ver.eq_1 RF.cnt.eq_1 RF.take.eq_1 RF.content.eq_1 PV.noOwn.eq_1
attribute [simp] PV.noOwn.eq_2 PV.noOwn.eq_3 PV.noOwn.eq_4 PV.noOwn.eq_5 PV.noOwn.eq_6 PV.noOwn.eq_7 PV.noOwn.eq_8 bin_add bin_sub bin_mul bin_quo bin_rem bin_lss bin_leq bin_gtr bin_geq bin_eql
attribute [simp] bin_neq bin_and bin_or bin_xor bin_shl bin_shr un_not RF.kept.eq_1 toVal_int toVal_bool ofVal_bool ofVal_int finR.eq_1 finR.eq_2 finR.eq_3 pinned.eq_1 pinned.eq_2 outsOf.eq_1
attribute [simp] outsOf.eq_2 PV.isMut.eq_1 PV.isMut.eq_2 PV.notTup.eq_1 PV.notTup.eq_2 flat.eq_1 flat.eq_2 flat.eq_3 flat.eq_4 flat.eq_5 flat.eq_6 flat.eq_7 flat.eq_8 flat.eq_9 flat.eq_10 RF.ok.eq_1
attribute [simp] giveF.eq_1 valOf.eq_1 RF.ok.eq_2 Env.rd.eq_1 Env.args.eq_1 Env.args.eq_2 Env.arg.eq_1 Arg.pv.eq_1 Arg.pv.eq_2 Arg.pv.eq_3 lents.eq_1 lents.eq_2 lents.eq_3 muts.eq_1 muts.eq_2 muts.eq_3 PV.frz.eq_1
attribute [simp] PV.frz.eq_2 PV.frz.eq_3 PV.frz.eq_4 PV.frz.eq_5 PV.frz.eq_6 PV.frz.eq_7 PV.frz.eq_8 noOwnL.eq_1 noOwnL.eq_2 ofI.eq_1 semN.eq_1
attribute [simp] fnOf.eq_1 fnOf.eq_2 callM.eq_1 callM.eq_2 callM.eq_3 sem_callN
end Go.V
/- Calls in which nothing is left open, by reckoning alone. -/
namespace Go.V
set_option linter.unusedVariables false
set_option linter.unusedSimpArgs false

def evl (body : RF → Option (Exit × RF)) : Nat → RF → Option (Exit × RF)
  | 0, _ => none
  | n + 1, F => match body F with
    | some (.normal, F') => evl body n F'
    | r => r
def evc (E : Env) (n : Nat) : Code → RF → Option (Exit × RF)
  | .skip, F => some (.normal, F)
  | .region id ops dr, F => match runR E (draw E) ops dr F with
    | some F' => some (.normal, F'.prune (E.keep id))
    | none => none
  | .seq a b, F => match evc E n a F with
    | some (.normal, F') => evc E n b F'
    | r => r
  | .cond c a b, F => match E.vl F c with
    | some (.bool t) => if t = true then evc E n a F else evc E n b F
    | _ => none
  | .block id c, F => match evc E n c F with
    | some (.exit i, F') => if i = id then some (.normal, F') else some (.exit i, F')
    | r => r
  | .loop c, F => evl (evc E n c) n F
  | .exit id, F => some (.exit id, F)
  | .ret, F => some (.ret, F)
  | _, _ => none

theorem evl_ok {E : Env} {c : Code} {D : Array Oper → RF → Option RF} {body : RF → Option (Exit × RF)} (h : ∀ F e F', body F = some (e, F') → wpx E D c (fun e1 F1 => e1 = e ∧ F1 = F') F) :
    ∀ {n : Nat} {F F' : RF} {e : Exit}, evl body n F = some (e, F') → itr (wpx E D c) (fun e1 F1 => e1 = e ∧ F1 = F') n F
  | 0, F, F', e, hs => by simp [evl] at hs
  | n + 1, F, F', e, hs => by
    simp only [evl] at hs
    simp only [itr]
    split at hs
    · rename_i F1 hb
      refine wpx_mono ?_ (h _ _ _ hb)
      rintro e1 F2 ⟨rfl, rfl⟩
      exact evl_ok h hs
    · rename_i r hr
      refine wpx_mono ?_ (h _ _ _ hs)
      rintro e1 F2 ⟨rfl, rfl⟩
      cases e1 with
      | normal => exact absurd hs (hr _)
      | _ => exact ⟨rfl, rfl⟩
theorem evc_ok {E : Env} {n : Nat} : ∀ {c : Code} {F F' : RF} {e : Exit}, evc E n c F = some (e, F') → wpx E (draw E) c (fun e1 F1 => e1 = e ∧ F1 = F') F := by
  intro c
  induction c with
  | skip => intro F F' e h; simp only [evc, Option.some.injEq, Prod.mk.injEq] at h; exact ⟨h.1, h.2⟩
  | region id ops dr =>
    intro F F' e h
    simp only [evc] at h
    split at h
    · rename_i F1 hr
      simp only [Option.some.injEq, Prod.mk.injEq] at h
      simp only [wpx, hr]
      exact ⟨h.1, h.2⟩
    · cases h
  | seq x y ihx ihy =>
    intro F F' e h
    simp only [evc] at h
    simp only [wpx]
    split at h
    · rename_i F1 hx
      refine wpx_mono ?_ (ihx hx)
      rintro e1 F2 ⟨rfl, rfl⟩
      exact ihy h
    · rename_i r hr
      refine wpx_mono ?_ (ihx h)
      rintro e1 F2 ⟨rfl, rfl⟩
      cases e1 with
      | normal => exact absurd h (hr _)
      | _ => exact ⟨rfl, rfl⟩
  | cond v x y ihx ihy =>
    intro F F' e h
    simp only [evc] at h
    simp only [wpx]
    split at h
    · rename_i t hv
      rw [hv]
      simp only
      split at h
      · rename_i ht; rw [if_pos ht]; exact ihx h
      · rename_i ht; rw [if_neg ht]; exact ihy h
    · cases h
  | block id c ih =>
    intro F F' e h
    simp only [evc] at h
    simp only [wpx]
    split at h
    · rename_i i F1 hc
      refine wpx_mono ?_ (ih hc)
      rintro e1 F2 ⟨rfl, rfl⟩
      simp only
      split at h
      · rename_i hi; rw [if_pos hi]; simp only [Option.some.injEq, Prod.mk.injEq] at h; exact ⟨h.1, h.2⟩
      · rename_i hi; rw [if_neg hi]; simp only [Option.some.injEq, Prod.mk.injEq] at h; exact ⟨h.1, h.2⟩
    · rename_i r hr
      refine wpx_mono ?_ (ih h)
      rintro e1 F2 ⟨rfl, rfl⟩
      cases e1 with
      | exit i => exact absurd h (hr _ _)
      | _ => exact ⟨rfl, rfl⟩
  | loop c ih =>
    intro F F' e h
    simp only [evc] at h
    simp only [wpx]
    exact ⟨n, evl_ok (fun F e F' h => ih h) h⟩
  | exit id => intro F F' e h; simp only [evc, Option.some.injEq, Prod.mk.injEq] at h; exact ⟨h.1, h.2⟩
  | ret => intro F F' e h; simp only [evc, Option.some.injEq, Prod.mk.injEq] at h; exact ⟨h.1, h.2⟩
  | _ => intro F F' e h; simp [evc] at h

def isEnd : Exit → Bool
  | .normal | .ret => true
  | _ => false
def evf (P : Program) (G : Nat → Option (List PV)) (gs : List Nat) (keep : FuncId → Nat → List Tmp) (tbl : FuncId → List PV → Option (PV × List PV)) (n : Nat) (f : FuncId) (xs : List PV) : Option (PV × List PV) :=
  match P.funcs[f]? with
  | some fn => match fn.body with
    | some c =>
      if xs.length ≤ fn.ntmps then
        match evc { P := P, tbl := tbl, G := G, nt := fn.ntmps, gs := gs, keep := keep f, pin := pinned 0 xs } n c (init { P := P, tbl := tbl, G := G, nt := fn.ntmps, gs := gs, keep := keep f, pin := pinned 0 xs } xs) with
        | some (e, F') => if isEnd e = true then fin { P := P, tbl := tbl, G := G, nt := fn.ntmps, gs := gs, keep := keep f, pin := pinned 0 xs } fn xs F' else none
        | none => none
      else none
    | none => none
  | none => none
theorem evf_ok {P : Program} {G : Nat → Option (List PV)} {gs : List Nat} {keep : FuncId → Nat → List Tmp} {tbl : FuncId → List PV → Option (PV × List PV)} {n : Nat} (hm : P.follows .mixedOrders = true) (hT : ∀ f, Impl P G f (tbl f)) (f : FuncId) :
    Impl P G f (evf P G gs keep tbl n f) := by
  cases hf : P.funcs[f]? with
  | none => intro w Z xs vs φ r outs _ _ _ _ hg; simp [evf, hf] at hg
  | some fn =>
    cases hb : fn.body with
    | none => intro w Z xs vs φ r outs _ _ _ _ hg; simp [evf, hf, hb] at hg
    | some c =>
      refine impl_of (E := { P := P, tbl := tbl, G := G, nt := fn.ntmps, gs := gs, keep := keep f, pin := [] }) hT draw (fun E' hP hT' => draw_ok hT' (by rw [hP]; exact hm)) hf hb rfl ?_
      intro xs r outs h
      simp only [evf, hf, hb] at h
      split at h
      case isFalse => cases h
      rename_i hl
      split at h
      case h_2 => cases h
      rename_i e F' he
      split at h
      case isFalse => cases h
      rename_i hend
      refine ⟨hl, wpx_mono ?_ (evc_ok he)⟩
      rintro e1 F1 ⟨rfl, rfl⟩
      exact ⟨by cases e1 <;> simp_all [isEnd], h⟩
/-- a call by reckoning, so many calls deep; some functions by what is told of them -/
def evt (base : FuncId → Option (List PV → Option (PV × List PV))) (P : Program) (G : Nat → Option (List PV)) (gs : List Nat) (keep : FuncId → Nat → List Tmp) : Nat → FuncId → List PV → Option (PV × List PV)
  | 0, _, _ => none
  | d + 1, f, xs => match base f with
    | some g => g xs
    | none => evf P G gs keep (evt base P G gs keep d) 100000 f xs
theorem evt_ok {base : FuncId → Option (List PV → Option (PV × List PV))} {P : Program} {G : Nat → Option (List PV)} {gs : List Nat} {keep : FuncId → Nat → List Tmp} (hm : P.follows .mixedOrders = true) (hb : ∀ f g, base f = some g → Impl P G f g) :
    ∀ (d : Nat) (f : FuncId), Impl P G f (evt base P G gs keep d f)
  | 0, f => by intro w Z xs vs φ r outs _ _ _ _ hg; simp [evt] at hg
  | d + 1, f => by
    cases h : base f with
    | none =>
      have e : evt base P G gs keep (d + 1) f = evf P G gs keep (evt base P G gs keep d) 100000 f := by funext xs; simp only [evt, h]
      rw [e]; exact evf_ok hm (fun f => evt_ok hm hb d f) f
    | some g =>
      have e : evt base P G gs keep (d + 1) f = g := by funext xs; simp only [evt, h]
      rw [e]; exact hb f g h
def saysTrue : Option (PV × List PV) → Bool
  | some (.prim (.bool b), []) => b
  | _ => false
theorem saysTrue_eq {r : Option (PV × List PV)} (h : saysTrue r = true) : r = some (.prim (.bool true), []) := by
  unfold saysTrue at h
  split at h
  · rw [h]
  · cases h
/-- a function without arguments that tells true -/
def gTrue : List PV → Option (PV × List PV)
  | [] => some (.prim (.bool true), [])
  | _ => none
theorem impl_true {P : Program} {G : Nat → Option (List PV)} {f : FuncId} {g : List PV → Option (PV × List PV)} (h : Impl P G f g) (ht : saysTrue (g []) = true) : Impl P G f gTrue := by
  intro w Z xs vs φ r outs h1 h2 h3 h4 hg
  unfold gTrue at hg
  split at hg
  · rw [← saysTrue_eq ht] at hg; exact h w Z [] vs φ r outs h1 h2 h3 h4 hg
  · cases hg
/-! ### Tables of contracts -/
abbrev Tbl := FuncId → List PV → Option (PV × List PV)
def Tbl.add (t : Tbl) (f : FuncId) (g : List PV → Option (PV × List PV)) : Tbl := fun k => if k = f then g else t k
theorem Tbl.add_ok {P : Program} {G : Nat → Option (List PV)} {t : Tbl} {f : FuncId} {g : List PV → Option (PV × List PV)} (h : ∀ k, Impl P G k (t k)) (hg : Impl P G f g) : ∀ k, Impl P G k (t.add f g k) := by
  intro k
  unfold Tbl.add
  split
  · rename_i e; rw [e]; exact hg
  · exact h k
def Tbl.none : Tbl := fun _ _ => Option.none
theorem Tbl.none_ok {P : Program} {G : Nat → Option (List PV)} : ∀ k, Impl P G k (Tbl.none k) := by
  intro k w Z xs vs φ r outs _ _ _ _ hg; simp [Tbl.none] at hg
end Go.V
/- Loops and joins by what changes alone. -/
namespace Go.V
set_option linter.unusedVariables false
def pickU (t : Tmp) (u : List (Tmp × PV)) (s : Slot) : Slot := match u with
  | [] => s
  | (t', y) :: u => if t = t' then .val y else pickU t u s
/-- a frame, some slots put anew -/
def ups (F : RF) (u : List (Tmp × PV)) : RF := match F with
  | [] => []
  | (t, s, n, k) :: F => (t, pickU t u s, n, k) :: ups F u
theorem ups_nil {u : List (Tmp × PV)} : ups [] u = [] := rfl
theorem ups_cons {t : Tmp} {s : Slot} {n k : Nat} {F : RF} {u : List (Tmp × PV)} : ups ((t, s, n, k) :: F) u = (t, pickU t u s, n, k) :: ups F u := rfl
theorem pickU_nil {t : Tmp} {s : Slot} : pickU t [] s = s := rfl
theorem pickU_here {t : Tmp} {y : PV} {u : List (Tmp × PV)} {s : Slot} : pickU t ((t, y) :: u) s = .val y := by simp [pickU]
theorem pickU_gt {t d : Nat} {y : PV} {u : List (Tmp × PV)} {s : Slot} : pickU t ((d + t + 1, y) :: u) s = pickU t u s := by
  have h : ¬ t = d + t + 1 := by omega
  simp only [pickU, if_neg h]
theorem pickU_lt {t d : Nat} {y : PV} {u : List (Tmp × PV)} {s : Slot} : pickU (d + t + 1) ((t, y) :: u) s = pickU (d + t + 1) u s := by
  have h : ¬ d + t + 1 = t := by omega
  simp only [pickU, if_neg h]
theorem pickU_ne {t t' : Nat} {y : PV} {u : List (Tmp × PV)} {s : Slot} (h : (t == t') = false) : pickU t ((t', y) :: u) s = pickU t u s := by
  have h : ¬ t = t' := by simpa using h
  simp only [pickU, if_neg h]
theorem loopu {E : Env} {c : Code} {K : Exit → RF → Prop} {σ : Type} {F : RF} {t : Shut' (E, c, K)} (J : σ → Prop) (U : σ → List (Tmp × PV)) (m : σ → Nat)
    (h : ∀ s, J s → wpo E c (fun e F' => match e with | .normal => ∃ s', J s' ∧ m s' < m s ∧ F' = ups F (U s') | e => K e F') (ups F (U s))) {s : σ} (hF : F = ups F (U s)) (hs : J s) : LoopK E c K F t :=
  loopo J (fun s => ups F (U s)) m h hF hs
/-- behind a branch the rest is told for all frames of a form -/
theorem cond_join {E : Env} {v : Operand} {a b : Code} {K : Exit → RF → Prop} {σ : Type} {F : RF} (J : σ → Prop) (I : σ → RF)
    (h1 : wpo E (.cond v a b) (fun e F' => match e with | .normal => ∃ s, J s ∧ F' = I s | e => K e F') F) (h2 : ∀ s, J s → K .normal (I s)) : wpo E (.cond v a b) K F := by
  refine wpo_mono ?_ h1
  intro e F' he
  cases e with
  | normal => obtain ⟨s, hs, rfl⟩ := he; exact h2 s hs
  | _ => exact he
attribute [simp] ups_nil ups_cons pickU_nil pickU_here
attribute [simp low] pickU_ne
end Go.V
namespace Go.V
/-! ### A part of a value without memory -/
def fldP (P : Program) (S : TypeId) (f : Nat) (v : Value) : Option PV := (pureRun P (Instr.field S v f)).bind ofVal
def fldO (P : Program) (S : TypeId) (f : Nat) (v : Value) : Option PV := fldP P S f v
theorem sem_field {E : Env} {F : RF} {d : Option Tmp} {S R : TypeId} {x : Operand} {f : Nat} {pos : String} {af : Array Edge} {g : Option (Nat × Bool)} :
    sem E { dst := d, op := .field S x f, type := R, pos := pos, after := af, guard := g } F = (E.vl F x).bind fun u => (fldP E.P S f u).map fun r => setD F d (.val r) := by
  show semPure E _ F = _
  unfold semPure
  rw [if_neg (by simp [isSel])]
  simp only [Op.operands, List.all_cons, List.all_nil, Bool.and_true]
  cases h : E.vl F x with
  | none => simp
  | some u =>
    simp only [Option.isSome_some, if_true, execOp, h, Option.getD_some, Option.bind_some, fldP]
    rw [pureRun_bind]
    cases h2 : pureRun E.P (Instr.field S u f) with
    | none => rfl
    | some v => simp [pureRun_pure]
theorem fldP_agg {P : Program} {S : TypeId} {f : Nat} {xs : Array Value} : fldP P S f (.agg xs) = (match P.underlying S with
    | some (.struct fs) => (fs[f]?).bind fun fd => if aggT P fd.type = false ∧ (P.underlying fd.type).isSome = true then (xs[fd.offset]?).bind ofVal else fldO P S f (.agg xs)
    | _ => fldO P S f (.agg xs)) := by
  cases hu : P.underlying S with
  | none => rfl
  | some u =>
    cases u with
    | struct fs =>
      simp only
      cases hf : fs[f]? with
      | none =>
        simp only [Option.bind_none, fldP, Instr.field, pureRun_bind, pureRun_underlying hu, Option.bind_some, hf]
        rfl
      | some fd =>
        simp only [Option.bind_some]
        split
        · rename_i hc
          obtain ⟨u', hu'⟩ := Option.isSome_iff_exists.1 hc.2
          simp only [fldP, Instr.field, pureRun_bind, pureRun_underlying hu, Option.bind_some, hf]
          have h1 : pureRun P (asAgg (.agg xs)) = some xs := rfl
          rw [h1, Option.bind_some]
          cases hx : xs[fd.offset]? with
          | none =>
            have : pureRun P (part fd.type xs fd.offset) = none := by
              have ha := hc.1
              unfold part isAgg
              rw [pureRun_bind, pureRun_bind, pureRun_underlying hu']
              unfold aggT at ha
              rw [hu'] at ha
              cases u' <;> simp_all [pureRun_pure, stuck, pureRun]
            rw [this]
          | some v =>
            have : pureRun P (part fd.type xs fd.offset) = some v := by
              have ha := hc.1
              unfold part isAgg
              rw [pureRun_bind, pureRun_bind, pureRun_underlying hu']
              unfold aggT at ha
              rw [hu'] at ha
              cases u' <;> simp_all [pureRun_pure]
            rw [this]
        · rfl
    | _ => rfl
attribute [simp] sem_field fldP_agg
end Go.V
/- What a law is handed, read as a value without memory. -/
namespace Go.V
open Go.RowKit (Below)
set_option linter.unusedVariables false
set_option linter.unusedSimpArgs false

def nobody : Nat → Prop := fun _ => False
/-- Each reading of type t is one of a value of this form. -/
def OpensV {α : Type} (P : Program) (t : TypeId) (el : α → PV) (wf : α → Prop) : Prop :=
  ∀ (H : Type) (enc : TypeId × Value → H) (w : World) (fuel : Nat) (cs : List Value) (x : DataW H × List MemPlace),
    DataW.trod enc P w 0 (fun _ => true) true fuel t cs = some x → ∃ a, Rep w nobody (el a) [] cs ∧ wf a

theorem Rep_cells {w : World} {Z : Nat → Prop} {x : PV} {cs : List Value} (h : Rep w Z x [] cs) : RepL w Z x.cells [] cs ∧ ∀ c ∈ x.cells, c.cell1 = true := by
  cases x with
  | agg ys => simp only [Rep] at h; exact h
  | tup ys => simp only [Rep] at h
  | _ => exact ⟨RepL_cons.2 ⟨[], [], cs, [], rfl, by simp, h, RepL_nil.2 ⟨rfl, rfl⟩⟩, by simp [PV.cells, PV.cell1]⟩

theorem openV_int {P : Program} {t : TypeId} {k : IntKind} (ht : P.underlying t = some (.int k)) : OpensV P t (fun n => .prim (.int k n)) (fun n => (Lit.int k n).wf = true) := by
  intro H enc w fuel cs x h
  obtain ⟨n, rfl, _, hw⟩ := DataW.trod_int ht h
  exact ⟨n, by simp only [Rep]; exact ⟨trivial, trivial, rfl⟩, hw⟩
theorem openV_bool {P : Program} {t : TypeId} (ht : P.underlying t = some .bool) : OpensV P t (fun b => .prim (.bool b)) (fun _ => True) := by
  intro H enc w fuel cs x h
  obtain ⟨b, rfl, _⟩ := DataW.trod_bool ht h
  exact ⟨b, by simp only [Rep]; exact ⟨trivial, trivial, rfl⟩, trivial⟩
theorem openV_string {P : Program} {t : TypeId} (ht : P.underlying t = some .string) : OpensV P t (fun s => .prim (.string s)) (fun s => s.size ≤ maxLen) := by
  intro H enc w fuel cs x h
  obtain ⟨s, rfl, _, hs⟩ := DataW.trod_string ht h
  exact ⟨s, by simp only [Rep]; exact ⟨trivial, trivial, rfl⟩, hs⟩

theorem RepL_app {w : World} {Z : Nat → Prop} : ∀ {xs ys : List PV} {us vs : List Value}, RepL w Z xs [] us → RepL w Z ys [] vs → RepL w Z (xs ++ ys) [] (us ++ vs)
  | [], ys, us, vs, h1, h2 => by rw [(RepL_nil.1 h1).2]; exact h2
  | x :: xs, ys, us, vs, h1, h2 => by
    obtain ⟨φ₁, φ₂, v₁, v₂, e, rfl, h3, h4⟩ := RepL_cons.1 h1
    obtain ⟨rfl, rfl⟩ := List.append_eq_nil_iff.1 e.symm
    rw [List.append_assoc]
    exact RepL_cons.2 ⟨[], [], v₁, v₂ ++ vs, rfl, rfl, h3, RepL_app h4 h2⟩

theorem openV_slice {α : Type} {P : Program} {t e : TypeId} {el : α → PV} {wf : α → Prop} {sz : Nat} (ht : P.underlying t = some (.slice e)) (he : P.cellsOf e = sz) (hsz : 0 < sz) (h : OpensV P e el wf) :
    OpensV P t (fun l : List α => .sl false sz (l.map el)) (fun l => l.length ≤ maxLen ∧ ∀ x ∈ l, wf x) := by
  intro H enc w fuel cs x hx
  rcases Go.Deep.open_slice ht hx with ⟨rfl, _⟩ | ⟨a, len, cap, m, n, D, Pl, rfl, hb, hl, hm, hmm, _, hel⟩
  · exact ⟨[], by simp only [Rep, List.map_nil]; exact ⟨none, 0, [], [], rfl, ⟨hsz, Nat.le_refl _⟩, RepL_nil.2 ⟨rfl, rfl⟩, by simp, .inl ⟨trivial, trivial, by simp⟩⟩, Nat.zero_le _, by simp⟩
  · have hlm : len ≤ m := by rw [hmm]; split <;> omega
    have build : ∀ k, k ≤ len → ∃ (l : List α) (ch : List Value), l.length = k ∧ ch.length = k * sz ∧ RepL w nobody (l.map el) [] ch ∧ (∀ x ∈ l.map el, x.width = sz) ∧ (∀ i, i < ch.length → w.cell? (a.add i) = ch[i]?) ∧ ∀ x ∈ l, wf x := by
      intro k
      induction k with
      | zero => intro _; exact ⟨[], [], rfl, by simp, RepL_nil.2 ⟨rfl, rfl⟩, by simp, by simp, by simp⟩
      | succ k ih =>
        intro hk
        obtain ⟨l, ch, h1, h2, h3, h4, h5, h6⟩ := ih (by omega)
        obtain ⟨cs', k1, k2⟩ := hel k (by omega)
        obtain ⟨y, hy, hw⟩ := h H enc w n cs' _ k2
        rw [he] at k1
        obtain ⟨_, hlen, hget⟩ := World.cells?_some k1
        refine ⟨l ++ [y], ch ++ cs', by simp [h1], by rw [List.length_append, h2, hlen, Nat.succ_mul], ?_, ?_, ?_, ?_⟩
        · rw [List.map_append]
          exact RepL_app h3 (RepL_cons.2 ⟨[], [], cs', [], rfl, by simp, hy, RepL_nil.2 ⟨rfl, rfl⟩⟩)
        · intro x hx
          rw [List.map_append] at hx
          rcases List.mem_append.1 hx with hx | hx
          · exact h4 x hx
          · obtain rfl : x = el y := by simpa using hx
            rw [← hy.length, hlen]
        · intro i hi
          rcases Nat.lt_or_ge i ch.length with hlt | hge
          · rw [List.getElem?_append_left hlt]; exact h5 i hlt
          · rw [List.getElem?_append_right hge]
            rw [List.length_append] at hi
            have := hget (i - ch.length) (by omega)
            rw [Go.Deep.add_add] at this
            rw [← this, h2]; congr 2; omega
        · intro x hx
          rcases List.mem_append.1 hx with hx | hx
          · exact h6 x hx
          · obtain rfl : x = y := by simpa using hx
            exact hw
    obtain ⟨l, ch, h1, h2, h3, h4, h5, h6⟩ := build len (Nat.le_refl _)
    subst h1
    refine ⟨l, ?_, by omega, h6⟩
    simp only [Rep]
    refine ⟨some a, cap, [], ch, by simp, ⟨hsz, by simpa using hl⟩, h3, h4, ?_⟩
    cases l with
    | nil => exact .inl ⟨rfl, trivial, by simp⟩
    | cons y l =>
      right
      have hpos : 0 < ch.length := by rw [h2]; exact Nat.mul_pos (by simp) hsz
      obtain ⟨b, off, spot⟩ := a
      have h0 := h5 0 hpos
      have hsome : ∃ v, w.cell? ((⟨b, off, spot⟩ : Addr).add 0) = some v := ⟨ch[0], by rw [h0, List.getElem?_eq_getElem hpos]⟩
      obtain ⟨v, hv⟩ := hsome
      have hadd : (⟨b, off, spot⟩ : Addr).add 0 = ⟨b, off, spot⟩ := by simp [Addr.add]
      rw [hadd] at hv
      simp only [World.cell?] at hv
      split at hv
      case h_2 => cases hv
      rename_i c T fr hblk
      split at hv
      · cases hv
      rename_i hsp
      obtain rfl : spot = none := by cases spot <;> simp_all
      refine ⟨b, off, c, T, fr, rfl, hblk, fun i u hu => ?_, fun _ => ⟨fun h => h, trivial, rfl⟩, by simp⟩
      have hi := (List.getElem?_eq_some_iff.1 hu).1
      have := h5 i hi
      rw [hu, Addr.add_lit] at this
      simp only [World.cell?, hblk] at this
      simpa using this

/-- Parts that stand one behind the other, from cell o on. -/
def SegV {α : Type} (P : Program) (fs : List (TypeId × Nat)) (o n : Nat) (cl : α → List PV) (wf : α → Prop) : Prop :=
  ∀ (H : Type) (enc : TypeId × Value → H) (w : World) (m : Nat) (cs : List Value), cs.length = o + n →
    (∀ p ∈ fs, ∃ y, DataW.trod enc P w 0 (fun _ => true) true m p.1 ((cs.drop p.2).take (P.cellsOf p.1)) = some y) → ∃ a, RepL w nobody (cl a) [] (cs.drop o) ∧ (∀ c ∈ cl a, c.cell1 = true) ∧ wf a
theorem segV_one {α : Type} {P : Program} {t : TypeId} {o n : Nat} {el : α → PV} {wf : α → Prop} (h : OpensV P t el wf) (hc : P.cellsOf t = n) : SegV P [(t, o)] o n (fun a => (el a).cells) wf := by
  intro H enc w m cs hl hp
  obtain ⟨y, hy⟩ := hp (t, o) (by simp)
  have : (cs.drop o).take (P.cellsOf t) = cs.drop o := List.take_of_length_le (by rw [List.length_drop, hc]; omega)
  rw [this] at hy
  obtain ⟨a, ha, hw⟩ := h H enc w m _ _ hy
  exact ⟨a, (Rep_cells ha).1, (Rep_cells ha).2, hw⟩
theorem segV_cons {α β : Type} {P : Program} {t : TypeId} {o n1 n2 : Nat} {fs : List (TypeId × Nat)} {el : α → PV} {cl : β → List PV} {wf1 : α → Prop} {wf2 : β → Prop} (h : OpensV P t el wf1) (hc : P.cellsOf t = n1) (h2 : SegV P fs (o + n1) n2 cl wf2) :
    SegV P ((t, o) :: fs) o (n1 + n2) (fun x : α × β => (el x.1).cells ++ cl x.2) (fun x => wf1 x.1 ∧ wf2 x.2) := by
  intro H enc w m cs hl hp
  obtain ⟨y, hy⟩ := hp (t, o) (by simp)
  obtain ⟨a, ha, wa⟩ := h H enc w m _ _ hy
  obtain ⟨b, hb, cb, wb⟩ := h2 H enc w m cs (by omega) (fun p hp' => hp p (by simp [hp']))
  refine ⟨(a, b), ?_, ?_, wa, wb⟩
  · have := RepL_app (Rep_cells ha).1 hb
    rw [hc, ← List.drop_drop, List.take_append_drop] at this
    exact this
  · intro c hc
    rcases List.mem_append.1 hc with hc | hc
    · exact (Rep_cells ha).2 c hc
    · exact cb c hc
theorem openV_struct {α β : Type} {P : Program} {t : TypeId} {n : Nat} {fs : Array Field} {l : List (TypeId × Nat)} {cl : β → List PV} {wf : β → Prop} (g : β → α) (f : α → β) (hfg : ∀ b, f (g b) = b)
    (ht : P.underlying t = some (.struct fs)) (hl : fs.toList.map (fun x => (x.type, x.offset)) = l) (hc : P.cellsOf t = n) (h : SegV P l 0 n cl wf) : OpensV P t (fun x => .agg (cl (f x))) (fun x => wf (f x)) := by
  intro H enc w fuel cs x hx
  obtain ⟨xs, m, rfl, _, hlen, hxs, hi⟩ := DataW.trod_struct ht hx
  obtain ⟨a, ha, ca, wa⟩ := h H enc w m cs (by omega) (by
    intro p hp
    rw [← hl] at hp
    obtain ⟨fd, hf, rfl⟩ := List.mem_map.1 hp
    obtain ⟨i, hif⟩ := List.getElem?_of_mem hf
    have hif' : fs[i]? = some fd := by simpa using hif
    have hlt : i < xs.length := by
      rw [hxs]
      have := (Array.getElem?_eq_some_iff.1 hif').1
      exact this
    exact ⟨xs[i], by rw [hi i fd hif', List.getElem?_eq_getElem hlt]⟩)
  rw [List.drop_zero] at ha
  refine ⟨g a, ?_, by show wf (f (g a)); rw [hfg]; exact wa⟩
  show Rep w nobody (.agg (cl (f (g a)))) [] cs
  rw [hfg]; simp only [Rep]; exact ⟨ha, ca⟩
theorem openV_array {α β : Type} {P : Program} {t e : TypeId} {k n : Nat} {l : List (TypeId × Nat)} {cl : β → List PV} {wf : β → Prop} (g : β → α) (f : α → β) (hfg : ∀ b, f (g b) = b)
    (ht : P.underlying t = some (.array k e)) (hl : (List.range k).map (fun i => (e, i * P.cellsOf e)) = l) (hc : P.cellsOf t = n) (h : SegV P l 0 n cl wf) : OpensV P t (fun x => .agg (cl (f x))) (fun x => wf (f x)) := by
  intro H enc w fuel cs x hx
  cases fuel with
  | zero => simp [DataW.trod] at hx
  | succ m =>
    unfold DataW.trod at hx
    rw [ht] at hx
    have hx' : (if cs.length = P.cellsOf t then ((List.range k).mapM fun i => DataW.trod enc P w 0 (fun _ => true) true m e ((cs.drop (i * P.cellsOf e)).take (P.cellsOf e))).map fun xs => (DataW.agg (xs.map (·.1)), xs.flatMap (·.2)) else none) = some x := by
      split at hx <;> simp_all
    clear hx
    by_cases hlen : cs.length = P.cellsOf t
    · rw [if_pos hlen] at hx'
      obtain ⟨xs, hp, _⟩ := Option.map_eq_some_iff.1 hx'
      have hxl := mapM_some_length hp
      obtain ⟨a, ha, ca, wa⟩ := h H enc w m cs (by omega) (by
        intro p hp'
        rw [← hl] at hp'
        obtain ⟨i, hi, rfl⟩ := List.mem_map.1 hp'
        have hi' := List.mem_range.1 hi
        have hlt : i < xs.length := by rw [hxl]; simpa using hi'
        exact ⟨xs[i], by rw [mapM_some_get hp i i (by simp [hi']), List.getElem?_eq_getElem hlt]⟩)
      rw [List.drop_zero] at ha
      refine ⟨g a, ?_, by show wf (f (g a)); rw [hfg]; exact wa⟩
      show Rep w nobody (.agg (cl (f (g a)))) [] cs
      rw [hfg]; simp only [Rep]; exact ⟨ha, ca⟩
    · rw [if_neg hlen] at hx'
      cases hx'

/-- A whole argument: by its reading, and by its shape. -/
theorem okWide_agg {P : Program} {w : World} {r : Reach} {base : Nat} {t : TypeId} {v : Value} (hg : aggT P t = true) (h : Value.okWide P w r base t v) : ∃ cs, v = .agg cs := by
  unfold aggT at hg
  unfold Value.okWide at h
  split at hg
  · rename_i e; rw [e] at h; obtain ⟨cs, h1, _⟩ := h; exact ⟨cs, h1⟩
  · rename_i e; rw [e] at h; obtain ⟨cs, h1, _⟩ := h; exact ⟨cs, h1⟩
  · cases hg
theorem RepV1_agg {w : World} {Z : Nat → Prop} {ys : List PV} {cs : Array Value} (h : Rep w Z (.agg ys) [] (Value.agg cs).cells.toList) : RepV1 w Z (.agg ys) [] (.agg cs) :=
  ⟨cs.toList, by simp, h⟩
theorem RepV1_one {w : World} {Z : Nat → Prop} {x : PV} {v : Value} (h : Rep w Z x [] v.cells.toList) (hx : x.cell1 = true) (hv : v.cells = #[v]) : RepV1 w Z x [] v := by
  rw [hv] at h
  cases x <;> first | exact h | cases hx
theorem Stp.below {φ : List Nat} {w w' : World} (h : Stp (fun b => b ∈ φ ∨ w.heap.size ≤ b) w w') (hφ : φ = []) : Below w.heap.size w w' := by
  subst hφ
  exact ⟨h.os, h.tape, h.output, h.size, fun b hb => h.block b hb (by rintro (h | h); cases h; omega)⟩
end Go.V
