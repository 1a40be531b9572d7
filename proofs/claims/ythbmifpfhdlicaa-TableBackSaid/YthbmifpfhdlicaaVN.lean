/- Function values, bytes as a string, calls; all operations together. -/
import Derived.Test.YthbmifpfhdlicaaVM
namespace Go.V
set_option linter.unusedVariables false
set_option linter.unusedSimpArgs false
variable {X : Cx} {Z : Nat → Prop} {w : World} {φ : Tmp → List Nat} {tm : Tmp → Value} {F : RF}

/-! ### Function values -/
/-- What a slot owns is nobody's any more. -/
theorem Rel.freeze (h : Rel X Z w φ tm F) {t : Tmp} {x : PV} (hx : F.slot t = .val x) :
    Rel X (fun b => Z b ∧ b ∉ φ t) w (upd (upd φ t []) t []) tm ((F.set t .dead).set t (.val x.frz)) ∧ RepV w (fun b => Z b ∧ b ∉ φ t) x.frz [] (tm t) := by
  have hr := h.vals t x hx
  have hf : RepV w (fun b => Z b ∧ b ∉ φ t) x.frz [] (tm t) := RepV_frz (fun b _ hb => hb.1) (fun b hb hb2 => hb2.2 hb) hr
  have h1 := h.setDead t (tm t)
  rw [upd_eta] at h1
  have h2 := h1.keep (w' := w) (Z' := fun b => Z b ∧ b ∉ φ t) (fun b hb hm => ⟨⟨fun hz => ⟨hz, by
      rcases hm with ⟨u, hu⟩ | hm
      · by_cases e : u = t
        · simp [upd, e] at hu
        · rw [upd_ne _ _ e] at hu; exact fun hb2 => e (h.disj u t b hu hb2)
      · exact absurd hz hm⟩, fun hz => hz.1⟩, rfl⟩)
  have h3 := h2.setVal (t := t) (x := x.frz) (v := tm t) (φx := []) hf List.nodup_nil (by simp) (by simp)
  rw [upd_eta] at h3
  exact ⟨h3, hf⟩

/-- captured variables, each frozen -/
def Env.caps (E : Env) : RF → List Operand → Option (List PV × RF)
  | F, [] => some ([], F)
  | F, x :: xs => (E.at x).bind fun t =>
    match F.slot t with
    | .val y => if y.cell1 = true then
        if y.noOwn = true then (E.caps F xs).map fun r => (y :: r.1, r.2)
        else (E.caps ((F.set t .dead).set t (.val y.frz)) xs).map fun r => (y.frz :: r.1, r.2)
      else none
    | _ => none

theorem caps_ok {E : Env} {a : Act} : ∀ (xs : List Operand) (F : RF) (Z : Nat → Prop) (φ : Tmp → List Nat) (ys : List PV) (F' : RF), Pre E X Z w φ a F → E.caps F xs = some (ys, F') →
    ∃ Z' φ', Rel X Z' w φ' (tmOf E.nt a) F' ∧ RepL w Z' ys [] (xs.map a.eval) ∧ (∀ c ∈ ys, c.cell1 = true) ∧ (∀ b, Z' b → Z b) ∧ ZOk X.mine w Z Z'
  | [], F, Z, φ, ys, F', h, hc => by
    simp only [Env.caps, Option.some.injEq, Prod.mk.injEq] at hc
    obtain ⟨rfl, rfl⟩ := hc
    exact ⟨Z, φ, h.rel, RepL_nil.2 ⟨rfl, rfl⟩, by simp, fun _ h => h, fun _ _ _ => Iff.rfl⟩
  | x :: xs, F, Z, φ, ys, F', h, hc => by
    simp only [Env.caps, Option.bind_eq_some_iff] at hc
    obtain ⟨t, hat, hc⟩ := hc
    split at hc
    case h_2 => cases hc
    rename_i y hsl
    split at hc
    case isFalse => cases hc
    case isTrue hcell =>
    have tail : ∀ {Z1 : Nat → Prop} {φ1 : Tmp → List Nat} {F1 : RF} {z : PV} {r : List PV × RF}, Rel X Z1 w φ1 (tmOf E.nt a) F1 → RepV w Z1 z [] (tmOf E.nt a t) → z.cell1 = true → (∀ b, Z1 b → Z b) → ZOk X.mine w Z Z1 →
        E.caps F1 xs = some r → (z :: r.1, r.2) = (ys, F') → ∃ Z' φ', Rel X Z' w φ' (tmOf E.nt a) F' ∧ RepL w Z' ys [] ((x :: xs).map a.eval) ∧ (∀ c ∈ ys, c.cell1 = true) ∧ (∀ b, Z' b → Z b) ∧ ZOk X.mine w Z Z' := by
      intro Z1 φ1 F1 z r hrel hrz hzc hsub hzok hcaps he
      obtain ⟨Z', φ', k1, k2, k3, k4, k5⟩ := caps_ok xs F1 Z1 φ1 r.1 r.2 ⟨hrel, h.new, h.glob⟩ hcaps
      simp only [Prod.mk.injEq] at he
      obtain ⟨rfl, rfl⟩ := he
      refine ⟨Z', φ', k1, ?_, ?_, fun b hb => hsub b (k4 b hb), fun b hb hm => (hzok b hb hm).trans (k5 b hb hm)⟩
      · rw [List.map_cons, at_eval hat]
        refine RepL_cons.2 ⟨[], [], [_], _, rfl, rfl, ?_, k2⟩
        rw [RepV_cell hzc] at hrz
        have := (Rep_frz (w := w) (Z := Z1) (Z' := Z') (fun b _ hb => k4 b hb)).1 z [] _ (by simp) hrz
        -- what owns nothing is as it was when frozen
        exact (Rep_weaken (fun b _ hb => k4 b hb)).1 _ _ hrz
      · intro c hc2; rcases List.mem_cons.1 hc2 with rfl | hc2
        · exact hzc
        · exact k3 c hc2
    split at hc
    · rename_i hno
      simp only [Option.map_eq_some_iff] at hc
      obtain ⟨r, hr, he⟩ := hc
      have hry := h.rel.vals t y hsl
      rw [RepV_noOwn hno hry] at hry
      exact tail h.rel hry hcell (fun _ h => h) (fun _ _ _ => Iff.rfl) hr he
    · simp only [Option.map_eq_some_iff] at hc
      obtain ⟨r, hr, he⟩ := hc
      obtain ⟨hrel, hfr⟩ := h.rel.freeze hsl
      exact tail hrel hfr (by simpa using hcell) (fun b hb => hb.1) (fun b hb hm => ⟨fun hz => ⟨hz, fun hb2 => hm (h.rel.mine t b hb2)⟩, fun hz => hz.1⟩) hr he

def semFunc (E : Env) (o : Oper) (fn : Fn) (first captured : Array Operand) (F : RF) : Option RF :=
  match fn with
  | .func f => if first.size = 0 then (E.caps F captured.toList).map fun r => setD r.2 o.dst (.val (.fn f r.1)) else none
  | _ => none
theorem semFunc_ok {E : Env} {o : Oper} {fn : Fn} {first captured : Array Operand} {a : Act} {F' : RF} (h : Pre E X Z w φ a F) (ho : o.op = .makeFunc fn first captured) (hs : semFunc E o fn first captured F = some F') :
    Yld E.P o a w (Out X Z w (tmOf E.nt a) o.dst F') := by
  unfold semFunc at hs
  split at hs
  case h_2 => cases hs
  rename_i f
  split at hs
  case isFalse => cases hs
  case isTrue h0 =>
  simp only [Option.map_eq_some_iff] at hs
  obtain ⟨⟨ys, F1⟩, hc, rfl⟩ := hs
  obtain ⟨Z', φ', k1, k2, k3, k4, k5⟩ := caps_ok captured.toList F Z φ ys F1 h hc
  obtain rfl : first = #[] := Array.eq_empty_of_size_eq_zero h0
  refine Yld.value (w' := w) (v := .func (.func f) #[] (captured.map a.eval)) (by unfold execOp; rw [ho]; simp [Instr.makeFunc]) ?_
  obtain ⟨φ'', hr⟩ := k1.outVal (d := o.dst) (x := .fn f ys) (v := .func (.func f) #[] (captured.map a.eval)) (φx := []) ((RepV_cell rfl).2 (by
    simp only [Rep]; exact ⟨trivial, captured.toList.map a.eval, by rw [← Array.toList_map, Array.toArray_toList], k2, k3⟩)) List.nodup_nil (by simp) (by simp)
  exact ⟨Z', φ'', hr, Stp.refl _ _, k5⟩

/-! ### Bytes as a string -/
def bytesOf : List PV → Option (List Int)
  | [] => some []
  | .prim (.int .u8 n) :: xs => (bytesOf xs).map (n :: ·)
  | _ :: _ => none
def strOf (ns : List Int) : ByteArray := ⟨(ns.map fun n => UInt8.ofNat n.toNat).toArray⟩
theorem strOf_foldl : ∀ (ns : List Int) (s : ByteArray), ns.foldl (fun r n => r.push (UInt8.ofNat n.toNat)) s = ⟨s.data ++ (ns.map fun n => UInt8.ofNat n.toNat).toArray⟩
  | [], s => by simp
  | n :: ns, s => by
    rw [List.foldl_cons, strOf_foldl ns]
    congr 1
    apply Array.ext'
    simp [ByteArray.push]
theorem bytesOf_rep : ∀ {xs ns φ vs}, bytesOf xs = some ns → RepL w Z xs φ vs → vs = ns.map (Value.int .u8)
  | [], ns, φ, vs, h, hr => by simp only [bytesOf, Option.some.injEq] at h; rw [RepL_nil] at hr; rw [hr.2, ← h]; rfl
  | x :: xs, ns, φ, vs, h, hr => by
    obtain ⟨φ₁, φ₂, v₁, v₂, rfl, rfl, h1, h2⟩ := RepL_cons.1 hr
    unfold bytesOf at h
    split at h
    · cases ‹_ :: _ = []›
    · rename_i n ys he
      obtain ⟨rfl, rfl⟩ : x = .prim (.int .u8 n) ∧ xs = ys := by simpa using he
      simp only [Option.map_eq_some_iff] at h
      obtain ⟨ns', hn, rfl⟩ := h
      simp only [Rep] at h1
      rw [h1.2.1, bytesOf_rep hn h2]; rfl
    · cases h

def semConv (E : Env) (o : Oper) (S D : TypeId) (x : Operand) (F : RF) : Option RF :=
  match E.P.underlying S, E.P.underlying D with
  | some (.slice e), some .string =>
    match E.P.underlying e, E.rd F S x with
    | some (.int .u8), some (.sl _ _ xs) => if esz E.P e = 1 then (bytesOf xs).map fun ns => setD F o.dst (.val (.prim (.string (strOf ns)))) else none
    | _, _ => none
  | _, _ => semPure E o F
theorem semConv_ok {E : Env} {o : Oper} {S D : TypeId} {x : Operand} {a : Act} {F' : RF} (h : Pre E X Z w φ a F) (ho : o.op = .convert S D x) (hs : semConv E o S D x F = some F') :
    Yld E.P o a w (Out X Z w (tmOf E.nt a) o.dst F') := by
  unfold semConv at hs
  split at hs
  case h_2 => exact semPure_ok h hs
  rename_i e hS hD
  split at hs
  case h_2 => cases hs
  rename_i f sz xs he hrd
  split at hs
  case isFalse => cases hs
  simp only [Option.map_eq_some_iff] at hs
  obtain ⟨ns, hns, rfl⟩ := hs
  obtain ⟨φy, hr, _⟩ := rd_rep h hrd
  rw [RepV_cell rfl] at hr
  obtain ⟨ad, cap, hv⟩ : ∃ ad cap, a.eval x = .slice ad xs.length cap := by
    simp only [Rep] at hr; obtain ⟨ad, cap, _, _, hv, _⟩ := hr; exact ⟨ad, cap, by simpa using hv⟩
  rw [hv] at hr
  obtain ⟨_, _, hpos, hw, ch, ψ, hl, _, hlen, hc, _⟩ := sl_cells hr
  have hch := bytesOf_rep hns hl
  have hnl : ns.length = xs.length := by
    have : ∀ {xs ns}, bytesOf xs = some ns → ns.length = xs.length := by
      intro xs
      induction xs with
      | nil => intro ns h; simp only [bytesOf, Option.some.injEq] at h; subst h; rfl
      | cons x xs ih =>
        intro ns h
        unfold bytesOf at h
        split at h
        · cases ‹_ :: _ = []›
        · rename_i n ys he
          obtain ⟨rfl, rfl⟩ : x = .prim (.int .u8 n) ∧ xs = ys := by simpa using he
          simp only [Option.map_eq_some_iff] at h
          obtain ⟨ns', hn, rfl⟩ := h
          simp [ih hn]
        · cases h
    exact this hns
  have hrun : (Conv.bytesToString (.slice ad xs.length cap)).run E.P w = .ok (.string (strOf ns)) w := by
    cases ad with
    | none =>
      have : ns = [] := by
        rcases hc with hc | ⟨A, hA, _⟩
        · apply List.eq_nil_of_length_eq_zero
          rcases Nat.mul_eq_zero.1 hc with hc | hc <;> omega
        · cases hA
      subst this
      simp [Conv.bytesToString, strOf]; rfl
    | some A =>
      have hlc : (loadCells A xs.length).run E.P w = .ok (ns.map (Value.int .u8)).toArray w := by
        have h2 : (ns.map (Value.int .u8)).length = xs.length := by simpa using hnl
        rw [← h2]
        refine run_loadCells_list (P := E.P) w A _ (fun j v hj => ?_)
        rw [← hch] at hj
        rcases hc with hc | ⟨A', hA, hcc⟩
        · have : ch = [] := List.eq_nil_of_length_eq_zero (by omega)
          rw [this] at hj; simp at hj
        · obtain rfl := Option.some.inj hA; exact hcc j v hj
      rw [run_bytesToString w A xs.length cap ns hlc, strOf_foldl]
      simp [strOf]
  refine Yld.value (w' := w) (v := .string (strOf ns)) ?_ ?_
  · unfold execOp; rw [ho]; simp [run_convert_bytes_string w S D e ad xs.length cap hS he hD, hv, hrun]
  · obtain ⟨φ', hr2⟩ := h.rel.outVal (d := o.dst) (x := .prim (.string (strOf ns))) (v := .string (strOf ns)) (φx := []) ((RepV_cell rfl).2 (by simp [Rep, flat])) List.nodup_nil (by simp) (by simp)
    exact ⟨Z, φ', hr2, Stp.refl _ _, fun _ _ _ => Iff.rfl⟩

/-! ### Calls -/
def PV.isMut : PV → Bool
  | .ptr true _ => true
  | _ => false
/-- of arguments the ones that may be written through -/
def mutVals : List PV → List Value → List Value
  | x :: xs, v :: vs => if x.isMut = true then v :: mutVals xs vs else mutVals xs vs
  | _, _ => []
def GlobOk (G : Nat → Option (List PV)) (Z : Nat → Prop) (w : World) : Prop := ∀ g cs, G g = some cs → Rep w Z (.ptr false cs) [] [.pointer (some ⟨g, 0, none⟩)]

/-- A function of the program answers as a function of values does. -/
def Impl (P : Program) (G : Nat → Option (List PV)) (f : FuncId) (g : List PV → Option (PV × List PV)) : Prop :=
  ∀ (w : World) (Z : Nat → Prop) (xs : List PV) (vs : List Value) (φ : List Nat) (r : PV) (outs : List PV), RepTs w Z xs φ vs → φ.Nodup → (∀ x ∈ xs, x.notTup = true ∧ (x.noOwn = true ∨ x.isMut = true)) → GlobOk G Z w →
    g xs = some (r, outs) → Calls P f vs.toArray w fun e w' => ∃ v Z' φr φo, e = .returned v ∧ RepV w' Z' r φr v ∧ RepTs w' Z' outs φo (mutVals xs vs) ∧ (φr ++ φo).Nodup ∧
      (∀ b ∈ φr ++ φo, b ∈ φ ∨ w.heap.size ≤ b) ∧ Stp (fun b => b ∈ φ ∨ w.heap.size ≤ b) w w' ∧ (∀ b, b < w.heap.size → b ∉ φ → (Z b ↔ Z' b))

def callable (P : Program) (f : FuncId) : Bool := match P.funcs[f]? with | some fn => !(fn.name == "runtime.NumGoroutine") && fn.body.isSome | none => false
theorem run_callFunc {P : Program} {f : FuncId} {args : Array Value} (h : callable P f = true) (w : World) : (callFunc f args).run P w = .ok (.enter f args) w := by
  unfold callable at h
  cases hf : P.funcs[f]? with
  | none => simp [hf] at h
  | some fn =>
    simp only [hf, Bool.and_eq_true, Bool.not_eq_true'] at h
    have hb : fn.body.isNone = false := by cases hb : fn.body <;> simp_all
    have hn : ¬ fn.name = "runtime.NumGoroutine" := by simpa using h.1
    have hb' : ¬ fn.body = none := by intro e; simp [e] at hb
    simp [callFunc, hf, hn, hb']

/-- an argument: what is handed on, and, if it may be written through, the slot of it; else the slot of what is lent, if any is -/
inductive Arg where
  | free (x : PV)
  | lent (x : PV) (r : Tmp)
  | mut (x : PV) (r : Tmp)
def Env.arg (E : Env) (F : RF) (T : TypeId) (x : Operand) : Option Arg :=
  match E.at x with
  | none => (E.imm T x).bind fun y => if y.notTup = true then some (.free y.frz) else none
  | some t => (F.content t).bind fun y =>
    if y.notTup = true then
      if y.noOwn = true then some (.free y) else
      match F.slot t with
      | .val y' => if y'.isMut = true then some (.mut y' t) else some (.lent y.frz t)
      | .pl r p k _ => if y.isMut = true then
          match F.slot r, p, k with
          | .val g, [], .self => if g.isMut = true then some (.mut g r) else none
          | _, _, _ => none
        else some (.lent y.frz r)
      | .dead => none
    else none
def Arg.pv : Arg → PV
  | .free x => x
  | .lent x _ => x
  | .mut x _ => x
def Env.args (E : Env) (F : RF) (T : Nat → TypeId) : Nat → List Operand → Option (List Arg)
  | _, [] => some []
  | k, x :: xs => (E.arg F (T k) x).bind fun y => (E.args F T (k + 1) xs).map (y :: ·)
def lents : List Arg → List Tmp
  | [] => []
  | .lent _ r :: as => r :: lents as
  | _ :: as => lents as
def muts : List Arg → List Tmp
  | [] => []
  | .mut _ r :: as => r :: muts as
  | _ :: as => muts as
def semCall (E : Env) (o : Oper) (c : Call) (F : RF) : Option RF :=
  match c.callee with
  | .value f =>
    match E.rd F 0 f with
    | some (.fn fid caps) =>
      if callable E.P fid = true ∧ noOwnL caps = true then
        (E.args F (fun k => c.argTypes.getD k 0) 0 c.args.toList).bind fun as =>
          match E.tbl fid (as.map Arg.pv ++ caps), muts as with
          | some (r, []), [] => if lents as = [] ∨ r.allOwn = true then some (setD F o.dst (.val r)) else none
          | some (r, [out]), [m] => if (lents as = [] ∨ (r.allOwn = true ∧ out.allOwn = true)) ∧ (lents as).contains m = false ∧ out.notTup = true then some (setD ((F.set m .dead).set m (.val out)) o.dst (.val r)) else none
          | _, _ => none
      else none
    | _ => none
  | _ => none

theorem RepV_weaken {Z' : Nat → Prop} (hZ : ∀ b, b < w.heap.size → Z' b → Z b) {x : PV} {v : Value} (hn : x.notTup = true) (h : RepV w Z x [] v) : RepV w Z' x [] v := by
  cases x with
  | tup xs => simp [PV.notTup] at hn
  | agg cs => rw [RepV_agg] at h ⊢; obtain ⟨vs, rfl, h⟩ := h; exact ⟨vs, rfl, (Rep_weaken hZ).1 _ _ h⟩
  | _ => exact (RepV_cell rfl).2 ((Rep_weaken hZ).1 _ _ ((RepV_cell rfl).1 h))
theorem PV.frz_notTup {x : PV} (h : x.notTup = true) : x.frz.notTup = true := by cases x <;> simp_all [PV.notTup]
theorem PV.frz_isMut {x : PV} : x.frz.isMut = false := by cases x <;> simp [PV.isMut]
theorem noOwn_isMut {x : PV} (h : x.noOwn = true) : x.isMut = false := by
  cases x with
  | ptr o cs => cases o <;> simp_all [PV.noOwn, PV.isMut]
  | _ => rfl
theorem isMut_notTup {x : PV} (h : x.isMut = true) : x.notTup = true ∧ ∃ cs, x = .ptr true cs := by
  cases x with
  | ptr o cs => cases o <;> simp_all [PV.notTup, PV.isMut]
  | _ => simp [PV.isMut] at h
theorem RepV_RepV1 {x : PV} {φ v} (h : x.notTup = true) (hr : RepV w Z x φ v) : RepV1 w Z x φ v := by
  cases x <;> first | exact hr | simp [PV.notTup] at h

theorem arg_ok {E : Env} {a : Act} (h : Pre E X Z w φ a F) {T : TypeId} {x : Operand} {y : Arg} (ha : E.arg F T x = some y) :
    y.pv.notTup = true ∧ (y.pv.noOwn = true ∨ y.pv.isMut = true) ∧
    ((∃ z, y = .free z ∧ z.isMut = false ∧ ∀ Zc : Nat → Prop, (∀ b, b < w.heap.size → Zc b → Z b) → RepV w Zc z [] (a.eval x)) ∨
     (∃ z r, y = .lent z r ∧ z.isMut = false ∧ ∀ Zc : Nat → Prop, (∀ b, b < w.heap.size → Zc b → Z b) → (∀ b ∈ φ r, ¬ Zc b) → RepV w Zc z [] (a.eval x)) ∨
     (∃ z r, y = .mut z r ∧ z.isMut = true ∧ F.slot r = .val z ∧ a.eval x = tmOf E.nt a r)) := by
  unfold Env.arg at ha
  split at ha
  · rename_i hat
    simp only [Option.bind_eq_some_iff] at ha
    obtain ⟨z, hz, ha⟩ := ha
    split at ha
    case isFalse => cases ha
    case isTrue hnt =>
    obtain rfl := Option.some.inj ha
    refine ⟨PV.frz_notTup hnt, .inl (noOwn_frz.1 _), .inl ⟨_, rfl, PV.frz_isMut, fun Zc hZ => RepV_frz hZ (by simp) (imm_rep hz)⟩⟩
  · rename_i t hat
    simp only [Option.bind_eq_some_iff] at ha
    obtain ⟨z, hz, ha⟩ := ha
    split at ha
    case isFalse => cases ha
    case isTrue hnt =>
    rw [at_eval hat]
    split at ha
    · rename_i hno
      obtain rfl := Option.some.inj ha
      obtain ⟨φy, hr, _⟩ := h.rel.content hz
      obtain rfl := RepV_noOwn hno hr
      exact ⟨hnt, .inl hno, .inl ⟨_, rfl, noOwn_isMut hno, fun Zc hZ => RepV_weaken hZ hnt hr⟩⟩
    · split at ha
      · rename_i y' hsl
        have hzy : z = y' := by simpa [RF.content, hsl] using hz.symm
        subst hzy
        split at ha
        · rename_i hm
          obtain rfl := Option.some.inj ha
          exact ⟨hnt, .inr hm, .inr (.inr ⟨_, _, rfl, hm, hsl, rfl⟩)⟩
        · rename_i hm
          obtain rfl := Option.some.inj ha
          exact ⟨PV.frz_notTup hnt, .inl (noOwn_frz.1 _), .inr (.inl ⟨_, _, rfl, PV.frz_isMut, fun Zc hZ hn => RepV_frz hZ hn (h.rel.vals t _ hsl)⟩)⟩
      · rename_i r p k n hsl
        split at ha
        · split at ha
          · rename_i g hg
            split at ha
            case isFalse => cases ha
            case isTrue hm =>
            obtain rfl := Option.some.inj ha
            have hok : F.ok r .self n = true := by
              unfold RF.content at hz
              rw [hsl] at hz
              simp only at hz
              split at hz
              · assumption
              · cases hz
            obtain ⟨g', y, u, hg', hf, hv⟩ := h.rel.pls t r [] .self n hsl hok
            simp only [follow, Option.some.injEq, Prod.mk.injEq] at hf
            simp only [viewOk] at hv
            exact ⟨(isMut_notTup hm).1, .inr hm, .inr (.inr ⟨_, _, rfl, hm, hg, by rw [hv.1, ← hf.2]⟩)⟩
          · cases ha
        · obtain rfl := Option.some.inj ha
          have hok : F.ok r k n = true := by
            unfold RF.content at hz
            rw [hsl] at hz
            simp only at hz
            split at hz
            · assumption
            · cases hz
          obtain ⟨g, y0, u, φy, hg, hf, hv, hget, hr, hsub⟩ := h.rel.plRep hsl hok
          have hz' : viewC y0 k = some z := by
            unfold RF.content at hz
            rw [hsl] at hz
            simpa [hok, hg, hget] using hz
          obtain ⟨φz, hsz, hrz⟩ := RepV_view hr hz' hv
          exact ⟨PV.frz_notTup hnt, .inl (noOwn_frz.1 _), .inr (.inl ⟨_, _, rfl, PV.frz_isMut, fun Zc hZ hn => RepV_frz hZ (fun b hb => hn b (hsub.subset (hsz.subset hb))) hrz⟩)⟩
      · cases ha

theorem args_ok {E : Env} {a : Act} (h : Pre E X Z w φ a F) {T : Nat → TypeId} : ∀ {xs : List Operand} {k : Nat} {as : List Arg}, E.args F T k xs = some as →
    (∀ y ∈ as, y.pv.notTup = true ∧ (y.pv.noOwn = true ∨ y.pv.isMut = true)) ∧ mutVals (as.map Arg.pv) (xs.map a.eval) = (muts as).map (tmOf E.nt a) ∧ (∀ r ∈ muts as, ∃ cs, F.slot r = .val (.ptr true cs)) ∧
    ∀ Zc : Nat → Prop, (∀ b, b < w.heap.size → Zc b → Z b) → (∀ r ∈ lents as, ∀ b ∈ φ r, ¬ Zc b) → (∀ r ∈ muts as, ∀ b ∈ φ r, Zc b) → RepTs w Zc (as.map Arg.pv) ((muts as).flatMap φ) (xs.map a.eval)
  | [], k, as, ha => by
    simp only [Env.args, Option.some.injEq] at ha; subst ha
    exact ⟨by simp, by simp [mutVals, muts], by simp [muts], fun Zc _ _ _ => by simp [RepTs, muts]⟩
  | x :: xs, k, as, ha => by
    simp only [Env.args, Option.bind_eq_some_iff, Option.map_eq_some_iff] at ha
    obtain ⟨y, hy, as', has, rfl⟩ := ha
    obtain ⟨h1, h2, h3, h4⟩ := args_ok h has
    obtain ⟨k1, k2, k3⟩ := arg_ok h hy
    refine ⟨fun z hz => (List.mem_cons.1 hz).elim (fun e => e ▸ ⟨k1, k2⟩) (h1 z), ?_⟩
    rcases k3 with ⟨z, rfl, hm, hr⟩ | ⟨z, r, rfl, hm, hr⟩ | ⟨z, r, rfl, hm, hsl, hev⟩
    · refine ⟨by simp [mutVals, Arg.pv, hm, muts, h2], h3, fun Zc hZ hl hmu => ?_⟩
      exact RepTs_cons.2 ⟨[], _, _, _, rfl, rfl, RepV_RepV1 k1 (hr Zc hZ), h4 Zc hZ hl hmu⟩
    · refine ⟨by simp [mutVals, Arg.pv, hm, muts, h2], h3, fun Zc hZ hl hmu => ?_⟩
      exact RepTs_cons.2 ⟨[], _, _, _, rfl, rfl, RepV_RepV1 k1 (hr Zc hZ (hl r (by simp [lents]))), h4 Zc hZ (fun r' hr' => hl r' (by simp [lents, hr'])) hmu⟩
    · obtain ⟨_, cs, rfl⟩ := isMut_notTup hm
      refine ⟨by simp [mutVals, Arg.pv, hm, muts, h2, hev], ?_, fun Zc hZ hl hmu => ?_⟩
      · intro r' hr'
        simp only [muts, List.mem_cons] at hr'
        rcases hr' with rfl | hr'
        · exact ⟨cs, hsl⟩
        · exact h3 r' hr'
      · have hrr := h.rel.vals r _ hsl
        have hk : Keeps w w Z Zc (φ r) := by
          intro b hb hmm
          refine ⟨⟨fun hz => ?_, hZ b hb⟩, rfl⟩
          rcases hmm with hmm | hmm
          · exact hmu r (by simp [muts]) b hmm
          · exact absurd hz hmm
        refine RepTs_cons.2 ⟨φ r, _, _, _, by simp [muts], rfl, ?_, h4 Zc hZ hl (fun r' hr' => hmu r' (by simp [muts, hr']))⟩
        rw [hev]; exact RepV_RepV1 rfl (RepV_frame hk hrr)

def TblOk (E : Env) : Prop := ∀ f, Impl E.P E.G f (E.tbl f)

theorem RepTs_append {xs ys : List PV} {φ₂ : List Nat} {us : List Value} (h2 : RepTs w Z ys φ₂ us) : ∀ {xs φ₁ vs}, RepTs w Z xs φ₁ vs → RepTs w Z (xs ++ ys) (φ₁ ++ φ₂) (vs ++ us)
  | [], φ₁, vs, h1 => by simp only [RepTs] at h1; rw [h1.1, h1.2]; simpa using h2
  | x :: xs, φ₁, vs, h1 => by
    obtain ⟨ψ₁, ψ₂, v, vs', rfl, rfl, k1, k2⟩ := RepTs_cons.1 h1
    exact RepTs_cons.2 ⟨ψ₁, ψ₂ ++ φ₂, v, vs' ++ us, by simp, rfl, k1, RepTs_append (xs := xs) h2 k2⟩
theorem mutVals_append {ys : List PV} {us : List Value} (hy : ∀ y ∈ ys, y.isMut = false) : ∀ {xs : List PV} {vs : List Value}, xs.length = vs.length → mutVals (xs ++ ys) (vs ++ us) = mutVals xs vs
  | [], [], _ => by
    have : ∀ {ys : List PV} {us : List Value}, (∀ y ∈ ys, y.isMut = false) → mutVals ys us = [] := by
      intro ys
      induction ys with
      | nil => intro us _; rfl
      | cons y ys ih =>
        intro us h
        cases us with
        | nil => rfl
        | cons u us => simp only [mutVals, h y (by simp), Bool.false_eq_true, if_false]; exact ih (fun y hm => h y (by simp [hm]))
    simp only [List.nil_append, this hy, mutVals]
  | x :: xs, v :: vs, h => by
    simp only [List.cons_append, mutVals, mutVals_append hy (show xs.length = vs.length by simpa using h)]
  | [], _ :: _, h => by simp at h
  | _ :: _, [], h => by simp at h
theorem caps_RepTs {Z' : Nat → Prop} (hZ : ∀ b, b < w.heap.size → Z' b → Z b) : ∀ {cs : List PV} {cv : List Value}, (∀ c ∈ cs, c.cell1 = true) → RepL w Z cs [] cv → RepTs w Z' cs [] cv
  | [], cv, _, h => by rw [RepL_nil] at h; rw [h.2]; simp [RepTs]
  | c :: cs, cv, hc, h => by
    obtain ⟨φ₁, φ₂, v₁, v₂, e, rfl, h1, h2⟩ := RepL_cons.1 h
    obtain ⟨rfl, rfl⟩ := List.append_eq_nil_iff.1 e.symm
    have hl : v₁.length = 1 := by rw [h1.length, PV.cell1_width (hc c (by simp))]
    obtain ⟨v, rfl⟩ := List.length_eq_one_iff.1 hl
    refine RepTs_cons.2 ⟨[], [], v, v₂, rfl, rfl, ?_, caps_RepTs hZ (fun c hm => hc c (by simp [hm])) h2⟩
    have h3 := (Rep_weaken hZ).1 _ _ h1
    have hcc := hc c (by simp)
    cases c <;> first | exact h3 | simp [PV.cell1] at hcc

theorem semCall_ok {E : Env} (hT : TblOk E) {o : Oper} {c : Call} {a : Act} {F' : RF} (h : Pre E X Z w φ a F) (ho : o.op = .call c) (hs : semCall E o c F = some F') :
    Yld E.P o a w (Out X Z w (tmOf E.nt a) o.dst F') := by
  unfold semCall at hs
  split at hs
  case h_2 => cases hs
  rename_i f hcallee
  split at hs
  case h_2 => cases hs
  rename_i fid caps hrd
  split at hs
  case isFalse => cases hs
  case isTrue hc =>
  obtain ⟨hcall, hcaps⟩ := hc
  simp only [Option.bind_eq_some_iff] at hs
  obtain ⟨as, has, hs⟩ := hs
  obtain ⟨a1, a2, a3, a4⟩ := args_ok h has
  obtain ⟨φf, hrf, _⟩ := rd_rep h hrd
  rw [RepV_cell rfl] at hrf
  simp only [Rep] at hrf
  obtain ⟨_, cv, hfv, hcl, hc1⟩ := hrf
  have hfv' : a.eval f = .func (.func fid) #[] cv.toArray := by simpa using hfv
  -- what is lent is nobody's while the call lasts
  let Zc : Nat → Prop := fun b => Z b ∧ ∀ r ∈ lents as, b ∉ φ r
  have hlen : (as.map Arg.pv).length = (c.args.toList.map a.eval).length := by
    have : ∀ {T : Nat → TypeId} {xs : List Operand} {k : Nat} {as : List Arg}, E.args F T k xs = some as → as.length = xs.length := by
      intro T xs
      induction xs with
      | nil => intro k as h; simp only [Env.args, Option.some.injEq] at h; rw [← h]; rfl
      | cons x xs ih =>
        intro k as h
        simp only [Env.args, Option.bind_eq_some_iff, Option.map_eq_some_iff] at h
        obtain ⟨y, _, as', has, rfl⟩ := h
        simp [ih has]
    simp [this has]
  have hnomut : ∀ y ∈ caps, y.isMut = false := by
    have : ∀ {cs : List PV}, noOwnL cs = true → ∀ y ∈ cs, y.isMut = false := by
      intro cs
      induction cs with
      | nil => intro _ y hy; simp at hy
      | cons c cs ih =>
        intro hn y hy
        simp only [noOwnL, Bool.and_eq_true] at hn
        rcases List.mem_cons.1 hy with rfl | hy
        · exact noOwn_isMut hn.1
        · exact ih hn.2 y hy
    exact this hcaps
  have hcapok : ∀ y ∈ caps, y.notTup = true ∧ (y.noOwn = true ∨ y.isMut = true) := by
    have : ∀ {cs : List PV}, noOwnL cs = true → ∀ y ∈ cs, y.noOwn = true := by
      intro cs
      induction cs with
      | nil => intro _ y hy; simp at hy
      | cons c cs ih =>
        intro hn y hy
        simp only [noOwnL, Bool.and_eq_true] at hn
        rcases List.mem_cons.1 hy with rfl | hy
        · exact hn.1
        · exact ih hn.2 y hy
    intro y hy
    refine ⟨?_, .inl (this hcaps y hy)⟩
    have := hc1 y hy
    cases y <;> simp_all [PV.cell1, PV.notTup]
  have hglob : GlobOk E.G Zc w := fun g cs hg => (Rep_weaken (fun b _ hb => hb.1)).1 _ _ (h.rel.glob g cs (by rw [h.glob]; exact hg))
  have hexec : (execOp a.eval o).run E.P w = .ok (.enter fid ((c.args.toList.map a.eval) ++ cv).toArray) w := by
    unfold execOp; rw [ho]
    have : c.args.map a.eval ++ cv.toArray = ((c.args.toList.map a.eval) ++ cv).toArray := by apply Array.ext'; simp
    simp [resolve, hcallee, hfv', Deferred.ofValue, invoke, this, run_callFunc hcall]
  -- what the callee does
  have hcalls : ∀ {φm : List Nat} {r outs} , (∀ r ∈ muts as, ∀ b ∈ φ r, Zc b) → (muts as).flatMap φ = φm → φm.Nodup → E.tbl fid (as.map Arg.pv ++ caps) = some (r, outs) →
      Calls E.P fid ((c.args.toList.map a.eval) ++ cv).toArray w fun e w' => ∃ v Z' φr φo, e = .returned v ∧ RepV w' Z' r φr v ∧ RepTs w' Z' outs φo ((muts as).map (tmOf E.nt a)) ∧ (φr ++ φo).Nodup ∧
      (∀ b ∈ φr ++ φo, b ∈ φm ∨ w.heap.size ≤ b) ∧ Stp (fun b => b ∈ φm ∨ w.heap.size ≤ b) w w' ∧ (∀ b, b < w.heap.size → b ∉ φm → (Zc b ↔ Z' b)) := by
    intro φm r outs hmu hφm hnd htbl
    have hrep := RepTs_append (xs := []) (caps_RepTs (Z' := Zc) (fun b _ hb => hb.1) hc1 hcl) (a4 Zc (fun b _ hb => hb.1) (fun r hr b hb hz => hz.2 r hr hb) hmu)
    rw [hφm, List.append_nil] at hrep
    have := hT fid w Zc (as.map Arg.pv ++ caps) _ φm r outs hrep hnd (by
      intro x hx
      rcases List.mem_append.1 hx with hx | hx
      · obtain ⟨y, hy, rfl⟩ := List.mem_map.1 hx; exact a1 y hy
      · exact hcapok x hx) hglob htbl
    rw [mutVals_append hnomut hlen, a2] at this
    exact this
  have hyld : ∀ {R : Value → World → Prop}, Calls E.P fid ((c.args.toList.map a.eval) ++ cv).toArray w (fun e w' => ∃ v, e = .returned v ∧ R v w') → Yld E.P o a w R := by
    intro R hR K Q hK
    unfold Oper.wp; rw [hexec]
    simp only [Oper.upon]
    exact hR.mono fun e w' ⟨v, he, hr⟩ => by subst he; exact hK v w' hr
  split at hs
  · -- nothing is written through
    rename_i r htbl hmuts
    split at hs
    case isFalse => cases hs
    case isTrue hlent =>
    obtain rfl := Option.some.inj hs
    refine hyld ((hcalls (φm := []) (by rw [hmuts]; simp) (by rw [hmuts]; rfl) List.nodup_nil htbl).mono ?_)
    rintro e w' ⟨v, Z', φr, φo, rfl, hr, ho', hnd, hfresh, hstp, hz⟩
    refine ⟨v, rfl, ?_⟩
    rw [hmuts] at ho'
    simp only [List.map_nil] at ho'
    let Zn : Nat → Prop := fun b => if b < w.heap.size then Z b else Z' b
    have hfr : ∀ b ∈ φr, w.heap.size ≤ b := fun b hb => (hfresh b (by simp [hb])).resolve_left (by simp)
    have hrn : RepV w' Zn r φr v := by
      rcases hlent with hl | hown
      · refine RepV_frame (w := w') (Z := Z') (fun b hb hm => ⟨?_, rfl⟩) hr
        by_cases hlt : b < w.heap.size
        · have := hz b hlt (by simp)
          simp only [Zn, hlt, if_true, ← this, Zc, hl]; simp
        · simp [Zn, hlt]
      · exact RepV_allOwn hown (fun b hb => by simp only [Zn, show ¬ b < w.heap.size by have := hfr b hb; omega, if_false]; exact (RepV_lt hr b hb).2) hr
    have hrel := h.rel.keep (w' := w') (Z' := Zn) (fun b hb hm => ⟨by simp [Zn, hb], hstp.block b hb (by simp; omega)⟩)
    obtain ⟨φ', hr2⟩ := hrel.outVal (d := o.dst) hrn (List.nodup_append.1 hnd).1 (fun b hb => h.new b (hfr b hb)) (fun u b hb hb2 => by have := (h.rel.lt hb2).1; have := hfr b hb; omega)
    refine ⟨Zn, φ', hr2, ⟨hstp.os, hstp.tape, hstp.output, hstp.size, fun b hb hm => hstp.block b hb (fun hh => by simp at hh; omega)⟩, fun b hb _ => by simp [Zn, hb]⟩
  · -- one argument is written through
    rename_i r out m htbl hmuts
    split at hs
    case isFalse => cases hs
    case isTrue hcc =>
    obtain ⟨hlent, hnl, hont⟩ := hcc
    obtain rfl := Option.some.inj hs
    have hmnl : m ∉ lents as := by intro hm; rw [List.contains_eq_mem] at hnl; simp [hm] at hnl
    have hmZ : ∀ b ∈ φ m, Zc b := fun b hb => ⟨(h.rel.lt hb).2, fun r hr hb2 => hmnl (h.rel.disj m r b hb hb2 ▸ hr)⟩
    refine hyld ((hcalls (φm := φ m) (by rw [hmuts]; simpa using hmZ) (by rw [hmuts]; simp) (h.rel.nodup m) htbl).mono ?_)
    rintro e w' ⟨v, Z', φr, φo, rfl, hr, ho', hnd, hfresh, hstp, hz⟩
    refine ⟨v, rfl, ?_⟩
    rw [hmuts] at ho'
    simp only [List.map_cons, List.map_nil] at ho'
    obtain ⟨ψ₁, ψ₂, v1, vs1, rfl, e1, ho1, ho2⟩ := RepTs_cons.1 ho'
    simp only [RepTs] at ho2
    obtain ⟨rfl, rfl⟩ := ho2
    obtain rfl : tmOf E.nt a m = v1 := by simpa using e1
    rw [List.append_nil] at hnd hfresh
    have hnd' := List.nodup_append.1 hnd
    let Zn : Nat → Prop := fun b => if b < w.heap.size ∧ b ∉ φ m then Z b else Z' b
    have hzn : ∀ b, (lents as = []) → b < w'.heap.size → (Z' b ↔ Zn b) := by
      intro b hl _
      by_cases hlt : b < w.heap.size ∧ b ∉ φ m
      · have := hz b hlt.1 hlt.2
        simp only [Zn, if_pos hlt, ← this, Zc, hl]; simp
      · simp [Zn, hlt]
    have hin : ∀ b ∈ φr ++ ψ₁, Z' b → Zn b := by
      intro b hb hzb
      have hnot : ¬ (b < w.heap.size ∧ b ∉ φ m) := by
        rintro ⟨h1, h2⟩
        rcases hfresh b hb with h3 | h3
        · exact h2 h3
        · omega
      simp [Zn, hnot, hzb]
    have hrn : RepV w' Zn r φr v := by
      rcases hlent with hl | ⟨hown, _⟩
      · exact RepV_frame (w := w') (Z := Z') (fun b hb hm => ⟨hzn b hl hb, rfl⟩) hr
      · exact RepV_allOwn hown (fun b hb => hin b (by simp [hb]) (RepV_lt hr b hb).2) hr
    have hoV : RepV w' Z' out ψ₁ (tmOf E.nt a m) := by
      rcases PV.tup_or out with ⟨xs, rfl⟩ | ⟨e, _⟩
      · simp [PV.notTup] at hont
      · rw [e]; exact ho1
    have hon : RepV w' Zn out ψ₁ (tmOf E.nt a m) := by
      rcases hlent with hl | ⟨_, hown⟩
      · exact RepV_frame (w := w') (Z := Z') (fun b hb hm => ⟨hzn b hl hb, rfl⟩) hoV
      · exact RepV_allOwn hown (fun b hb => hin b (by simp [hb]) (RepV_lt hoV b hb).2) hoV
    have h1 := h.rel.setDead m (tmOf E.nt a m)
    rw [upd_eta] at h1
    have hnotm : ∀ b, b < w.heap.size → ((∃ t, b ∈ upd φ m [] t) ∨ ¬ Z b) → b ∉ φ m := by
      intro b hb hm hbm
      rcases hm with ⟨t, ht⟩ | hm
      · by_cases e : t = m
        · simp [upd, e] at ht
        · rw [upd_ne _ _ e] at ht; exact e (h.rel.disj t m b ht hbm)
      · exact hm (h.rel.lt hbm).2
    have h2 := h1.keep (w' := w') (Z' := Zn) (fun b hb hm => by
      have hbm := hnotm b hb hm
      exact ⟨by simp [Zn, hb, hbm], hstp.block b hb (fun hh => hh.elim hbm (by omega))⟩)
    have hmine : ∀ b ∈ φr ++ ψ₁, X.mine b := fun b hb => (hfresh b hb).elim (fun hb2 => h.rel.mine m b hb2) (h.new b)
    have hapart : ∀ u, u ≠ m → ∀ b ∈ φr ++ ψ₁, b ∉ φ u := by
      intro u hu b hb hb2
      rcases hfresh b hb with h3 | h3
      · exact hu (h.rel.disj u m b hb2 h3)
      · have := (h.rel.lt hb2).1; omega
    have h3 := h2.setVal (t := m) hon hnd'.2.1 (fun b hb => hmine b (by simp [hb])) (fun u hu b hb => by rw [upd_ne _ _ hu]; exact hapart u hu b (by simp [hb]))
    rw [upd_eta] at h3
    obtain ⟨φ', hr2⟩ := h3.outVal (d := o.dst) hrn hnd'.1 (fun b hb => hmine b (by simp [hb])) (fun u b hb => by
      by_cases hu : u = m
      · subst hu; rw [upd_self]; exact fun hb2 => hnd'.2.2 b hb b hb2 rfl
      · rw [upd_ne _ _ hu, upd_ne _ _ hu]; exact hapart u hu b (by simp [hb]))
    exact ⟨Zn, φ', hr2, ⟨hstp.os, hstp.tape, hstp.output, hstp.size, fun b hb hm => hstp.block b hb (fun hh => hh.elim (fun hb2 => hm (h.rel.mine m b hb2)) (fun _ => by omega))⟩,
      fun b hb hm => by have : b ∉ φ m := fun hb2 => hm (h.rel.mine m b hb2); simp [Zn, hb, this]⟩
  · cases hs
end Go.V
