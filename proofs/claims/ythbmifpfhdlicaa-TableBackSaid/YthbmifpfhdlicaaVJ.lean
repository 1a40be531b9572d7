/- Operations on memory: addresses of fields and elements, parts of slices, lengths. -/
import Derived.Test.YthbmifpfhdlicaaVI
namespace Go.V
set_option linter.unusedVariables false
set_option linter.unusedSimpArgs false
variable {X : Cx} {Z : Nat → Prop} {w : World} {φ : Tmp → List Nat} {tm : Tmp → Value} {F : RF}

/-! ### nilCheck, fieldAddr -/
def semNil (E : Env) (o : Oper) (x : Operand) (F : RF) : Option RF :=
  if (E.target F x).isSome = true then semMove E o x F else none
theorem semNil_ok {E : Env} {o : Oper} {x : Operand} {a : Act} {F' : RF} (h : Pre E X Z w φ a F) (ho : o.op = .nilCheck x) (hs : semNil E o x F = some F') :
    Yld E.P o a w (Out X Z w (tmOf E.nt a) o.dst F') := by
  unfold semNil at hs
  split at hs
  case isFalse => cases hs
  case isTrue htg =>
  obtain ⟨⟨r, p, i, j⟩, htg⟩ := Option.isSome_iff_exists.1 htg
  simp only [Env.target, Option.bind_eq_some_iff] at htg
  obtain ⟨t, hat, htg⟩ := htg
  obtain ⟨g, y, u, A, hg, hf, hget, hA, hv, hsp, _⟩ := h.rel.target htg
  refine Yld.value (w' := w) (v := a.eval x) ?_ (semMove_out h hs)
  unfold execOp; rw [ho]; simp [at_eval hat, hv]

def semField (E : Env) (o : Oper) (S : TypeId) (x : Operand) (f : Nat) (F : RF) : Option RF :=
  match E.P.underlying S with
  | some (.struct fs) => (fs[f]?).bind fun fd =>
    if (E.P.info? fd.type).isSome = true ∧ esz E.P fd.type ≠ 0 then
      (E.target F x).bind fun (r, p, i, j) => if o.dst = some r then none else some (setD F o.dst (.pl r p (.addr i (j + fd.offset)) (F.ver r)))
    else none
  | _ => none
theorem semField_ok {E : Env} {o : Oper} {S : TypeId} {x : Operand} {f : Nat} {a : Act} {F' : RF} (h : Pre E X Z w φ a F) (ho : o.op = .fieldAddr S x f) (hs : semField E o S x f F = some F') :
    Yld E.P o a w (Out X Z w (tmOf E.nt a) o.dst F') := by
  unfold semField at hs
  split at hs
  case h_2 => cases hs
  rename_i fs hu
  simp only [Option.bind_eq_some_iff] at hs
  obtain ⟨fd, hfd, hs⟩ := hs
  split at hs
  case isFalse => cases hs
  case isTrue hc =>
  obtain ⟨hi, hne⟩ := hc
  simp only [Option.bind_eq_some_iff] at hs
  obtain ⟨⟨r, p, i, j⟩, htg, hs⟩ := hs
  simp only at hs
  split at hs
  · cases hs
  rename_i hd
  obtain rfl := Option.some.inj hs
  simp only [Env.target, Option.bind_eq_some_iff] at htg
  obtain ⟨t, hat, htg⟩ := htg
  obtain ⟨g, y, u, A, hg, hf, hget, hA, hv, hsp, _⟩ := h.rel.target htg
  have hA2 : place y u i (j + fd.offset) = some (A.add fd.offset) := by
    obtain ⟨A0, hA0, rfl⟩ := place0 hA
    rw [add_lit rfl]
    cases y with
    | sl f sz xs => cases u with
      | slice a l c => cases a with
        | none => simp [place] at hA
        | some a => simp only [place, Option.some.injEq] at hA0 ⊢; subst hA0; simp [Nat.add_assoc]
      | _ => simp [place] at hA
    | ptr f cs => cases u with
      | pointer a => cases a with
        | none => simp [place] at hA
        | some a => simp only [place, Option.some.injEq] at hA0 ⊢; subst hA0; simp [Nat.add_assoc]
      | _ => simp [place] at hA
    | _ => simp [place] at hA
  refine Yld.value (w' := w) (v := .pointer (some (A.add fd.offset))) ?_ ?_
  · unfold execOp; rw [ho]
    simp [Instr.fieldAt, run_underlying hu, hfd, at_eval hat, hv, Instr.sureAddr, fieldPlace, run_size hi, hne]
  · obtain ⟨φ', hr⟩ := h.rel.outPl (d := o.dst) (r := r) (p := p) (k := .addr i (j + fd.offset)) (v := .pointer (some (A.add fd.offset))) hd ⟨g, y, u, hg, hf, A.add fd.offset, hA2, rfl⟩
    exact ⟨Z, φ', hr, Stp.refl _ _, fun _ _ _ => Iff.rfl⟩

/-! ### Where a slice lies -/
/-- root, way, from where to where; the elements' cells, the elements there -/
def Env.sloc (E : Env) (F : RF) (x : Operand) : Option (Tmp × Path × Nat × Nat × Nat × List PV) :=
  (E.at x).bind fun t =>
    match F.slot t with
    | .val (.sl _ sz xs) => some (t, [], 0, xs.length, sz, xs)
    | .pl r p k n =>
      if F.ok r k n = true then
        match F.slot r with
        | .val g =>
          match g.get? p with
          | some (.sl _ sz xs) =>
            match k with
            | .self => some (r, p, 0, xs.length, sz, xs)
            | .sub lo hi => if lo ≤ hi ∧ hi ≤ xs.length then some (r, p, lo, hi, sz, xs) else none
            | _ => none
          | _ => none
        | _ => none
      else none
    | _ => none

theorem sloc_ok {E : Env} {a : Act} (h : Pre E X Z w φ a F) {x : Operand} {r : Tmp} {p : Path} {lo hi sz : Nat} {xs : List PV} (hl : E.sloc F x = some (r, p, lo, hi, sz, xs)) :
    lo ≤ hi ∧ hi ≤ xs.length ∧ ∃ g f ad cap ad' φy, F.slot r = .val g ∧ g.get? p = some (.sl f sz xs) ∧ follow w g (tmOf E.nt a r) p = some (.sl f sz xs, .slice ad xs.length cap) ∧
      Rep w Z (.sl f sz xs) φy [.slice ad xs.length cap] ∧ φy.Sublist (φ r) ∧ a.eval x = .slice ad' (hi - lo) (cap - lo) ∧ (cap ≠ lo → ad' = ad.map (·.add (lo * sz))) := by
  simp only [Env.sloc, Option.bind_eq_some_iff] at hl
  obtain ⟨t, hat, hl⟩ := hl
  rw [at_eval hat]
  have hrep : ∀ {f sz xs φy u}, RepV w Z (.sl f sz xs) φy u → ∃ ad cap, u = .slice ad xs.length cap := by
    intro f sz xs φy u hr
    rw [RepV_cell rfl] at hr
    simp only [Rep] at hr
    obtain ⟨ad, cap, ψ, ch, hv, _⟩ := hr
    exact ⟨ad, cap, by simpa using hv⟩
  have h0 : ∀ (ad : Option Addr) (sz : Nat), ad = ad.map (fun x : Addr => x.add (0 * sz)) := by
    intro ad sz; cases ad <;> simp [Addr.add]
  split at hl
  · rename_i f sz' xs' hs
    simp only [Option.some.injEq, Prod.mk.injEq] at hl
    obtain ⟨rfl, rfl, rfl, rfl, rfl, rfl⟩ := hl
    have hr := h.rel.vals t _ hs
    obtain ⟨ad, cap, hv⟩ := hrep hr
    refine ⟨Nat.zero_le _, Nat.le_refl _, _, f, ad, cap, ad, φ t, hs, rfl, by simp [follow, hv], ?_, List.Sublist.refl _, by rw [hv]; rfl, fun _ => h0 _ _⟩
    rw [RepV_cell rfl, hv] at hr; exact hr
  · rename_i r' p' k n hs
    split at hl
    case isFalse => cases hl
    case isTrue hok =>
    obtain ⟨g, y, u, φy, hg, hf, hv, hget, hr, hsub⟩ := h.rel.plRep hs hok
    simp only [hg, hget] at hl
    split at hl
    case h_2 => cases hl
    rename_i f sz' xs' he
    obtain rfl := Option.some.inj he
    obtain ⟨ad, cap, rfl⟩ := hrep hr
    rw [RepV_cell rfl] at hr
    cases k with
    | self =>
      simp only [Option.some.injEq, Prod.mk.injEq] at hl
      obtain ⟨rfl, rfl, rfl, rfl, rfl, rfl⟩ := hl
      simp only [viewOk] at hv
      exact ⟨Nat.zero_le _, Nat.le_refl _, g, f, ad, cap, ad, φy, hg, hget, hf, hr, hsub, by rw [hv.1]; rfl, fun _ => h0 _ _⟩
    | sub lo' hi' =>
      simp only at hl
      split at hl
      case isFalse => cases hl
      case isTrue hb =>
      simp only [Option.some.injEq, Prod.mk.injEq] at hl
      obtain ⟨rfl, rfl, rfl, rfl, rfl, rfl⟩ := hl
      simp only [viewOk] at hv
      obtain ⟨f2, sz2, xs2, ad2, cap2, ad3, e1, e2, hv, had⟩ := hv
      obtain ⟨rfl, rfl, rfl⟩ : f = f2 ∧ sz' = sz2 ∧ xs' = xs2 := by simpa using e1
      obtain ⟨rfl, rfl⟩ : ad = ad2 ∧ cap = cap2 := by simpa using e2
      exact ⟨hb.1, hb.2, g, f, ad, cap, ad3, φy, hg, hget, hf, hr, hsub, hv, had⟩
    | _ => simp at hl
  · cases hl

/-! ### indexAddr -/
def semIndex (E : Env) (o : Oper) (T : TypeId) (x ix : Operand) (F : RF) : Option RF :=
  match E.vl F ix with
  | some (.int _ n) =>
    match E.P.underlying T with
    | some (.slice e) => (E.sloc F x).bind fun (r, p, lo, hi, sz, _) =>
      if 0 ≤ n ∧ n < ((hi - lo : Nat) : Int) then
        if (E.P.info? e).isSome = true ∧ sz = esz E.P e ∧ o.dst ≠ some r then some (setD F o.dst (.pl r p (.addr (lo + n.toNat) 0) (F.ver r))) else none
      else none
    | some (.array len e) => (E.target F x).bind fun (r, p, i, j) =>
      if 0 ≤ n ∧ n < (len : Int) then
        if (E.P.info? e).isSome = true ∧ o.dst ≠ some r then some (setD F o.dst (.pl r p (.addr i (j + n.toNat * esz E.P e)) (F.ver r))) else none
      else none
    | _ => none
  | _ => none

theorem place_shift {y : PV} {u : Value} {i j n : Nat} {A : Addr} (hA : place y u i j = some A) : place y u i (j + n) = some (A.add n) := by
  obtain ⟨A0, hA0, rfl⟩ := place0 hA
  rw [add_lit rfl]
  cases y with
  | sl f sz xs => cases u with
    | slice a l c => cases a with
      | none => simp [place] at hA
      | some a => simp only [place, Option.some.injEq] at hA0 ⊢; subst hA0; simp [Nat.add_assoc]
    | _ => simp [place] at hA
  | ptr f cs => cases u with
    | pointer a => cases a with
      | none => simp [place] at hA
      | some a => simp only [place, Option.some.injEq] at hA0 ⊢; subst hA0; simp [Nat.add_assoc]
    | _ => simp [place] at hA
  | _ => simp [place] at hA

theorem semIndex_ok {E : Env} {o : Oper} {T : TypeId} {x ix : Operand} {a : Act} {F' : RF} (h : Pre E X Z w φ a F) (ho : o.op = .indexAddr T x ix) (hs : semIndex E o T x ix F = some F') :
    Yld E.P o a w (Out X Z w (tmOf E.nt a) o.dst F') := by
  unfold semIndex at hs
  split at hs
  case h_2 => cases hs
  rename_i k n hix
  have hvi := vl_eq h hix
  split at hs
  · rename_i e hu
    simp only [Option.bind_eq_some_iff] at hs
    obtain ⟨⟨r, p, lo, hi, sz, xs⟩, hloc, hs⟩ := hs
    simp only at hs
    split at hs
    case isFalse => cases hs
    case isTrue hb =>
    split at hs
    case isFalse => cases hs
    case isTrue hc =>
    obtain ⟨hinf, hsz, hd⟩ := hc
    obtain rfl := Option.some.inj hs
    obtain ⟨h1, h2, g, f, ad, cap, ad', φy, hg, hget, hf, hr, hsub, hv, had⟩ := sloc_ok h hloc
    have hr' := hr
    simp only [Rep] at hr'
    obtain ⟨ad2, cap2, ψ, ch, e2, hlc, _, _, hh⟩ := hr'
    obtain ⟨rfl, rfl⟩ : ad = ad2 ∧ cap = cap2 := by simpa using e2
    rcases hh with ⟨rfl, _⟩ | ⟨b, off, cs, T', fr, rfl, _⟩
    · simp at h2; omega
    · have hcl : cap ≠ lo := by omega
      have ha' : ad' = some ⟨b, off + lo * sz, none⟩ := by rw [had hcl]; simp [add_lit]
      refine Yld.value (w' := w) (v := .pointer (some ⟨b, off + lo * sz + n.toNat * sz, none⟩)) ?_ ?_
      · unfold execOp; rw [ho]
        simp [Instr.indexAt, hvi, asIntOf, run_underlying hu, hv, ha', hb.1, hb.2, run_size hinf, ← hsz, add_lit]
      · obtain ⟨φ', hr2⟩ := h.rel.outPl (d := o.dst) (r := r) (p := p) (k := .addr (lo + n.toNat) 0) (v := .pointer (some ⟨b, off + lo * sz + n.toNat * sz, none⟩)) hd
          ⟨g, _, _, hg, hf, _, rfl, by simp [Nat.add_mul, Nat.add_assoc]⟩
        exact ⟨Z, φ', hr2, Stp.refl _ _, fun _ _ _ => Iff.rfl⟩
  · rename_i len e hu
    simp only [Option.bind_eq_some_iff] at hs
    obtain ⟨⟨r, p, i, j⟩, htg, hs⟩ := hs
    simp only at hs
    split at hs
    case isFalse => cases hs
    case isTrue hb =>
    split at hs
    case isFalse => cases hs
    case isTrue hc =>
    obtain ⟨hinf, hd⟩ := hc
    obtain rfl := Option.some.inj hs
    simp only [Env.target, Option.bind_eq_some_iff] at htg
    obtain ⟨t, hat, htg⟩ := htg
    obtain ⟨g, y, u, A, hg, hf, hget, hA, hv, hsp, _⟩ := h.rel.target htg
    refine Yld.value (w' := w) (v := .pointer (some (A.add (n.toNat * esz E.P e)))) ?_ ?_
    · unfold execOp; rw [ho]
      simp [Instr.indexAt, hvi, asIntOf, run_underlying hu, at_eval hat, hv, Instr.sureAddr, hb.1, hb.2, run_size hinf]
    · obtain ⟨φ', hr2⟩ := h.rel.outPl (d := o.dst) (r := r) (p := p) (k := .addr i (j + n.toNat * esz E.P e)) hd ⟨g, y, u, hg, hf, _, place_shift hA, rfl⟩
      exact ⟨Z, φ', hr2, Stp.refl _ _, fun _ _ _ => Iff.rfl⟩
  · cases hs

/-! ### Parts of slices -/
def Env.bound (E : Env) (F : RF) (dflt : Nat) : Option Operand → Option Int
  | none => some dflt
  | some x => match E.vl F x with
    | some (.int _ n) => some n
    | _ => none
def semSlice (E : Env) (o : Oper) (T : TypeId) (x : Operand) (l h m : Option Operand) (F : RF) : Option RF :=
  if m.isSome = true then none else
  match E.P.underlying T with
  | some (.slice e) => (E.sloc F x).bind fun (r, p, lo, hi, sz, xs) =>
    (E.bound F 0 l).bind fun i => (E.bound F (hi - lo) h).bind fun j =>
      if 0 ≤ i ∧ i ≤ j ∧ j ≤ ((hi - lo : Nat) : Int) then
        if (E.P.info? e).isSome = true ∧ sz = esz E.P e then
          let c := PV.sl false sz ((xs.drop (lo + i.toNat)).take (j.toNat - i.toNat))
          match F.slot r with
          | .val g => if (g.get? p).any PV.noOwn = true then some (setD F o.dst (.val c))
            else if o.dst = some r then none else some (setD F o.dst (.pl r p (.sub (lo + i.toNat) (lo + j.toNat)) (F.ver r)))
          | _ => none
        else none
      else none
  | some (.array n e) => (E.target F x).bind fun (r, p, i, j) =>
    (E.bound F 0 l).bind fun lo => (E.bound F n h).bind fun hi =>
      if 0 ≤ lo ∧ lo ≤ hi ∧ hi ≤ (n : Int) then
        match F.slot r with
        | .val g => ((g.get? p).bind fun y => y.row i).bind fun row =>
          if (E.P.info? e).isSome = true ∧ esz E.P e = 1 ∧ j + n ≤ row.length ∧ o.dst ≠ some r then some (setD F o.dst (.pl r p (.arr i j lo.toNat hi.toNat n) (F.ver r))) else none
        | _ => none
      else none
  | _ => semPure E o F

theorem bound_ok {E : Env} {a : Act} (h : Pre E X Z w φ a F) {d len cap : Nat} {x : Option Operand} {i : Int} (hb : E.bound F d x = some i) :
    (x = none ∧ i = d) ∨ ∃ y k, x = some y ∧ a.eval y = .int k i := by
  cases x with
  | none => simp only [Env.bound, Option.some.injEq] at hb; exact .inl ⟨rfl, hb.symm⟩
  | some y =>
    simp only [Env.bound] at hb
    split at hb
    · rename_i k n hv
      obtain rfl := Option.some.inj hb
      exact .inr ⟨y, k, rfl, vl_eq h hv⟩
    · cases hb

theorem run_bounds {E : Env} {a : Act} (h : Pre E X Z w φ a F) {b : Bool} {len cap d : Nat} {l hh : Option Operand} {i j : Int} (hl : E.bound F 0 l = some i) (hj : E.bound F len hh = some j)
    (h0 : 0 ≤ i) (h1 : i ≤ j) (h2 : j ≤ (len : Int)) (hlc : len ≤ cap) :
    (Instr.sliceBounds b len cap (l.map a.eval) (hh.map a.eval) none).run E.P w = .ok (i.toNat, j.toNat, cap) w := by
  have hjn : (j.toNat : Int) = j := by omega
  rcases bound_ok (len := 0) (cap := 0) h hl with ⟨rfl, rfl⟩ | ⟨y, k, rfl, hy⟩ <;> rcases bound_ok (len := 0) (cap := 0) h hj with ⟨rfl, rfl⟩ | ⟨y', k', rfl, hy'⟩
  · simp [Instr.sliceBounds]
  · simp [Instr.sliceBounds, hy', Instr.sliceBound, asIntOf, show 0 ≤ j by omega, show j ≤ (cap : Int) by omega]
  · simp [Instr.sliceBounds, hy, Instr.sliceBound, asIntOf, h0, show i ≤ (len : Int) by omega]
  · simp [Instr.sliceBounds, hy, hy', Instr.sliceBound, asIntOf, h0, hjn, h1, show 0 ≤ j by omega, show j ≤ (cap : Int) by omega]

theorem semSlice_ok {E : Env} {o : Oper} {T : TypeId} {x : Operand} {l hh m : Option Operand} {a : Act} {F' : RF} (h : Pre E X Z w φ a F) (ho : o.op = .slice T x l hh m)
    (hs : semSlice E o T x l hh m F = some F') : Yld E.P o a w (Out X Z w (tmOf E.nt a) o.dst F') := by
  unfold semSlice at hs
  split at hs
  · cases hs
  rename_i hm
  obtain rfl : m = none := by cases m <;> simp_all
  split at hs
  · rename_i e hu
    simp only [Option.bind_eq_some_iff] at hs
    obtain ⟨⟨r, p, lo, hi, sz, xs⟩, hloc, i, hi1, j, hj1, hs⟩ := hs
    simp only at hs hi1 hj1
    split at hs
    case isFalse => cases hs
    case isTrue hb =>
    split at hs
    case isFalse => cases hs
    case isTrue hc =>
    obtain ⟨hinf, hsz⟩ := hc
    obtain ⟨h1, h2, g, f, ad, cap, ad', φy, hg, hget, hf, hr, hsub, hv, had⟩ := sloc_ok h hloc
    have hr' := hr
    simp only [Rep] at hr'
    obtain ⟨ad2, cap2, ψ, ch, e2, hlc, _, _, hh'⟩ := hr'
    obtain ⟨rfl, rfl⟩ : ad = ad2 ∧ cap = cap2 := by simpa using e2
    have hbnd := run_bounds (b := true) (cap := cap - lo) (d := 0) h hi1 hj1 hb.1 hb.2.1 hb.2.2 (by omega)
    have hrun : (execOp a.eval o).run E.P w = .ok (.value (.slice (if cap - lo = i.toNat then ad' else ad'.map (fun x => x.add (i.toNat * sz))) (j.toNat - i.toNat) (cap - lo - i.toNat))) w := by
      unfold execOp; rw [ho]
      simp [Instr.sliceAt, Instr.slice, run_underlying hu, hv, hbnd, run_size hinf, ← hsz]
    have hnew : cap ≠ lo + i.toNat → (if cap - lo = i.toNat then ad' else ad'.map (fun x => x.add (i.toNat * sz))) = ad.map (fun x : Addr => x.add ((lo + i.toNat) * sz)) := by
      intro hne
      rw [if_neg (by omega), had (by omega)]
      rcases hh' with ⟨rfl, _⟩ | ⟨b, off, cs, T', fr, rfl, _⟩
      · have h2' : hi = 0 := by simpa using h2
        have : lo = 0 := by omega
        have : i.toNat = 0 := by omega
        cases ad <;> simp [*, Addr.add]
      · simp [add_lit, Nat.add_mul, Nat.add_assoc]
    refine Yld.value hrun ?_
    rw [hg] at hs
    simp only [hget, Option.any_some] at hs
    obtain ⟨φ', hs', hrep⟩ := Rep_sub (a2 := (if cap - lo = i.toNat then ad' else ad'.map (fun x => x.add (i.toNat * sz)))) hr (lo + i.toNat) (lo + j.toNat) (by omega) (by omega) hnew
    have e1 : lo + j.toNat - (lo + i.toNat) = j.toNat - i.toNat := by omega
    have e3 : cap - (lo + i.toNat) = cap - lo - i.toNat := by omega
    rw [e1, e3] at hrep
    split at hs
    · rename_i hno
      obtain rfl := Option.some.inj hs
      have hff : f = false := by simp only [PV.noOwn, Bool.and_eq_true, Bool.not_eq_true'] at hno; exact hno.1
      subst hff
      obtain rfl := Rep_noOwn.1 _ _ _ hno hr
      obtain rfl := List.eq_nil_of_sublist_nil hs'
      obtain ⟨φ'', hr2⟩ := h.rel.outVal (d := o.dst) ((RepV_cell rfl).2 hrep) List.nodup_nil (by simp) (by simp)
      exact ⟨Z, φ'', hr2, Stp.refl _ _, fun _ _ _ => Iff.rfl⟩
    · split at hs
      · cases hs
      rename_i hd
      obtain rfl := Option.some.inj hs
      obtain ⟨φ'', hr2⟩ := h.rel.outPl (d := o.dst) (r := r) (p := p) (k := .sub (lo + i.toNat) (lo + j.toNat)) (v := .slice (if cap - lo = i.toNat then ad' else ad'.map (fun x => x.add (i.toNat * sz))) (j.toNat - i.toNat) (cap - lo - i.toNat)) hd
        ⟨g, _, _, hg, hf, by simp only [viewOk]; exact ⟨f, sz, xs, ad, cap, _, rfl, rfl, by rw [e1, e3], hnew⟩⟩
      exact ⟨Z, φ'', hr2, Stp.refl _ _, fun _ _ _ => Iff.rfl⟩
  · rename_i n e hu
    simp only [Option.bind_eq_some_iff] at hs
    obtain ⟨⟨r, p, i, j⟩, htg, lo, hlo, hi, hhi, hs⟩ := hs
    simp only at hs hlo hhi
    split at hs
    case isFalse => cases hs
    case isTrue hb =>
    simp only [Env.target, Option.bind_eq_some_iff] at htg
    obtain ⟨t, hat, htg⟩ := htg
    obtain ⟨g, y, u, A, hg, hf, hget, hA, hv, hsp, _⟩ := h.rel.target htg
    rw [hg] at hs
    simp only [hget, Option.bind_some, Option.bind_eq_some_iff] at hs
    obtain ⟨row, hrow, hs⟩ := hs
    split at hs
    case isFalse => cases hs
    case isTrue hc =>
    obtain ⟨hinf, hsz, hlen, hd⟩ := hc
    obtain rfl := Option.some.inj hs
    have hbnd := run_bounds (b := false) (cap := n) (d := 0) h hlo hhi hb.1 hb.2.1 hb.2.2 (Nat.le_refl _)
    refine Yld.value (w' := w) (v := .slice (some (if n = lo.toNat then A else A.add lo.toNat)) (hi.toNat - lo.toNat) (n - lo.toNat)) ?_ ?_
    · unfold execOp; rw [ho]
      simp [Instr.sliceAt, run_underlying hu, at_eval hat, hv, Instr.sureAddr, hbnd, run_size hinf, hsz]
    · obtain ⟨φ'', hr2⟩ := h.rel.outPl (d := o.dst) (r := r) (p := p) (k := .arr i j lo.toNat hi.toNat n)
        (v := .slice (some (if n = lo.toNat then A else A.add lo.toNat)) (hi.toNat - lo.toNat) (n - lo.toNat)) hd
        ⟨g, _, _, hg, hf, by simp only [viewOk]; exact ⟨row, A, (if n = lo.toNat then A else A.add lo.toNat), hrow, hlen, hA, rfl, fun hne => if_neg hne⟩⟩
      exact ⟨Z, φ'', hr2, Stp.refl _ _, fun _ _ _ => Iff.rfl⟩
  · exact semPure_ok h hs

/-! ### len -/
def semLen (E : Env) (o : Oper) (T : TypeId) (x : Operand) (F : RF) : Option RF :=
  match E.rd F T x, E.P.underlying T with
  | some (.sl _ _ xs), some (.slice _) => some (setD F o.dst (.val (.prim (.int .i64 xs.length))))
  | some (.map _ es), some (.map _ _) => some (setD F o.dst (.val (.prim (.int .i64 es.length))))
  | _, _ => semPure E o F
theorem run_getObj {P : Program} {w : World} {b : Nat} {es : Array MapEntry} {c : Nat} (h : w.heap[b]? = some (.map es c)) : (getObj b).run P w = .ok (.map es c) w := by
  simp [getObj, Sem.run, h]
theorem semLen_ok {E : Env} {o : Oper} {T : TypeId} {x : Operand} {a : Act} {F' : RF} (h : Pre E X Z w φ a F) (ho : o.op = .call { callee := .builtin .len, args := #[x], argTypes := #[T] })
    (hs : semLen E o T x F = some F') : Yld E.P o a w (Out X Z w (tmOf E.nt a) o.dst F') := by
  have fin : ∀ n : Nat, (execOp a.eval o).run E.P w = .ok (.value (.int .i64 n)) w → Yld E.P o a w (Out X Z w (tmOf E.nt a) o.dst (setD F o.dst (.val (.prim (.int .i64 n))))) := by
    intro n hrun
    refine Yld.value hrun ?_
    obtain ⟨φ', hr⟩ := h.rel.outVal (d := o.dst) (x := .prim (.int .i64 n)) (v := .int .i64 n) (φx := []) ((RepV_cell rfl).2 (by simp [Rep, flat])) List.nodup_nil (by simp) (by simp)
    exact ⟨Z, φ', hr, Stp.refl _ _, fun _ _ _ => Iff.rfl⟩
  unfold semLen at hs
  split at hs
  · rename_i f sz xs e hrd hu
    obtain rfl := Option.some.inj hs
    obtain ⟨φy, hr, _⟩ := rd_rep h hrd
    rw [RepV_cell rfl] at hr
    simp only [Rep] at hr
    obtain ⟨ad, cap, ψ, ch, hv, _⟩ := hr
    apply fin
    unfold execOp; rw [ho]
    simp only [List.cons.injEq, and_true] at hv
    simp [resolve, invoke, builtin, Builtin.len_, run_underlying hu, hv, goInt]
  · rename_i f es k e hrd hu
    obtain rfl := Option.some.inj hs
    obtain ⟨φy, hr, _⟩ := rd_rep h hrd
    rw [RepV_cell rfl] at hr
    simp only [Rep] at hr
    obtain ⟨b, ents, clk, hv, hb, he, _⟩ := hr
    apply fin
    unfold execOp; rw [ho]
    simp only [List.cons.injEq, and_true] at hv
    have : (ents.size : Int) = (es.length : Int) := by rw [← he]; simp
    simp [resolve, invoke, builtin, Builtin.len_, run_underlying hu, hv, goInt, run_getObj hb, this]
  · exact semPure_ok h hs
end Go.V
