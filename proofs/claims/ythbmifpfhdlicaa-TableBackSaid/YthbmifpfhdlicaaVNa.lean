/- Arrays out of slices: a pointer to a slice's first elements as an array; what is read there. -/
import Derived.Test.YthbmifpfhdlicaaVN
namespace Go.V
set_option linter.unusedVariables false
set_option linter.unusedSimpArgs false
variable {X : Cx} {Z : Nat → Prop} {w : World} {φ : Tmp → List Nat} {tm : Tmp → Value} {F : RF}

def semArr (E : Env) (o : Oper) (T : TypeId) (x : Operand) (F : RF) : Option RF :=
  match E.P.underlying T with
  | some (.array n e) => (E.sloc F x).bind fun (r, p, lo, hi, sz, _) =>
    if (n ≤ hi - lo ∧ 0 < n) ∧ o.dst ≠ some r then some (setD F o.dst (.pl r p (.addr lo 0) (F.ver r))) else none
  | _ => none
theorem semArr_ok {E : Env} {o : Oper} {T : TypeId} {x : Operand} {a : Act} {F' : RF} (h : Pre E X Z w φ a F) (ho : o.op = .sliceToArrayPointer T x) (hs : semArr E o T x F = some F') :
    Yld E.P o a w (Out X Z w (tmOf E.nt a) o.dst F') := by
  unfold semArr at hs
  split at hs
  case h_2 => cases hs
  rename_i n e hu
  simp only [Option.bind_eq_some_iff] at hs
  obtain ⟨⟨r, p, lo, hi, sz, xs⟩, hloc, hs⟩ := hs
  simp only at hs
  split at hs
  case isFalse => cases hs
  case isTrue hc =>
  obtain rfl := Option.some.inj hs
  obtain ⟨hlh, hhx, g, f, ad, cap, ad', φy, hg, hget, hf, hr, hsub, hev, had⟩ := sloc_ok h hloc
  have hr0 := hr
  simp only [Rep] at hr
  obtain ⟨a2, cap2, ψ, ch, hv, hcap, hl, hw, hor⟩ := hr
  obtain ⟨rfl, rfl⟩ : ad = a2 ∧ cap = cap2 := by simpa using hv
  have hne : cap ≠ lo := by omega
  rcases hor with ⟨rfl, _⟩ | ⟨b, off, cs, T', fr, rfl, _⟩
  · simp at hhx; omega
  have hv2 : a.eval x = .slice (some (Addr.add ⟨b, off, none⟩ (lo * sz))) (hi - lo) (cap - lo) := by rw [hev, had hne]; rfl
  have hpl : place (.sl f sz xs) (.slice (some ⟨b, off, none⟩) xs.length cap) lo 0 = some (Addr.add ⟨b, off, none⟩ (lo * sz)) := by
    rw [add_lit rfl]; simp [place]
  refine Yld.value (w' := w) (v := .pointer (some (Addr.add ⟨b, off, none⟩ (lo * sz)))) ?_ ?_
  · unfold execOp; rw [ho]
    have : ¬ (hi - lo < n) := by omega
    simp [Instr.arrayAt, run_underlying hu, hv2]
    omega
  · obtain ⟨φ', hr2⟩ := h.rel.outPl (d := o.dst) (r := r) (p := p) (k := .addr lo 0) (v := .pointer (some (Addr.add ⟨b, off, none⟩ (lo * sz)))) hc.2 ⟨g, _, _, hg, hf, _, hpl, rfl⟩
    exact ⟨Z, φ', hr2, Stp.refl _ _, fun _ _ _ => Iff.rfl⟩

/-- whether an array is read out of a slice's elements, each one cell -/
def arrLoad (E : Env) (T : TypeId) (x : Operand) (F : RF) : Bool :=
  match E.P.underlying T with
  | some (.array _ _) => match E.target F x with
    | some (r, p, _, _) => match F.slot r with
      | .val g => match g.get? p with
        | some (.sl _ sz _) => sz == 1
        | _ => false
      | _ => false
    | none => false
  | _ => false
def slRow (y : PV) : Option (List PV) := match y with
  | .sl _ _ xs => some xs
  | _ => none
def semLoadA (E : Env) (o : Oper) (T : TypeId) (x : Operand) (F : RF) : Option RF :=
  (E.target F x).bind fun (r, p, i, j) => match F.slot r with
    | .val g => (g.get? p).bind fun y => (slRow y).bind fun xs =>
      if (tyOk E.P T = true ∧ aggT E.P T = true) ∧ j = 0 ∧ i + esz E.P T ≤ xs.length ∧ (xs.all fun c => c.cell1) = true ∧ noOwnL xs = true then
        some (setD F o.dst (.val (.agg ((xs.drop i).take (esz E.P T)))))
      else none
    | _ => none
theorem noOwnL_mem {xs : List PV} : noOwnL xs = true ↔ ∀ x ∈ xs, x.noOwn = true := by
  induction xs with
  | nil => simp [noOwnL]
  | cons x xs ih => simp [noOwnL, ih]
theorem semLoadA_ok {E : Env} {o : Oper} {T : TypeId} {x : Operand} {a : Act} {F' : RF} (h : Pre E X Z w φ a F) (ho : o.op = .load T x) (hs : semLoadA E o T x F = some F') :
    Yld E.P o a w (Out X Z w (tmOf E.nt a) o.dst F') := by
  unfold semLoadA at hs
  simp only [Option.bind_eq_some_iff] at hs
  obtain ⟨⟨r, p, i, j⟩, htg, hs⟩ := hs
  simp only [Env.target, Option.bind_eq_some_iff] at htg
  obtain ⟨t, hat, htg⟩ := htg
  obtain ⟨g, y, u, A, hg, hf, hget, hA, hv, hsp, φy, hry, hsub⟩ := h.rel.target htg
  simp only [hg, hget, Option.bind_some, Option.bind_eq_some_iff] at hs
  obtain ⟨xs, hxs, hs⟩ := hs
  split at hs
  case isFalse => cases hs
  case isTrue hc =>
  obtain ⟨⟨hty, hagg⟩, rfl, hlen, hcell, hno⟩ := hc
  obtain rfl := Option.some.inj hs
  unfold slRow at hxs
  split at hxs
  case h_2 => cases hxs
  rename_i f sz xs'
  obtain rfl := Option.some.inj hxs
  rw [RepV_cell rfl] at hry
  simp only [Rep] at hry
  obtain ⟨ad, cap, ψ, ch, hu, hcap, hl, hw, hor⟩ := hry
  obtain rfl : u = .slice ad xs'.length cap := by simpa using hu
  rcases hor with ⟨rfl, rfl, _⟩ | ⟨b, off, cs, T', fr, rfl, hb, hch, hfF, hfT⟩
  · cases ad with
    | none => simp [place] at hA
    | some a0 =>
      have hz : esz E.P T = 0 := by have := hlen; simp at this; omega
      have hrun : (loadVar T A).run E.P w = .ok (.agg #[]) w := by
        have hlv := run_loadCells_list (P := E.P) w A [] (fun k v hk => by simp at hk)
        simp only [List.length_nil] at hlv
        simp [loadVar, run_isAgg (tyOk_u hty), hagg, run_size (tyOk_i hty), hz, hlv]
      refine Yld.value (w' := w) (v := .agg #[]) (by unfold execOp; rw [ho]; simp [Instr.loadAt, at_eval hat, hv, Instr.sureAddr, hrun]) ?_
      rw [hz]
      obtain ⟨φ'', hr⟩ := h.rel.outVal (d := o.dst) (x := .agg (([] : List PV).drop i |>.take 0)) (v := .agg #[]) (φx := []) (RepV_agg.2 ⟨[], rfl, by simp [Rep, RepL]⟩) List.nodup_nil (by simp) (by simp)
      exact ⟨Z, φ'', hr, Stp.refl _ _, fun _ _ _ => Iff.rfl⟩
  obtain rfl := Rep_noOwn.2 _ _ _ hno hl
  have hall : ∀ c ∈ xs', c.cell1 = true := List.all_eq_true.1 hcell
  have hw1 : ∀ c ∈ xs', c.width = 1 := fun c hc => PV.cell1_width (hall c hc)
  obtain ⟨φ', hsubl, hrep⟩ := RepL_part hl hw1 i (esz E.P T) hlen
  obtain rfl : φ' = [] := List.sublist_nil.1 hsubl
  simp only [Nat.mul_one] at hrep
  have hchl := RepL_len hl hw1
  simp only [Nat.mul_one] at hchl
  have hA' : A = ⟨b, off + i * sz, none⟩ := by simp only [place, Option.some.injEq] at hA; rw [← hA]; simp
  have hvl : ((ch.drop i).take (esz E.P T)).length = esz E.P T := by rw [List.length_take, List.length_drop, hchl, Nat.min_eq_left (by omega)]
  by_cases hz : esz E.P T = 0
  · have hrun : (loadVar T A).run E.P w = .ok (.agg #[]) w := by
      have hlv := run_loadCells_list (P := E.P) w A [] (fun k v hk => by simp at hk)
      simp only [List.length_nil] at hlv
      simp [loadVar, run_isAgg (tyOk_u hty), hagg, run_size (tyOk_i hty), hz, hlv]
    refine Yld.value (w' := w) (v := .agg #[]) (by unfold execOp; rw [ho]; simp [Instr.loadAt, at_eval hat, hv, Instr.sureAddr, hrun]) ?_
    rw [hz]
    obtain ⟨φ'', hr⟩ := h.rel.outVal (d := o.dst) (x := .agg ((xs'.drop i).take 0)) (v := .agg #[]) (φx := []) (RepV_agg.2 ⟨[], rfl, by simp [Rep, RepL]⟩) List.nodup_nil (by simp) (by simp)
    exact ⟨Z, φ'', hr, Stp.refl _ _, fun _ _ _ => Iff.rfl⟩
  have hsz : sz = 1 := by
    cases hx : xs' with
    | nil => rw [hx] at hlen; simp at hlen; omega
    | cons c l => have h1 := hw1 c (by rw [hx]; simp); have h2 := hw c (by rw [hx]; simp); omega
  subst hsz
  have hrun : (loadVar T A).run E.P w = .ok (.agg ((ch.drop i).take (esz E.P T)).toArray) w := by
    have hlv := run_loadCells_list (P := E.P) w A ((ch.drop i).take (esz E.P T)) (fun k v hk => by
      rw [add_lit hsp, hA']
      have hk2 : ch[i + k]? = some v := by
        rw [List.getElem?_take] at hk
        split at hk
        · rw [List.getElem?_drop] at hk; exact hk
        · cases hk
      have := hch _ _ hk2
      simp only [World.cell?, hb]
      rw [show off + i * 1 + k = off + (i + k) by omega]
      simpa using this)
    rw [hvl] at hlv
    simp [loadVar, run_isAgg (tyOk_u hty), hagg, run_size (tyOk_i hty), hlv]
  refine Yld.value (w' := w) (v := .agg ((ch.drop i).take (esz E.P T)).toArray) (by unfold execOp; rw [ho]; simp [Instr.loadAt, at_eval hat, hv, Instr.sureAddr, hrun]) ?_
  obtain ⟨φ'', hr⟩ := h.rel.outVal (d := o.dst) (x := .agg ((xs'.drop i).take (esz E.P T))) (v := .agg ((ch.drop i).take (esz E.P T)).toArray) (φx := [])
    (RepV_agg.2 ⟨_, rfl, by simp only [Rep]; exact ⟨hrep, fun c hc => hall c (List.mem_of_mem_drop (List.mem_of_mem_take hc))⟩⟩) List.nodup_nil (by simp) (by simp)
  exact ⟨Z, φ'', hr, Stp.refl _ _, fun _ _ _ => Iff.rfl⟩
end Go.V
