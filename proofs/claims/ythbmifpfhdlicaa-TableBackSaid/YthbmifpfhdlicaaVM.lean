/- Tuples' parts, maps, function values, bytes as a string. -/
import Derived.Test.YthbmifpfhdlicaaVL
import Derived.Laws.BytesString
namespace Go.V
set_option linter.unusedVariables false
set_option linter.unusedSimpArgs false
variable {X : Cx} {Z : Nat → Prop} {w : World} {φ : Tmp → List Nat} {tm : Tmp → Value} {F : RF}

/-! ### extract -/
def PV.gone : PV → PV
  | .agg cs => .agg (cs.map fun _ => .dead)
  | _ => .dead
theorem RepL_deads {w Z} : ∀ {cs : List PV} {φ vs}, RepL w Z cs φ vs → (∀ c ∈ cs, c.cell1 = true) → RepL w Z (cs.map fun _ => PV.dead) [] vs
  | [], φ, vs, h, _ => by rw [RepL_nil] at h; exact RepL_nil.2 ⟨rfl, h.2⟩
  | c :: cs, φ, vs, h, hc => by
    obtain ⟨ψ₁, ψ₂, u₁, u₂, rfl, rfl, k1, k2⟩ := RepL_cons.1 h
    have hl1 : u₁.length = 1 := by rw [k1.length, PV.cell1_width (hc c (by simp))]
    obtain ⟨u, rfl⟩ := List.length_eq_one_iff.1 hl1
    exact RepL_cons.2 ⟨[], [], [u], u₂, rfl, rfl, by simp [Rep, Rep_oneCell k1 (hc c (by simp))], RepL_deads k2 (fun c hm => hc c (by simp [hm]))⟩
theorem RepV1_gone {y : PV} {φ : List Nat} {v : Value} (h : RepV1 w Z y φ v) : RepV1 w Z y.gone [] v := by
  cases y with
  | agg cs =>
    simp only [RepV1, PV.gone] at h ⊢
    obtain ⟨vs, rfl, h⟩ := h
    simp only [Rep] at h ⊢
    exact ⟨vs, rfl, RepL_deads h.1 h.2, by simp [PV.cell1]⟩
  | tup xs => simp only [RepV1, Rep] at h
  | _ => simp only [PV.gone, RepV1, Rep]; exact ⟨trivial, v, rfl, Rep_oneCell (show Rep w Z _ φ [v] from h) rfl⟩
theorem RepTs_split : ∀ {xs : List PV} {φ : List Nat} {vs : List Value} {i : Nat} {y : PV}, RepTs w Z xs φ vs → xs[i]? = some y →
    ∃ φ₁ φy φ₂ v, φ = φ₁ ++ φy ++ φ₂ ∧ vs[i]? = some v ∧ RepV1 w Z y φy v ∧ RepTs w Z (xs.set i y.gone) (φ₁ ++ φ₂) vs
  | [], _, _, _, _, _, h => by simp at h
  | x :: xs, φ, vs, 0, y, h, hi => by
    rw [RepTs_cons] at h
    obtain ⟨φ₁, φ₂, v, vs', rfl, rfl, h1, h2⟩ := h
    obtain rfl : x = y := by simpa using hi
    exact ⟨[], φ₁, φ₂, v, by simp, by simp, h1, RepTs_cons.2 ⟨[], φ₂, v, vs', by simp, rfl, RepV1_gone h1, h2⟩⟩
  | x :: xs, φ, vs, i + 1, y, h, hi => by
    rw [RepTs_cons] at h
    obtain ⟨φ₁, φ₂, v, vs', rfl, rfl, h1, h2⟩ := h
    obtain ⟨ψ₁, φy, ψ₂, u, rfl, hu, hy, hr⟩ := RepTs_split h2 (by simpa using hi)
    exact ⟨φ₁ ++ ψ₁, φy, ψ₂, u, by simp, by simpa using hu, hy, RepTs_cons.2 ⟨φ₁, ψ₁ ++ ψ₂, v, vs', by simp, rfl, h1, hr⟩⟩

def semExtract (E : Env) (o : Oper) (x : Operand) (i : Nat) (F : RF) : Option RF :=
  match E.at x with
  | some t => match F.slot t with
    | .val (.tup xs) => (xs[i]?).bind fun y =>
        if y.noOwn = true then some (setD F o.dst (.val y)) else some (setD (F.set t (.val (.tup (xs.set i y.gone)))) o.dst (.val y))
    | _ => semPure E o F
  | none => semPure E o F
theorem semExtract_ok {E : Env} {o : Oper} {x : Operand} {i : Nat} {a : Act} {F' : RF} (h : Pre E X Z w φ a F) (ho : o.op = .extract x i) (hs : semExtract E o x i F = some F') :
    Yld E.P o a w (Out X Z w (tmOf E.nt a) o.dst F') := by
  unfold semExtract at hs
  split at hs
  case h_2 => exact semPure_ok h hs
  rename_i t hat
  split at hs
  case h_2 => exact semPure_ok h hs
  rename_i xs hsl
  simp only [Option.bind_eq_some_iff] at hs
  obtain ⟨y, hy, hs⟩ := hs
  have hr := h.rel.vals t _ hsl
  rw [RepV_tup] at hr
  obtain ⟨vs, hv, hr⟩ := hr
  obtain ⟨φ₁, φy, φ₂, v, he, hvi, hry, hrest⟩ := RepTs_split hr hy
  have hyV : RepV w Z y φy v := by
    rcases PV.tup_or y with ⟨zs, rfl⟩ | ⟨e, _⟩
    · simp only [RepV1, Rep] at hry
    · rw [e]; exact hry
  have hrun : (execOp a.eval o).run E.P w = .ok (.value v) w := by
    unfold execOp; rw [ho]; simp [Instr.extract, at_eval hat, hv, hvi]
  refine Yld.value hrun ?_
  split at hs
  · rename_i hno
    obtain rfl := Option.some.inj hs
    obtain rfl := RepV_noOwn hno hyV
    obtain ⟨φ', hr2⟩ := h.rel.outVal (d := o.dst) hyV List.nodup_nil (by simp) (by simp)
    exact ⟨Z, φ', hr2, Stp.refl _ _, fun _ _ _ => Iff.rfl⟩
  · obtain rfl := Option.some.inj hs
    have hnd := h.rel.nodup t
    rw [he] at hnd
    have hnd1 := List.nodup_append.1 hnd
    have hnd2 := List.nodup_append.1 hnd1.1
    have hrel := h.rel.setVal (t := t) (x := .tup (xs.set i y.gone)) (v := tmOf E.nt a t) (φx := φ₁ ++ φ₂) (RepV_tup.2 ⟨vs, hv, hrest⟩)
      (List.nodup_append.2 ⟨hnd2.1, hnd1.2.1, fun b hb c hc => hnd1.2.2 b (by simp [hb]) c hc⟩)
      (fun b hb => h.rel.mine t b (by rw [he]; simp only [List.mem_append] at hb ⊢; rcases hb with hb | hb <;> simp [hb]))
      (fun u hu b hb hb2 => hu (h.rel.disj u t b hb2 (by rw [he]; simp only [List.mem_append] at hb ⊢; rcases hb with hb | hb <;> simp [hb])))
    rw [upd_eta] at hrel
    obtain ⟨φ', hr2⟩ := hrel.outVal (d := o.dst) hyV hnd2.2.1 (fun b hb => h.rel.mine t b (by rw [he]; simp [hb]))
      (fun u b hb => by
        by_cases e : u = t
        · subst e; rw [upd_self]; intro hb2
          rcases List.mem_append.1 hb2 with hb2 | hb2
          · exact hnd2.2.2 b hb2 b hb rfl
          · exact hnd1.2.2 b (by simp [hb]) b hb2 rfl
        · rw [upd_ne _ _ e]; exact fun hb2 => e (h.rel.disj u t b hb2 (by rw [he]; simp [hb])))
    exact ⟨Z, φ', hr2, Stp.refl _ _, fun _ _ _ => Iff.rfl⟩

/-! ### Maps -/
def semMakeMap (E : Env) (o : Oper) (r : Option Operand) (F : RF) : Option RF :=
  match r with
  | none => some (setD F o.dst (.val (.map true [])))
  | _ => none
theorem semMakeMap_ok {E : Env} {o : Oper} {T : TypeId} {r : Option Operand} {a : Act} {F' : RF} (h : Pre E X Z w φ a F) (ho : o.op = .makeMap T r) (hs : semMakeMap E o r F = some F') :
    Yld E.P o a w (Out X Z w (tmOf E.nt a) o.dst F') := by
  unfold semMakeMap at hs
  split at hs
  case h_2 => cases hs
  obtain rfl := Option.some.inj hs
  have hrun : (execOp a.eval o).run E.P w = .ok (.value (.map (some w.heap.size))) (w.alloc (.map #[] 0)) := by
    unfold execOp; rw [ho]; simp [Instr.makeMap]
  refine Yld.value hrun (h.rel.newVal (φx := []) ((RepV_cell rfl).2 ?_) List.nodup_nil (by simp) (by simp) (by simp) (h.new _ (Nat.le_refl _)))
  simp only [Rep]
  exact ⟨_, #[], 0, rfl, heap_new _ _, rfl, by simp, fun h => (by cases h), fun _ => ⟨.inr rfl, rfl⟩⟩

def ents (es : List (Value × Value)) : List MapEntry := es.map fun e => ⟨e.1, e.2, 0⟩
theorem findNow_congr {kind : TypeDesc} {k : Value} : ∀ {l l' : List MapEntry} {i : Nat}, l.map (fun e => (e.key, e.val)) = l'.map (fun e => (e.key, e.val)) → Instr.findNow kind k l i = Instr.findNow kind k l' i
  | [], [], _, _ => rfl
  | [], _ :: _, _, h => by simp at h
  | _ :: _, [], _, h => by simp at h
  | e :: l, e' :: l', i, h => by
    simp only [List.map_cons, List.cons.injEq, Prod.mk.injEq] at h
    obtain ⟨⟨h1, h2⟩, h3⟩ := h
    simp only [Instr.findNow, h1, h2, findNow_congr h3]
theorem findAsking_congr {T : TypeId} {k : Value} : ∀ {l l' : List MapEntry} {i : Nat}, l.map (fun e => (e.key, e.val)) = l'.map (fun e => (e.key, e.val)) → Instr.findAsking T k l i = Instr.findAsking T k l' i
  | [], [], _, _ => rfl
  | [], _ :: _, _, h => by simp at h
  | _ :: _, [], _, h => by simp at h
  | e :: l, e' :: l', i, h => by
    simp only [List.map_cons, List.cons.injEq, Prod.mk.injEq] at h
    obtain ⟨⟨h1, h2⟩, h3⟩ := h
    simp only [Instr.findAsking, h1, h2, findAsking_congr h3]
theorem findKey_congr {T : TypeId} {k : Value} {l l' : List MapEntry} (h : l.map (fun e => (e.key, e.val)) = l'.map (fun e => (e.key, e.val))) : Instr.findKey T k l = Instr.findKey T k l' := by
  simp only [Instr.findKey, findNow_congr h, findAsking_congr h]
theorem ents_map {es : List (Value × Value)} : (ents es).map (fun e => (e.key, e.val)) = es := by simp [ents, Function.comp_def]

/-- what stands in a map under a key -/
def mapFind (P : Program) (K : TypeId) (k : Value) (es : List (Value × Value)) : Option (Option (Nat × Value)) :=
  if pureRun P (Instr.checkKey es.isEmpty 10000 K k) = some () then pureRun P (Instr.findKey K k (ents es)) else none
/-- a map's entries: root, way (none: it is no slot's own) -/
def Env.entries (E : Env) (F : RF) (T : TypeId) (x : Operand) : Option (List (Value × Value)) :=
  match E.rd F T x with
  | some (.map _ es) => some es
  | some (.prim (.map none)) => some []
  | _ => none
def semLookup (E : Env) (o : Oper) (T : TypeId) (x k : Operand) (ok : Bool) (F : RF) : Option RF :=
  match E.P.underlying T with
  | some (.map K V) =>
    (E.entries F T x).bind fun es => (E.vl F k).bind fun kv =>
      match mapFind E.P K kv es with
      | some (some (_, v)) => (ofVal (if ok then .tuple #[v, .bool true] else v)).map fun y => setD F o.dst (.val y)
      | some none => (pureRun E.P (zeroValue V)).bind fun z => (ofVal (if ok then .tuple #[z, .bool false] else z)).map fun y => setD F o.dst (.val y)
      | none => none
  | _ => none
theorem semLookup_ok {E : Env} {o : Oper} {T : TypeId} {x k : Operand} {ok : Bool} {a : Act} {F' : RF} (h : Pre E X Z w φ a F) (ho : o.op = .lookup T x k ok) (hs : semLookup E o T x k ok F = some F') :
    Yld E.P o a w (Out X Z w (tmOf E.nt a) o.dst F') := by
  unfold semLookup at hs
  split at hs
  case h_2 => cases hs
  rename_i K V hu
  simp only [Option.bind_eq_some_iff] at hs
  obtain ⟨es, hes, kv, hkv, hs⟩ := hs
  have hk := vl_eq h hkv
  have fin : ∀ {v y}, (execOp a.eval o).run E.P w = .ok (.value v) w → ofVal v = some y → Yld E.P o a w (Out X Z w (tmOf E.nt a) o.dst (setD F o.dst (.val y))) := by
    intro v y hrun hy
    refine Yld.value hrun ?_
    obtain ⟨φ', hr⟩ := h.rel.outVal (d := o.dst) (ofVal_rep hy) List.nodup_nil (by simp) (by simp)
    exact ⟨Z, φ', hr, Stp.refl _ _, fun _ _ _ => Iff.rfl⟩
  -- the map's entries as the model has them
  have hmap : ∃ l : Array MapEntry, l.toList.map (fun e => (e.key, e.val)) = es ∧ ((a.eval x = .map none ∧ l = #[]) ∨ ∃ b c, a.eval x = .map (some b) ∧ w.heap[b]? = some (.map l c)) := by
    unfold Env.entries at hes
    split at hes
    · rename_i f es' hrd
      obtain rfl := Option.some.inj hes
      obtain ⟨φy, hr, _⟩ := rd_rep h hrd
      rw [RepV_cell rfl] at hr
      simp only [Rep] at hr
      obtain ⟨b, l, c, hv, hb, he, _⟩ := hr
      exact ⟨l, he, .inr ⟨b, c, by simpa using hv, hb⟩⟩
    · rename_i hrd
      obtain rfl := Option.some.inj hes
      obtain ⟨φy, hr, _⟩ := rd_rep h hrd
      rw [RepV_cell rfl] at hr
      simp only [Rep] at hr
      exact ⟨#[], rfl, .inl ⟨by simpa using hr.2.1, rfl⟩⟩
    · cases hes
  obtain ⟨l, hl, hm⟩ := hmap
  have hemp : l.isEmpty = es.isEmpty := by rw [← hl]; cases l with | mk l => cases l <;> rfl
  have hfind : ∀ r, mapFind E.P K kv es = some r → (Instr.checkKey l.isEmpty 10000 K kv).run E.P w = .ok () w ∧ (Instr.findKey K kv l.toList).run E.P w = .ok r w := by
    intro r hr
    unfold mapFind at hr
    split at hr
    case isFalse => cases hr
    case isTrue hc =>
    refine ⟨by rw [hemp]; exact pureRun_run hc w, ?_⟩
    rw [findKey_congr (l' := ents es) (by rw [hl, ents_map])]
    exact pureRun_run hr w
  split at hs
  · rename_i i v hf
    simp only [Option.map_eq_some_iff] at hs
    obtain ⟨y, hy, rfl⟩ := hs
    obtain ⟨h1, h2⟩ := hfind _ hf
    refine fin (v := if ok then .tuple #[v, .bool true] else v) ?_ hy
    unfold execOp; rw [ho]
    rcases hm with ⟨e, rfl⟩ | ⟨b, c, e, hb⟩
    · simp at h1 h2
      simp [Instr.lookup, run_underlying hu, hk, e, h1, h2]
    · simp [Instr.lookup, run_underlying hu, hk, e, run_getObj hb, h1, h2]
  · rename_i hf
    simp only [Option.bind_eq_some_iff, Option.map_eq_some_iff] at hs
    obtain ⟨z, hz, y, hy, rfl⟩ := hs
    obtain ⟨h1, h2⟩ := hfind _ hf
    have hz' := pureRun_run hz w
    refine fin (v := if ok then .tuple #[z, .bool false] else z) ?_ hy
    unfold execOp; rw [ho]
    rcases hm with ⟨e, rfl⟩ | ⟨b, c, e, hb⟩
    · simp at h1 h2
      simp [Instr.lookup, run_underlying hu, hk, e, h1, h2, hz']
    · simp [Instr.lookup, run_underlying hu, hk, e, run_getObj hb, h1, h2, hz']
  · cases hs

/-- where a map lies that is owned: root, way, entries -/
def Env.mloc (E : Env) (F : RF) (x : Operand) : Option (Tmp × Path × List (Value × Value)) :=
  (E.at x).bind fun t =>
    match F.slot t with
    | .val (.map true es) => some (t, [], es)
    | .pl r p .self n => if F.ok r .self n = true then match F.slot r with
        | .val g => match g.get? p with
          | some (.map true es) => some (r, p, es)
          | _ => none
        | _ => none
      else none
    | _ => none
def RF.putMap (F : RF) (r : Tmp) (p : Path) (es : List (Value × Value)) : Option RF :=
  match splitLast p with
  | none => some (F.re r (.map true es))
  | some (q, i, j) => match F.slot r with
    | .val g => (g.putC q i j (.map true es)).map fun g' => F.re r g'
    | _ => none
def semMapSet (E : Env) (o : Oper) (T : TypeId) (x k v : Operand) (F : RF) : Option RF :=
  match E.P.underlying T, o.dst with
  | some (.map K _), none =>
    (E.mloc F x).bind fun (r, p, es) => (E.vl F k).bind fun kv => (E.vl F v).bind fun vv =>
      if flatV kv = true ∧ flatV vv = true ∧ pureRun E.P (Instr.checkKey false 10000 K kv) = some () then
        match pureRun E.P (Instr.findKey K kv (ents es)) with
        | some (some (i, _)) => (es[i]?).bind fun e => (pureRun E.P (Instr.keyThatStays e.1 kv)).bind fun k' =>
            if flatV k' = true then F.putMap r p (es.modify i fun _ => (k', vv)) else none
        | some none => F.putMap r p (es ++ [(kv, vv)])
        | none => none
      else none
  | _, _ => none

theorem run_setObj {P : Program} {w : World} {b : Nat} {es : Array MapEntry} {c : Nat} (o : Obj) (h : w.heap[b]? = some (.map es c)) : (setObj b o).run P w = .ok () { w with heap := w.heap.setIfInBounds b o } := by
  simp [setObj, Sem.run, h]

theorem Rel.putMap (h : Rel X Z w φ tm F) {r : Tmp} {p : Path} {es es' : List (Value × Value)} {F' : RF} {x : PV} {l l' : Array MapEntry} {b c c' : Nat} (hx : F.slot r = .val x) (hg : x.get? p = some (.map true es))
    (hf : follow w x (tm r) p = some (.map true es, .map (some b))) (hb : w.heap[b]? = some (.map l c)) (he' : l'.toList.map (fun e => (e.key, e.val)) = es') (hfl : ∀ e ∈ es', flatV e.1 = true ∧ flatV e.2 = true)
    (hp : F.putMap r p es' = some F') : ∃ φ', Rel X Z { w with heap := w.heap.setIfInBounds b (.map l' c') } φ' tm F' ∧ Stp X.mine w { w with heap := w.heap.setIfInBounds b (.map l' c') } := by
  have hrx := h.vals r x hx
  obtain ⟨u, φ₁, φm, φ₂, hf', he, hrm⟩ := RepV_follow hrx hg
  rw [hf] at hf'
  obtain rfl : Value.map (some b) = u := by simpa using hf'
  rw [RepV_cell rfl] at hrm
  simp only [Rep] at hrm
  obtain ⟨b', l0, c0, hv, hb', _, _, _, ht⟩ := hrm
  obtain rfl : b = b' := by simpa using hv
  obtain ⟨hzb, rfl⟩ := ht trivial
  have hbr : b ∈ φ r := by rw [he]; simp
  have hlt : b < w.heap.size := (Array.getElem?_eq_some_iff.1 hb).1
  generalize hw' : ({ w with heap := w.heap.setIfInBounds b (.map l' c') } : World) = w'
  have hother : ∀ k, k ≠ b → w'.heap[k]? = w.heap[k]? := by intro k hk; subst hw'; simp [Array.getElem?_setIfInBounds, Ne.symm hk]
  have hnew : w'.heap[b]? = some (.map l' c') := by subst hw'; simp [hlt]
  have hstp : Stp X.mine w w' := by
    refine ⟨by subst hw'; rfl, by subst hw'; rfl, by subst hw'; rfl, by subst hw'; simp, fun k hk hm => hother k ?_⟩
    rintro rfl; exact hm (h.mine r _ hbr)
  have hrepm : Rep w' Z (.map true es') [b] [.map (some b)] := by
    simp only [Rep]; exact ⟨b, l', c', rfl, hnew, he', hfl, fun h => (by cases h), fun _ => ⟨hzb, rfl⟩⟩
  -- the others
  have h1 := h.setDead r (tm r)
  rw [upd_eta] at h1
  have h2 := h1.keep (w' := w') (Z' := Z) (fun k hk hm => ⟨Iff.rfl, hother k (by
    rintro rfl
    rcases hm with ⟨t, ht⟩ | hm
    · by_cases e : t = r
      · simp [upd, e] at ht
      · rw [upd_ne _ _ e] at ht; exact e (h.disj t r _ ht hbr)
    · exact hm hzb)⟩)
  have fin : ∀ {x' φx}, RepV w' Z x' φx (tm r) → φx.Nodup → (∀ b ∈ φx, b ∈ φ r) → ∃ φ', Rel X Z w' φ' tm (F.re r x') := by
    intro x' φx hr hnd hsub
    have := h2.setVal (t := r) hr hnd (fun b hb => h.mine r b (hsub b hb)) (fun t ht b hb => by rw [upd_ne _ _ ht]; exact fun hb2 => ht (h.disj t r b hb2 (hsub b hb)))
    rw [upd_eta] at this
    exact ⟨_, this⟩
  unfold RF.putMap at hp
  split at hp
  · rename_i hsp
    obtain rfl := Option.some.inj hp
    obtain rfl := splitLast_none hsp
    simp only [follow, Option.some.injEq, Prod.mk.injEq] at hf
    obtain ⟨_, hvr⟩ := hf
    obtain ⟨φ', hr⟩ := fin (x' := .map true es') (φx := [b]) ((RepV_cell rfl).2 (by rw [hvr]; exact hrepm)) (by simp) (by simpa using hbr)
    exact ⟨φ', hr, hstp⟩
  · rename_i q i j hsp
    obtain rfl := splitLast_some hsp
    rw [hx] at hp
    simp only [Option.map_eq_some_iff] at hp
    obtain ⟨x', hput, rfl⟩ := hp
    have hc1 := putC_cell1 hput
    rw [RepV_cell hc1.1] at hrx
    obtain ⟨g, gv, A, y, u, ψ₁, ψy, ψ₂, hf1, hy, hyc, hA, hu, hsp', hmem, hfz, he2, hry, hrep⟩ := putC_rep q x _ (tm r) x' (h.nodup r) hrx hput
    have hend : y = .map true es ∧ u = .map (some b) := by
      rw [follow_append, hf1] at hf
      simp only [Option.bind_some, follow, hy, hA, hu, Option.some.injEq, Prod.mk.injEq] at hf
      exact hf
    obtain ⟨rfl, rfl⟩ := hend
    simp only [Rep] at hry
    obtain ⟨b2, _, _, hv2, _, _, _, _, ht2⟩ := hry
    obtain rfl : b = b2 := by simpa using hv2
    obtain ⟨_, rfl⟩ := ht2 trivial
    have hnd := h.nodup r
    rw [he2] at hnd
    have hbn : b ∉ ψ₁ ++ ψ₂ := by
      have hnd1 := List.nodup_append.1 hnd
      have hnd2 := List.nodup_append.1 hnd1.1
      intro hb2
      rcases List.mem_append.1 hb2 with hb2 | hb2
      · exact hnd2.2.2 b hb2 b (by simp) rfl
      · exact hnd1.2.2 b (by simp) b hb2 rfl
    obtain ⟨hr', _⟩ := hrep w' Z [b] (.map (some b)) rfl (by
      intro k hk hm
      refine ⟨Iff.rfl, fun _ => hother k ?_⟩
      rintro rfl
      rcases hm with hm | hm
      · exact hbn hm
      · exact hm hzb) (Chg.same (hother A.block (by rintro e; exact hbn (e ▸ hmem))) hu hsp') hrepm
    obtain ⟨φ', hr⟩ := fin ((RepV_cell hc1.2).2 hr') hnd (by rw [he2]; exact fun _ h => h)
    exact ⟨φ', hr, hstp⟩

theorem semMapSet_ok {E : Env} {o : Oper} {T : TypeId} {x k v : Operand} {a : Act} {F' : RF} (h : Pre E X Z w φ a F) (ho : o.op = .mapUpdate T x k v ∨ o.op = .insert T x k v) (hs : semMapSet E o T x k v F = some F') :
    Yld E.P o a w (Out X Z w (tmOf E.nt a) o.dst F') := by
  unfold semMapSet at hs
  split at hs
  case h_2 => cases hs
  rename_i K V hu hdn
  simp only [Option.bind_eq_some_iff] at hs
  obtain ⟨⟨r, p, es⟩, hloc, kv, hkv, vv, hvv, hs⟩ := hs
  simp only at hs
  split at hs
  case isFalse => cases hs
  case isTrue hc =>
  obtain ⟨hfk, hfv, hck⟩ := hc
  have hk := vl_eq h hkv
  have hv := vl_eq h hvv
  -- where it lies
  have hmap : ∃ g b l c, F.slot r = .val g ∧ g.get? p = some (.map true es) ∧ follow w g (tmOf E.nt a r) p = some (.map true es, .map (some b)) ∧ a.eval x = .map (some b) ∧ w.heap[b]? = some (.map l c) ∧
      l.toList.map (fun e => (e.key, e.val)) = es ∧ (∀ e ∈ es, flatV e.1 = true ∧ flatV e.2 = true) := by
    simp only [Env.mloc, Option.bind_eq_some_iff] at hloc
    obtain ⟨t, hat, hloc⟩ := hloc
    rw [at_eval hat]
    split at hloc
    · rename_i es' hsl
      simp only [Option.some.injEq, Prod.mk.injEq] at hloc
      obtain ⟨rfl, rfl, rfl⟩ := hloc
      have hr := h.rel.vals t _ hsl
      rw [RepV_cell rfl] at hr
      simp only [Rep] at hr
      obtain ⟨b, l, c, hv, hb, he, hfl, _⟩ := hr
      have hv' : tmOf E.nt a t = .map (some b) := by simpa using hv
      exact ⟨_, b, l, c, hsl, rfl, by simp [follow, hv'], hv', hb, he, hfl⟩
    · rename_i r' p' n hsl
      split at hloc
      case isFalse => cases hloc
      case isTrue hok =>
      obtain ⟨g, y, u, φy, hg, hf, hview, hget, hr, hsub⟩ := h.rel.plRep hsl hok
      simp only [hg, hget] at hloc
      split at hloc
      case h_2 => cases hloc
      rename_i es' he
      obtain rfl := Option.some.inj he
      simp only [Option.some.injEq, Prod.mk.injEq] at hloc
      obtain ⟨rfl, rfl, rfl⟩ := hloc
      rw [RepV_cell rfl] at hr
      simp only [Rep] at hr
      obtain ⟨b, l, c, hv, hb, he, hfl, _⟩ := hr
      have hv' : u = .map (some b) := by simpa using hv
      subst hv'
      simp only [viewOk] at hview
      exact ⟨g, b, l, c, hg, hget, hf, hview.1, hb, he, hfl⟩
    · cases hloc
  obtain ⟨g, b, l, c, hg, hget, hf, hx, hb, hl, hfl⟩ := hmap
  have hckr := pureRun_run hck w
  have hexec : ∀ w', (Instr.mapUpdate T (.map (some b)) kv vv).run E.P w = .ok () w' → (execOp a.eval o).run E.P w = .ok .skip w' := by
    intro w' hr
    unfold execOp
    rcases ho with ho | ho <;> (rw [ho]; simp [hx, hk, hv, hr])
  split at hs
  · rename_i i vold hfind
    simp only [Option.bind_eq_some_iff] at hs
    obtain ⟨e, he, k', hk', hs⟩ := hs
    split at hs
    case isFalse => cases hs
    case isTrue hfk' =>
    have hfr : (Instr.findKey K kv l.toList).run E.P w = .ok (some (i, vold)) w := by
      rw [findKey_congr (l' := ents es) (by rw [hl, ents_map])]; exact pureRun_run hfind w
    have hli : ∃ e0, l[i]? = some e0 ∧ e0.key = e.1 := by
      rw [← hl] at he
      simp only [List.getElem?_map, Option.map_eq_some_iff] at he
      obtain ⟨e0, h0, rfl⟩ := he
      exact ⟨e0, by simpa using h0, rfl⟩
    obtain ⟨e0, he0, hek⟩ := hli
    obtain ⟨φ', hr, hstp⟩ := h.rel.putMap (l' := l.modify i fun e => { e with key := k', val := vv }) (c' := c) hg hget hf hb (es' := es.modify i fun _ => (k', vv)) (by
      rw [Array.toList_modify, ← hl]
      apply List.ext_getElem?
      intro j
      simp only [List.getElem?_map, List.getElem?_modify]
      by_cases hij : i = j
      · subst hij; cases l.toList[i]? <;> simp
      · cases l.toList[j]? <;> simp [hij]) (by
      intro e1 he1
      obtain ⟨j, hj⟩ := List.mem_iff_getElem?.1 he1
      simp only [List.getElem?_modify] at hj
      by_cases hij : i = j
      · subst hij
        rw [he] at hj
        simp at hj; subst hj; exact ⟨hfk', hfv⟩
      · cases hjj : es[j]? with
        | none => rw [hjj] at hj; simp at hj
        | some e2 => rw [hjj] at hj; simp [hij] at hj; subst hj; exact hfl e2 (List.mem_of_getElem? hjj)) hs
    have hrun : (Instr.mapUpdate T (.map (some b)) kv vv).run E.P w = .ok () { w with heap := w.heap.setIfInBounds b (.map (l.modify i fun e => { e with key := k', val := vv }) c) } := by
      have hks := pureRun_run hk' w
      rw [← hek] at hks
      simp [Instr.mapUpdate, run_underlying hu, run_getObj hb, hckr, hfr, he0, hks, run_setObj _ hb]
    refine Yld.skip (hexec _ hrun) ?_
    rw [hdn]; exact ⟨Z, φ', hr, hstp, fun _ _ _ => Iff.rfl⟩
  · rename_i hfind
    have hfr : (Instr.findKey K kv l.toList).run E.P w = .ok none w := by
      rw [findKey_congr (l' := ents es) (by rw [hl, ents_map])]; exact pureRun_run hfind w
    obtain ⟨φ', hr, hstp⟩ := h.rel.putMap (l' := l.push { key := kv, val := vv, born := c }) (c' := c + 1) hg hget hf hb (es' := es ++ [(kv, vv)]) (by simp [← hl]) (by
      intro e1 he1
      rcases List.mem_append.1 he1 with he1 | he1
      · exact hfl e1 he1
      · obtain rfl := List.mem_singleton.1 he1; exact ⟨hfk, hfv⟩) hs
    have hrun : (Instr.mapUpdate T (.map (some b)) kv vv).run E.P w = .ok () { w with heap := w.heap.setIfInBounds b (.map (l.push { key := kv, val := vv, born := c }) (c + 1)) } := by
      simp [Instr.mapUpdate, run_underlying hu, run_getObj hb, hckr, hfr, run_setObj _ hb]
    refine Yld.skip (hexec _ hrun) ?_
    rw [hdn]; exact ⟨Z, φ', hr, hstp, fun _ _ _ => Iff.rfl⟩
  · cases hs
end Go.V
