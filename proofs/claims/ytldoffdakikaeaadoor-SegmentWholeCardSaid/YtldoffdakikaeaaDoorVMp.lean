/- Maps by what they hold: found, put anew. -/
import Derived.Test.YtldoffdakikaeaaDoorVB1
namespace Go.V
set_option linter.unusedVariables false
set_option linter.unusedSimpArgs false
def mapPut (P : Program) (K : TypeId) (kv vv : Value) (es : List (Value × Value)) : Option (List (Value × Value)) :=
  if flatV kv = true ∧ flatV vv = true ∧ pureRun P (Instr.checkKey false 10000 K kv) = some () then
    match pureRun P (Instr.findKey K kv (ents es)) with
    | some (some (i, _)) => (es[i]?).bind fun e => (pureRun P (Instr.keyThatStays e.1 kv)).bind fun k' =>
        if flatV k' = true then some (es.modify i fun _ => (k', vv)) else none
    | some none => some (es ++ [(kv, vv)])
    | none => none
  else none
theorem semMapSet_eq {E : Env} {o : Oper} {T : TypeId} {x k v : Operand} {F : RF} : semMapSet E o T x k v F = (match E.P.underlying T, o.dst with
    | some (.map K _), none => (E.mloc F x).bind fun q => (E.vl F k).bind fun kv => (E.vl F v).bind fun vv => (mapPut E.P K kv vv q.2.2).bind fun es' => F.putMap q.1 q.2.1 es'
    | _, _ => none) := by
  unfold semMapSet
  cases hT : E.P.underlying T with
  | none => rfl
  | some u =>
    cases u with
    | map K V =>
      cases hd : o.dst with
      | some d => rfl
      | none =>
        simp only
        cases E.mloc F x with
        | none => rfl
        | some q =>
          simp only [Option.bind_some]
          cases E.vl F k with
          | none => rfl
          | some kv =>
            simp only [Option.bind_some]
            cases E.vl F v with
            | none => rfl
            | some vv =>
              simp only [Option.bind_some, mapPut]
              split
              · cases hf : pureRun E.P (Instr.findKey K kv (ents q.2.2)) with
                | none => rfl
                | some o2 =>
                  cases o2 with
                  | none => rfl
                  | some iu =>
                    obtain ⟨i, u⟩ := iu
                    simp only
                    cases q.2.2[i]? with
                    | none => rfl
                    | some e =>
                      simp only [Option.bind_some]
                      cases pureRun E.P (Instr.keyThatStays e.1 kv) with
                      | none => rfl
                      | some k' => simp only [Option.bind_some]; split <;> rfl
              · rfl
    | _ => rfl
attribute [simp] semMapSet_eq
attribute [simp] Env.entries.eq_1 Env.mloc.eq_1 RF.putMap.eq_1
section
variable {α β : Type} [DecidableEq α]
def mgetI (k : α) : Nat → List (α × β) → Option (Nat × β)
  | _, [] => none
  | i, (a, v) :: l => if k = a then some (i, v) else mgetI k (i + 1) l
def mget (k : α) (l : List (α × β)) : Option (Nat × β) := mgetI k 0 l
def mput (k : α) (v : β) : List (α × β) → List (α × β)
  | [] => [(k, v)]
  | (a, u) :: l => if k = a then (k, v) :: l else (a, u) :: mput k v l
theorem mgetI_none {k : α} : ∀ {l : List (α × β)} {i : Nat}, mgetI k i l = none ↔ ∀ p ∈ l, p.1 ≠ k
  | [], i => by simp [mgetI]
  | (a, v) :: l, i => by
    simp only [mgetI]
    split
    · rename_i h; subst h; simp
    · rename_i h
      rw [mgetI_none]
      simp only [List.mem_cons, forall_eq_or_imp]
      exact ⟨fun h' => ⟨fun e => h e.symm, h'⟩, fun h' => h'.2⟩
theorem mget_none {k : α} {l : List (α × β)} : mget k l = none ↔ ∀ p ∈ l, p.1 ≠ k := mgetI_none
theorem mput_none {k : α} {v : β} : ∀ {l : List (α × β)}, (∀ p ∈ l, p.1 ≠ k) → mput k v l = l ++ [(k, v)]
  | [], _ => rfl
  | (a, u) :: l, h => by
    simp only [mput]
    rw [if_neg (fun e => h (a, u) (by simp) e.symm), mput_none (fun p hp => h p (by simp [hp]))]; rfl
theorem mgetI_some {k : α} : ∀ {l : List (α × β)} {i j : Nat} {u : β}, mgetI k i l = some (j, u) → ∃ m, j = i + m ∧ l[m]? = some (k, u) ∧ ∀ v, mput k v l = l.modify m fun _ => (k, v)
  | [], i, j, u, h => by simp [mgetI] at h
  | (a, w) :: l, i, j, u, h => by
    simp only [mgetI] at h
    split at h
    · rename_i e; subst e
      simp only [Option.some.injEq, Prod.mk.injEq] at h
      obtain ⟨rfl, rfl⟩ := h
      exact ⟨0, rfl, rfl, fun v => by simp [mput]⟩
    · rename_i e
      obtain ⟨m, rfl, h2, h3⟩ := mgetI_some h
      exact ⟨m + 1, by omega, by simpa using h2, fun v => by simp [mput, e, h3]⟩
theorem mget_isSome {k : α} {l : List (α × β)} : (mget k l).isSome = true ↔ ∃ p ∈ l, p.1 = k := by
  cases h : mget k l with
  | none => have := mget_none.1 h; simp; exact fun b hm => this (k, b) hm rfl
  | some q =>
    obtain ⟨m, _, h2, _⟩ := mgetI_some h
    simp only [Option.isSome_some, true_iff]
    exact ⟨_, List.mem_of_getElem? h2, rfl⟩
/-- keys of a kind, and what is laid under them -/
structure Keys (P : Program) (K : TypeId) (ke : α → Value) : Prop where
  ty : ∃ u, P.underlying K = some u ∧ ∀ a b, Instr.sameNow u (ke a) (ke b) = none ∨ Instr.sameNow u (ke a) (ke b) = some (decide (a = b))
  eq : ∀ a b, pureRun P (Op.equal K (ke a) (ke b)) = some (decide (a = b))
  flat : ∀ a, flatV (ke a) = true
  ck : ∀ b a, pureRun P (Instr.checkKey b 10000 K (ke a)) = some ()
  bits : ∀ a, Instr.sameBits 10000 (ke a) (ke a) = true
variable {P : Program} {K : TypeId} {ke : α → Value} {ve : β → Value}
theorem findAsking_keys (h : Keys P K ke) {k : α} : ∀ {l : List (α × β)} {i : Nat}, pureRun P (Instr.findAsking K (ke k) (ents (l.map fun p => (ke p.1, ve p.2))) i) = some ((mgetI k i l).map fun q => (q.1, ve q.2))
  | [], i => rfl
  | (a, v) :: l, i => by
    simp only [List.map_cons, ents, Instr.findAsking, mgetI, pureRun_bind, h.eq, Option.bind_some]
    by_cases e : k = a
    · simp [e, pureRun_pure]
    · have := findAsking_keys h (k := k) (l := l) (i := i + 1)
      simp only [e, decide_false, Bool.false_eq_true, if_false]
      exact this
theorem findNow_keys {u : TypeDesc} (h : ∀ a b, Instr.sameNow u (ke a) (ke b) = none ∨ Instr.sameNow u (ke a) (ke b) = some (decide (a = b))) {k : α} : ∀ {l : List (α × β)} {i : Nat} {r : Option (Nat × Value)},
    Instr.findNow u (ke k) (ents (l.map fun p => (ke p.1, ve p.2))) i = some r → r = (mgetI k i l).map fun q => (q.1, ve q.2)
  | [], i, r, hr => by simp only [List.map_nil, ents, List.map_nil, Instr.findNow, Option.some.injEq] at hr; rw [← hr]; rfl
  | (a, v) :: l, i, r, hr => by
    simp only [List.map_cons, ents, Instr.findNow] at hr
    rcases h k a with e | e
    · rw [e] at hr; cases hr
    · rw [e] at hr
      by_cases c : k = a
      · simp only [c, decide_true, Option.some.injEq] at hr
        simp [mgetI, c, ← hr]
      · simp only [c, decide_false] at hr
        simp only [mgetI, c, if_false]
        exact findNow_keys h hr
theorem findKey_keys (h : Keys P K ke) {k : α} {l : List (α × β)} : pureRun P (Instr.findKey K (ke k) (ents (l.map fun p => (ke p.1, ve p.2)))) = some ((mget k l).map fun q => (q.1, ve q.2)) := by
  obtain ⟨u, hu, hn⟩ := h.ty
  unfold Instr.findKey
  rw [pureRun_bind, pureRun_underlying hu, Option.bind_some]
  split
  · rename_i r hr; rw [findNow_keys hn hr]; rfl
  · exact findAsking_keys h
theorem mapFind_keys (h : Keys P K ke) {k : α} {l : List (α × β)} : mapFind P K (ke k) (l.map fun p => (ke p.1, ve p.2)) = some ((mget k l).map fun q => (q.1, ve q.2)) := by
  unfold mapFind; rw [if_pos (h.ck _ _), findKey_keys h]
theorem mapPut_keys (h : Keys P K ke) (hv : ∀ v, flatV (ve v) = true) {k : α} {v : β} {l : List (α × β)} : mapPut P K (ke k) (ve v) (l.map fun p => (ke p.1, ve p.2)) = some ((mput k v l).map fun p => (ke p.1, ve p.2)) := by
  unfold mapPut
  rw [if_pos ⟨h.flat _, hv _, h.ck _ _⟩, findKey_keys h]
  cases hm : mget k l with
  | none => simp only [Option.map_none]; rw [mput_none (mget_none.1 hm)]; simp
  | some q =>
    obtain ⟨j, u⟩ := q
    obtain ⟨m, rfl, h2, h3⟩ := mgetI_some hm
    simp only [Option.map_some, Nat.zero_add, List.getElem?_map, h2, Option.bind_some]
    have hk : pureRun P (Instr.keyThatStays (ke k) (ke k)) = some (ke k) := by
      unfold Instr.keyThatStays; rw [if_pos (h.bits k)]; rfl
    rw [hk]
    simp only [Option.bind_some, h.flat, if_true, h3]
    congr 1
    apply List.ext_getElem?
    intro i
    simp only [List.getElem?_modify, List.getElem?_map]
    split <;> cases l[i]? <;> simp
theorem mapFind_nil (h : Keys P K ke) {k : α} : mapFind P K (ke k) [] = some none := mapFind_keys h (ve := fun _ : Unit => Value.nilFunc) (l := [])
end
/-! ### Keys of some kinds -/
theorem checkKey_flat {P : Program} {K : TypeId} {u : TypeDesc} {b : Bool} {v : Value} {n : Nat} (hu : P.underlying K = some u) (hv : (∃ k a, u = .int k ∧ v = .int k a) ∨ (u = .string ∧ ∃ s, v = .string s)) : pureRun P (Instr.checkKey b (n + 1) K v) = some () := by
  unfold Instr.checkKey
  rw [pureRun_bind, pureRun_underlying hu, Option.bind_some]
  rcases hv with ⟨k, a, rfl, rfl⟩ | ⟨rfl, s, rfl⟩ <;> rfl
theorem keys_int {P : Program} {K : TypeId} {k : IntKind} (hu : P.underlying K = some (.int k)) : Keys P K (fun n : Int => Value.int k n) := by
  refine ⟨⟨_, hu, fun a b => .inr (by simp [Instr.sameNow]; rfl)⟩, fun a b => ?_, fun a => rfl, fun b a => checkKey_flat hu (.inl ⟨k, a, rfl, rfl⟩), fun a => by simp [Instr.sameBits]⟩
  show pureRun P (Op.equalIn (9999 + 1) K _ _) = _
  rw [pr_eqi hu]; rfl
/-- whether a struct of such parts is a key -/
def ckL (P : Program) (xs : Array Value) : List Field → Bool
  | [] => true
  | f :: fs => (f.name != "_") && (match P.underlying f.type, xs[f.offset]? with
      | some (.int k), some (.int k' _) => k == k'
      | some .string, some (.string _) => true
      | _, _ => false) && ckL P xs fs
theorem checkKey_struct {P : Program} {K : TypeId} {b : Bool} {fs : Array Field} {xs : Array Value} {n : Nat} (hu : P.underlying K = some (.struct fs)) (h : ckL P xs fs.toList = true) : pureRun P (Instr.checkKey b (n + 1 + 1) K (.agg xs)) = some () := by
  unfold Instr.checkKey
  rw [pureRun_bind, pureRun_underlying hu, Option.bind_some]
  simp only
  rw [← Array.forIn_toList]
  generalize fs.toList = l at h
  clear hu
  induction l with
  | nil => simp [pureRun_pure]
  | cons f l ih =>
    simp only [ckL, Bool.and_eq_true, bne_iff_ne, ne_eq] at h
    obtain ⟨⟨hn, hm⟩, hr⟩ := h
    simp only [List.forIn_cons, pureRun_bind, pureRun_ite]
    rw [if_pos hn]
    split at hm
    · rename_i k k' a h1 h2
      have e := beq_iff_eq.1 hm
      subst e
      rw [pr_part h1 (by simp [aggT, h1]) h2]
      simp only [Option.bind_some, checkKey_flat h1 (.inl ⟨_, _, rfl, rfl⟩), pureRun_pure]
      have := ih hr
      simp only [pureRun_bind, pureRun_pure] at this
      exact this
    · rename_i s h1 h2
      rw [pr_part h1 (by simp [aggT, h1]) h2]
      simp only [Option.bind_some, checkKey_flat h1 (.inr ⟨rfl, _, rfl⟩), pureRun_pure]
      have := ih hr
      simp only [pureRun_bind, pureRun_pure] at this
      exact this
    · cases hm
theorem keys_struct {α : Type} [DecidableEq α] {P : Program} {K : TypeId} {fs : Array Field} {ke : α → Array Value} (hu : P.underlying K = some (.struct fs)) (hp : P.stoodInHeld K = false) (he : ∀ a b, eqL P (ke a) (ke b) fs.toList = some (decide (a = b))) (hc : ∀ a, ckL P (ke a) fs.toList = true)
    (hf : ∀ a, flatV (.agg (ke a)) = true) (hb : ∀ a, Instr.sameBits 10000 (.agg (ke a)) (.agg (ke a)) = true) : Keys P K (fun a => Value.agg (ke a)) := by
  refine ⟨⟨_, hu, fun a b => .inl rfl⟩, fun a b => ?_, hf, fun b a => checkKey_struct hu (hc a), hb⟩
  show pureRun P (Op.equalIn (9998 + 1 + 1) K _ _) = _
  rw [pr_struct hu hp]; exact eqL_ok (he a b)
end Go.V
