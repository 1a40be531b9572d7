/- A part of the proof of SegmentWhole: contracts of functions, or what these lean on. No condition. -/
import Derived.Test.YtldoffdakikaeaaDoorVEq
namespace Go.V
open Go.Proofs
set_option maxRecDepth 8000
theorem pr_size {P : Program} {T : TypeId} {i : TypeInfo} (h : P.info? T = some i) : pureRun P (sizeOf T) = some i.size := by
  unfold sizeOf typeInfo
  simp [pureRun_bind, pureRun_program, h, pureRun_pure]
theorem pr_arr4 {P : Program} {T e : TypeId} {d : Nat} {k : IntKind} {i : TypeInfo} {a0 a1 a2 a3 b0 b1 b2 b3 : Int} (hu : P.underlying T = some (.array 4 e)) (he : P.underlying e = some (.int k)) (hi : P.info? e = some i) (hs : i.size = 1) :
    pureRun P (Op.equalIn (d + 1 + 1) T (.agg #[.int k a0, .int k a1, .int k a2, .int k a3]) (.agg #[.int k b0, .int k b1, .int k b2, .int k b3])) = some ((a0 == b0) && ((a1 == b1) && ((a2 == b2) && (a3 == b3)))) := by
  have ha : aggT P e = false := by simp [aggT, he]
  rw [Op.equalIn, pureRun_bind, pureRun_underlying hu]
  simp only [Option.bind_some, pureRun_bind, pr_size hi, hs]
  rw [Std.Legacy.Range.forIn_eq_forIn_range']
  simp only [Std.Legacy.Range.size, List.range', Nat.reduceAdd, Nat.zero_add]
  have hp : ∀ (xs : Array Value) (o : Nat) (v : Value), xs[o]? = some v → pureRun P (part e xs o) = some v := fun xs o v h => pr_part he ha h
  have A0' : pureRun P (part e #[Value.int k a0, Value.int k a1, Value.int k a2, Value.int k a3] 0) = some (.int k a0) := hp _ _ _ (by simp)
  have A1' : pureRun P (part e #[Value.int k a0, Value.int k a1, Value.int k a2, Value.int k a3] 1) = some (.int k a1) := hp _ _ _ (by simp)
  have A2' : pureRun P (part e #[Value.int k a0, Value.int k a1, Value.int k a2, Value.int k a3] 2) = some (.int k a2) := hp _ _ _ (by simp)
  have A3' : pureRun P (part e #[Value.int k a0, Value.int k a1, Value.int k a2, Value.int k a3] 3) = some (.int k a3) := hp _ _ _ (by simp)
  have B0' : pureRun P (part e #[Value.int k b0, Value.int k b1, Value.int k b2, Value.int k b3] 0) = some (.int k b0) := hp _ _ _ (by simp)
  have B1' : pureRun P (part e #[Value.int k b0, Value.int k b1, Value.int k b2, Value.int k b3] 1) = some (.int k b1) := hp _ _ _ (by simp)
  have B2' : pureRun P (part e #[Value.int k b0, Value.int k b1, Value.int k b2, Value.int k b3] 2) = some (.int k b2) := hp _ _ _ (by simp)
  have B3' : pureRun P (part e #[Value.int k b0, Value.int k b1, Value.int k b2, Value.int k b3] 3) = some (.int k b3) := hp _ _ _ (by simp)
  cases h0 : (a0 == b0) <;> cases h1 : (a1 == b1) <;> cases h2 : (a2 == b2) <;> cases h3 : (a3 == b3) <;>
    simp [List.forIn_cons, pureRun_bind, pureRun_ite, pureRun_pure, pr_eqi he, A0', A1', A2', A3', B0', B1', B2', B3', h0, h1, h2, h3]
theorem bin_arr4 {P : Program} {T e : TypeId} {x y : Operand} {k : IntKind} {i : TypeInfo} {a0 a1 a2 a3 b0 b1 b2 b3 : Int} (hu : P.underlying T = some (.array 4 e)) (he : P.underlying e = some (.int k)) (hi : P.info? e = some i) (hs : i.size = 1) (hg : P.eqGuardType P.depth T = false) :
    binP P .neq T x y (.agg #[.int k a0, .int k a1, .int k a2, .int k a3]) (.agg #[.int k b0, .int k b1, .int k b2, .int k b3]) = some (.prim (.bool (!((a0 == b0) && ((a1 == b1) && ((a2 == b2) && (a3 == b3))))))) := by
  have he2 : pureRun P (Op.equal T (.agg #[.int k a0, .int k a1, .int k a2, .int k a3]) (.agg #[.int k b0, .int k b1, .int k b2, .int k b3])) = some ((a0 == b0) && ((a1 == b1) && ((a2 == b2) && (a3 == b3)))) := by
    show pureRun P (Op.equalIn (9998 + 1 + 1) T _ _) = _
    exact pr_arr4 hu he hi hs
  have hpr : pureRun P program = some P := rfl
  have hgu : pureRun P (eqGuard .neq T x y (.agg #[.int k a0, .int k a1, .int k a2, .int k a3]) (.agg #[.int k b0, .int k b1, .int k b2, .int k b3])) = some () := by
    simp [eqGuard, pureRun_bind, hpr, hg, pureRun_pure]
  unfold binP
  rw [pureRun_bind, hgu]
  have : pureRun P (binOp .neq T (.agg #[.int k a0, .int k a1, .int k a2, .int k a3]) (.agg #[.int k b0, .int k b1, .int k b2, .int k b3])) = some (.bool (!((a0 == b0) && ((a1 == b1) && ((a2 == b2) && (a3 == b3)))))) := by
    show pureRun P (do pure (Value.bool (!(← Op.equal T _ _)))) = _
    rw [pureRun_bind, he2]; rfl
  simp only [Option.bind_some, this]; rfl
def tb (T : Tbl) (f : FuncId) (caps : List PV) (x : PV) : Bool := match T f (x :: caps) with
  | some (.prim (.bool b), []) => b
  | _ => false
def tbOk (T : Tbl) (f : FuncId) (caps : List PV) (x : PV) : Prop := T f (x :: caps) = some (pB (tb T f caps x), [])
theorem tb_of {T : Tbl} {f : FuncId} {caps : List PV} {x : PV} {b : Bool} (h : T f (x :: caps) = some (pB b, [])) : tb T f caps x = b ∧ tbOk T f caps x := by
  have : tb T f caps x = b := by unfold tb; rw [h]
  exact ⟨this, by unfold tbOk; rw [this]; exact h⟩
theorem Ok_eq {g : List PV → Option (PV × List PV)} {xs : List PV} {r : PV × List PV} (h : Ok (g xs) (fun q => q = r)) : g xs = some r := by
  obtain ⟨q, h1, rfl⟩ := h; exact h1
/-- the place of the first that is so, or -1 -/
def idx {α : Type} (p : α → Bool) (l : List α) : Int := if l.any p = true then (l.findIdx p : Nat) else -1
theorem idx_at {α : Type} {p : α → Bool} {l : List α} {i : Nat} (h : i < l.length) (hp : p l[i] = true) (hn : ∀ j (hj : j < i), p (l[j]'(by omega)) = false) : idx p l = i := by
  unfold idx
  rw [if_pos (List.any_eq_true.2 ⟨_, List.getElem_mem h, hp⟩)]
  congr 1
  rw [List.findIdx_eq h]
  exact ⟨hp, fun j hj => by simpa using hn j hj⟩
theorem idx_none {α : Type} {p : α → Bool} {l : List α} (hn : ∀ j (hj : j < l.length), p l[j] = false) : idx p l = -1 := by
  unfold idx
  rw [if_neg]
  intro h
  obtain ⟨x, hx, hp⟩ := List.any_eq_true.1 h
  obtain ⟨j, hj, rfl⟩ := List.getElem_of_mem hx
  rw [hn j hj] at hp; cases hp
theorem idx_nonneg {α : Type} {p : α → Bool} {l : List α} : decide (0 ≤ idx p l) = l.any p := by
  unfold idx
  cases h : l.any p <;> simp
end Go.V
