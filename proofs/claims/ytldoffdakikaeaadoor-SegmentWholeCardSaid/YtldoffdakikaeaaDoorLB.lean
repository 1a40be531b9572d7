/- From a contract to a law: what it is handed, what it tells. -/
import Derived.Test.YtldoffdakikaeaaDoorVM4
import Derived.Test.YtldoffdakikaeaaDoorVArr
namespace Go.V
open Go.Proofs
set_option linter.unusedVariables false
open Go.RowKit (Below)
theorem openV_map {α β : Type} {P : Program} {t : TypeId} {el : α → PV} {el' : β → PV} {wf : α → Prop} {wf' : β → Prop} (h : OpensV P t el wf) (k : ∀ a, wf a → ∃ b, el' b = el a ∧ wf' b) : OpensV P t el' wf' := by
  intro H enc w fuel cs x hx
  obtain ⟨a, ha, wa⟩ := h H enc w fuel cs x hx
  obtain ⟨b, hb, wb⟩ := k a wa
  exact ⟨b, by rw [hb]; exact ha, wb⟩
theorem openV_byte {P : Program} {t : TypeId} (ht : P.underlying t = some (.int .u8)) : OpensV P t pY (fun _ => True) :=
  openV_map (openV_int ht) fun n hn => ⟨by8 n, by
    have h : 0 ≤ n ∧ n ≤ 255 := by simpa [Lit.wf, IntKind.min, IntKind.max, IntKind.signed] using hn
    show PV.prim (.int .u8 ((by8 n).toNat : Int)) = _
    rw [by8_toNat, Int.emod_eq_of_lt h.1 (by omega)], trivial⟩
theorem openV_i64 {P : Program} {t : TypeId} (ht : P.underlying t = some (.int .i64)) : OpensV P t pI (fun n => fits n) :=
  openV_map (openV_int ht) fun n hn => ⟨n, rfl, by simpa [Lit.wf, IntKind.min, IntKind.max, IntKind.signed, fits] using hn⟩
/-- the call of a law: it tells true, and nothing that was there changes -/
theorem law_calls {P : Program} {G : Nat → Option (List PV)} {f : FuncId} {g : List PV → Option (PV × List PV)} {xs : List PV} {vs : List Value} {W : World} (h : Impl P G f g) (hr : RepTs W nobody xs [] vs)
    (hx : ∀ x ∈ xs, x.notTup = true ∧ x.noOwn = true) (hG : GlobOk G nobody W) (hg : g xs = some (pB true, [])) : Calls P f vs.toArray W fun e w' => e = .returned (.bool true) ∧ Below W.heap.size W w' := by
  refine (h W nobody xs vs [] (pB true) [] hr List.nodup_nil (fun x hm => ⟨(hx x hm).1, .inl (hx x hm).2⟩) hG hg).mono ?_
  rintro e w' ⟨v, Z', φr, φo, rfl, hv, _, _, _, hs, _⟩
  rw [RepV_cell rfl] at hv
  simp only [Rep] at hv
  have : v = .bool true := by simpa using hv.2.1
  subst this
  exact ⟨rfl, hs.below rfl⟩
theorem RepTs_nil' {w : World} {Z : Nat → Prop} : RepTs w Z [] [] [] := by simp [RepTs]
theorem RepTs_cons' {w : World} {Z : Nat → Prop} {x : PV} {xs : List PV} {v : Value} {vs : List Value} (h : RepV1 w Z x [] v) (h2 : RepTs w Z xs [] vs) : RepTs w Z (x :: xs) [] (v :: vs) := RepTs_cons.2 ⟨[], [], v, vs, rfl, rfl, h, h2⟩
theorem globOk_none {w : World} {Z : Nat → Prop} : GlobOk (fun _ => none) Z w := by intro g cs h; cases h
end Go.V
