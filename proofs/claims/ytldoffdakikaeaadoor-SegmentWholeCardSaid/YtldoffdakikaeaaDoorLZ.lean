/- What a law is handed is not longer than what fits. -/
import Derived.Test.YtldoffdakikaeaaDoorLB
namespace Go.V
set_option linter.unusedVariables false
set_option linter.unusedSimpArgs false
/-- Each reading of type t is one of a value of this form; a size holds of it, if what was read weighs no more than can be. -/
def OpensZ {α : Type} (P : Program) (t : TypeId) (el : α → PV) (wf : α → Prop) (sz : α → Prop) : Prop :=
  ∀ (H : Type) (enc : TypeId × Value → H) (w : World) (fuel : Nat) (cs : List Value) (x : DataW H × List MemPlace),
    DataW.trod enc P w 0 (fun _ => true) true fuel t cs = some x → ∃ a, Rep w nobody (el a) [] cs ∧ wf a ∧ ((∀ n ∈ x.1.weights P t, n ≤ reachBytes) → sz a)
theorem openZ_of {α : Type} {P : Program} {t : TypeId} {el : α → PV} {wf : α → Prop} (h : OpensV P t el wf) : OpensZ P t el wf (fun _ => True) := by
  intro H enc w fuel cs x hx
  obtain ⟨a, h1, h2⟩ := h H enc w fuel cs x hx
  exact ⟨a, h1, h2, fun _ => trivial⟩
theorem openZ_slice {α : Type} {P : Program} {t e : TypeId} {el : α → PV} {wf : α → Prop} {sz b : Nat} (ht : P.underlying t = some (.slice e)) (he : P.cellsOf e = sz) (hsz : 0 < sz) (hb : P.bytesOf e = b) (h : OpensV P e el wf) :
    OpensZ P t (fun l : List α => .sl false sz (l.map el)) (fun l => l.length ≤ maxLen ∧ ∀ x ∈ l, wf x) (fun l => l.length * b ≤ reachBytes) := by
  intro H enc w fuel cs x hx
  obtain ⟨l, h1, h2⟩ := openV_slice ht he hsz h H enc w fuel cs x hx
  refine ⟨l, h1, h2, fun hz => ?_⟩
  simp only [Rep] at h1
  obtain ⟨a0, cap0, ψ, ch, hcs, _⟩ := h1
  rcases Go.Deep.open_slice ht hx with ⟨rfl, rfl⟩ | ⟨a, len, cap, m, n, D, Pl, rfl, _, _, _, _, rfl, _⟩
  · simp only [List.cons.injEq, Value.slice.injEq, and_true] at hcs
    have : (l.map el).length = 0 := hcs.2.1.symm
    rw [List.length_map] at this
    rw [this]; simp
  · simp only [List.cons.injEq, Value.slice.injEq, and_true] at hcs
    have hl : len = (l.map el).length := hcs.2.1
    rw [List.length_map] at hl
    have := hz ((len + ((List.range (m - len)).map fun j => D (len + j)).length) * P.bytesOf e) (by simp [DataW.weights, ht])
    rw [hb] at this
    refine Nat.le_trans (Nat.mul_le_mul_right _ ?_) this
    omega
theorem openZ_string {P : Program} {t : TypeId} (ht : P.underlying t = some .string) : OpensZ P t (fun s : ByteArray => .prim (.string s)) (fun s => s.size ≤ maxLen) (fun s => s.size ≤ reachBytes) := by
  intro H enc w fuel cs x h
  obtain ⟨s, rfl, hx, hs⟩ := DataW.trod_string ht h
  refine ⟨s, by simp only [Rep]; exact ⟨trivial, trivial, rfl⟩, hs, fun hz => ?_⟩
  subst hx
  have := hz s.data.toList.length (by simp [DataW.weights])
  simpa using this
theorem openV_str {P : Program} {t : TypeId} (ht : P.underlying t = some .string) : OpensV P t pS (fun l => l.length ≤ maxLen) :=
  openV_map (openV_string ht) fun s hs => ⟨s.data.toList, rfl, by simpa using hs⟩
theorem openZ_str {P : Program} {t : TypeId} (ht : P.underlying t = some .string) : OpensZ P t pS (fun l => l.length ≤ maxLen) (fun l => l.length ≤ reachBytes) := by
  intro H enc w fuel cs x h
  obtain ⟨s, h1, h2, h3⟩ := openZ_string ht H enc w fuel cs x h
  exact ⟨s.data.toList, h1, by simpa using h2, fun hz => by simpa using h3 hz⟩
/-- an array of two slices -/
theorem openZ_two {α : Type} {P : Program} {t e e' : TypeId} {el : α → PV} {wf : α → Prop} {sz b : Nat} (ht : P.underlying t = some (.array 2 e)) (hc : P.cellsOf e = 1) (hs : OpensZ P e (fun l : List α => .sl false sz (l.map el)) (fun l => l.length ≤ maxLen ∧ ∀ x ∈ l, wf x) (fun l => l.length * b ≤ reachBytes)) (hct : P.cellsOf t = 2) :
    OpensZ P t (fun p : List α × List α => .agg [.sl false sz (p.1.map el), .sl false sz (p.2.map el)]) (fun p => (p.1.length ≤ maxLen ∧ ∀ x ∈ p.1, wf x) ∧ (p.2.length ≤ maxLen ∧ ∀ x ∈ p.2, wf x)) (fun p => p.1.length * b ≤ reachBytes ∧ p.2.length * b ≤ reachBytes) := by
  intro H enc w fuel cs x hx
  cases fuel with
  | zero => simp [DataW.trod] at hx
  | succ m =>
    unfold DataW.trod at hx
    rw [ht] at hx
    have hx' : (if cs.length = P.cellsOf t then ((List.range 2).mapM fun i => DataW.trod enc P w 0 (fun _ => true) true m e ((cs.drop (i * P.cellsOf e)).take (P.cellsOf e))).map fun xs => (DataW.agg (xs.map (·.1)), xs.flatMap (·.2)) else none) = some x := by
      split at hx <;> simp_all
    clear hx
    by_cases hlen : cs.length = P.cellsOf t
    · rw [if_pos hlen] at hx'
      obtain ⟨xs, hp, rfl⟩ := Option.map_eq_some_iff.1 hx'
      have hxl := mapM_some_length hp
      have hl2 : xs.length = 2 := by rw [hxl]; rfl
      rw [hct] at hlen
      match xs, hl2 with
      | [y0, y1], _ =>
        match cs, hlen with
        | [c0, c1], _ =>
          have g0 := mapM_some_get hp 0 0 (by simp)
          have g1 := mapM_some_get hp 1 1 (by simp)
          rw [hc] at g0 g1
          simp at g0 g1
          obtain ⟨a0, r0, w0, z0⟩ := hs H enc w m _ _ g0
          obtain ⟨a1, r1, w1, z1⟩ := hs H enc w m _ _ g1
          refine ⟨(a0, a1), ?_, ⟨w0, w1⟩, fun hz => ⟨z0 fun n hn => hz n ?_, z1 fun n hn => hz n ?_⟩⟩
          · simp only [Rep]
            exact ⟨RepL_cons.2 ⟨[], [], [c0], [c1], rfl, rfl, r0, RepL_cons.2 ⟨[], [], [c1], [], rfl, rfl, r1, RepL_nil.2 ⟨rfl, rfl⟩⟩⟩, by simp [PV.cell1]⟩
          · simp [DataW.weights, ht, DataW.weightsAll, hn]
          · simp [DataW.weights, ht, DataW.weightsAll, hn]
    · rw [if_neg hlen] at hx'; cases hx'
/-- one of a law's arguments weighs no more than can be -/
theorem weigh_arg {H : Type} {P : Program} {ts : List TypeId} {ds : List (DataW H)} (h : (DataW.weightsEach P ts ds).all (· ≤ reachBytes) = true) {j : Nat} {t : TypeId} {d : DataW H} (ht : ts[j]? = some t) (hd : ds[j]? = some d) : ∀ n ∈ d.weights P t, n ≤ reachBytes := by
  intro n hn
  have := List.all_eq_true.1 h n (DataW.weights_mem_each ht hd n hn)
  simpa using this
end Go.V
