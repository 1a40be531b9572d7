/- The table of first bytes: what is listed of it is what it holds. -/
import Derived.Test.YtldoffdakikaeaaDoorLZ
import Derived.Test.YtldoffdakikaeaaDoorW9
import Derived.LaidLaws
import Derived.LaidMore
import Derived.MakeChecks
import Derived.Lay
import Derived.LaidOnce
import Derived.OpenShut
namespace Go.V
open Go.Proofs
open Go.ChangeShapes Go.WideShapes Go.ChangeAt Go.RowKit
set_option linter.unusedVariables false
set_option maxRecDepth 100000
set_option linter.unusedSimpArgs false
def leadD (a b c d e : Int) : DataW Unit := .agg [.lit (.int .u8 a), .lit (.int .u8 b), .lit (.int .i64 c), .lit (.int .u8 d), .lit (.int .u8 e)]
def leadsD : DataW Unit := .agg [leadD 0 127 1 0 0, leadD 194 223 2 128 191, leadD 224 224 3 160 191, leadD 225 236 3 128 191, leadD 237 237 3 128 159, leadD 238 239 3 128 191, leadD 240 240 4 144 191, leadD 241 243 4 128 191, leadD 244 244 4 128 143]
theorem lead_cells {W : World} {m : Nat} {cs : List Value} {x : DataW Unit × List MemPlace} {a b c d e : Int} {enc : TypeId × Value → Unit} {base : Nat} {sp : Nat → Bool} {held : Bool}
    (h : DataW.trod enc Tryd.prog W base sp held m 102 cs = some x) (hx : x.1 = leadD a b c d e) : cs = [.int .u8 a, .int .u8 b, .int .i64 c, .int .u8 d, .int .u8 e] := by
  have ht := Tryd.underlying102
  obtain ⟨xs, n, _, rfl, hl, hlen, hf⟩ := DataW.trod_struct ht h
  have c5 : Tryd.prog.cellsOf 102 = 5 := by kernel_rfl
  rw [c5] at hl
  match xs, hlen with
  | [x0, x1, x2, x3, x4], _ =>
    match cs, hl with
    | [v0, v1, v2, v3, v4], _ =>
      have k5 : Tryd.prog.cellsOf 5 = 1 := by kernel_rfl
      have k3 : Tryd.prog.cellsOf 3 = 1 := by kernel_rfl
      have f0 := hf 0 _ rfl; have f1 := hf 1 _ rfl; have f2 := hf 2 _ rfl; have f3 := hf 3 _ rfl; have f4 := hf 4 _ rfl
      change DataW.trod enc Tryd.prog W base sp held n 5 (([v0, v1, v2, v3, v4].drop 0).take (Tryd.prog.cellsOf 5)) = some x0 at f0
      rw [k5] at f0
      change DataW.trod enc Tryd.prog W base sp held n 5 (([v0, v1, v2, v3, v4].drop 1).take (Tryd.prog.cellsOf 5)) = some x1 at f1
      rw [k5] at f1
      change DataW.trod enc Tryd.prog W base sp held n 3 (([v0, v1, v2, v3, v4].drop 2).take (Tryd.prog.cellsOf 3)) = some x2 at f2
      rw [k3] at f2
      change DataW.trod enc Tryd.prog W base sp held n 5 (([v0, v1, v2, v3, v4].drop 3).take (Tryd.prog.cellsOf 5)) = some x3 at f3
      rw [k5] at f3
      change DataW.trod enc Tryd.prog W base sp held n 5 (([v0, v1, v2, v3, v4].drop 4).take (Tryd.prog.cellsOf 5)) = some x4 at f4
      rw [k5] at f4
      obtain ⟨z0, a0, b0, _⟩ := DataW.trod_int Tryd.underlying5 f0
      obtain ⟨z1, a1, b1, _⟩ := DataW.trod_int Tryd.underlying5 f1
      obtain ⟨z2, a2, b2, _⟩ := DataW.trod_int Tryd.underlying3 f2
      obtain ⟨z3, a3, b3, _⟩ := DataW.trod_int Tryd.underlying5 f3
      obtain ⟨z4, a4, b4, _⟩ := DataW.trod_int Tryd.underlying5 f4
      simp [leadD] at hx
      simp_all
theorem chunk_ext {cs ds : List Value} (hl : cs.length = 45) (hd : ds.length = 45) (h : ∀ i, i < 9 → (cs.drop (i * 5)).take 5 = (ds.drop (i * 5)).take 5) : cs = ds := by
  apply List.ext_getElem?
  intro j
  rcases Nat.lt_or_ge j 45 with hj | hj
  · have h1 := h (j / 5) (by omega)
    have h2 := congrArg (fun l : List Value => l[j % 5]?) h1
    simp only [List.getElem?_take, List.getElem?_drop] at h2
    rw [if_pos (by omega), if_pos (by omega), show j / 5 * 5 + j % 5 = j by omega] at h2
    exact h2
  · rw [List.getElem?_eq_none (by omega), List.getElem?_eq_none (by omega)]
theorem leads_var {W : World} (h : laidMet Tryd.prog [("caesura/utf.leads", leadsD)] W) : W.var? Tryd.prog "caesura/utf.leads" = some leadsV.toArray := by
  obtain ⟨ps, ⟨g, t, cs, fuel, p, q, hg, ht, hv, hd, _, _⟩, _⟩ := h
  obtain rfl := Option.some.inj ((show Tryd.prog.globalNamed "caesura/utf.leads" = some 0 by kernel_rfl).symm.trans hg)
  obtain rfl := Option.some.inj ((show (Tryd.prog.globals[0]?).map (·.type) = some 116 by kernel_rfl).symm.trans ht)
  have cE : Tryd.prog.cellsOf 102 = 5 := by kernel_rfl
  have cA : Tryd.prog.cellsOf 116 = 45 := by kernel_rfl
  obtain ⟨xs, m, _, ex, hlen, hl, hel⟩ := DataW.trod_array Tryd.underlying116 hd
  rw [cA] at hlen
  rw [hv]
  congr 1
  obtain ⟨l⟩ := cs
  simp only at hlen hel
  congr 1
  match xs, hl with
  | [x0, x1, x2, x3, x4, x5, x6, x7, x8], _ =>
    have e3 := DataW.agg.inj (Prod.mk.inj ex).1
    simp only [List.map_cons, List.map_nil, List.cons.injEq, and_true] at e3
    obtain ⟨y0, y1, y2, y3, y4, y5, y6, y7, y8⟩ := e3
    refine chunk_ext hlen rfl ?_
    intro i hi
    have k := hel i hi
    rw [cE] at k
    rcases (show i = 0 ∨ i = 1 ∨ i = 2 ∨ i = 3 ∨ i = 4 ∨ i = 5 ∨ i = 6 ∨ i = 7 ∨ i = 8 by omega) with rfl | rfl | rfl | rfl | rfl | rfl | rfl | rfl | rfl
    · exact lead_cells k y0.symm
    · exact lead_cells k y1.symm
    · exact lead_cells k y2.symm
    · exact lead_cells k y3.symm
    · exact lead_cells k y4.symm
    · exact lead_cells k y5.symm
    · exact lead_cells k y6.symm
    · exact lead_cells k y7.symm
    · exact lead_cells k y8.symm
theorem globOk_leads {W : World} (h : laidMet Tryd.prog [("caesura/utf.leads", leadsD)] W) : GlobOk gD nobody W := by
  intro g cs hg
  unfold gD at hg
  split at hg
  · rename_i h0
    subst h0
    obtain rfl := Option.some.inj hg
    have hv := leads_var h
    unfold World.var? at hv
    rw [show Tryd.prog.globalNamed "caesura/utf.leads" = some 0 by kernel_rfl, Option.bind_some] at hv
    split at hv
    · rename_i arr T fr hb
      obtain rfl := Option.some.inj hv
      simp only [Rep]
      refine ⟨0, leadsV.toArray, T, fr, [], rfl, hb, ?_, ?_, fun _ => by simp [nobody], fun h => by cases h⟩
      · exact RepL_prims (by decide +kernel)
      · intro c hc
        obtain ⟨v, _, rfl⟩ := List.mem_map.1 hc
        rfl
    · cases hv
  · cases hg
end Go.V
