/-
  No cell of these rows narrows 'for every input' (looked for: loops, veiled, ifaces, maps, wideKeys, modest, calm, conditions, laid).
  DERIVED. THE GIVEN ROWS OF THIS SEAT. 10 by the template 'for every input the law returns true; each argument reads behind the call as it read before'; 0 by the template 'total and deterministic' (their statements: YtoilaibpmepecaaTotals.lean).
  GIVEN WITH THE SEED: the statements are not yours to turn. If you find one false, say at which input.
  Laid BY PROGRAM, IN A SANDBOX (cutbox-rows.mjs): the forced cells as the released guide's own fill.sh prints them over the translation a34756ad5b1a9733… (all of the seat's roots in one cut). By AI agents, Wed Nov 11 2026. No macro, syntax, notation, axiom, sorry.
-/
import Derived.Test.YtoilaibpmepecaaChecked
import GoSem.Claim
import GoSem.ClaimJoined
import GoSem.ClaimMapViews
import Derived.JoinedTies
import Derived.KernelRfl
namespace Go.Proofs.Ytoilaibpmepecaa
/- THE CELL 'sum', in the pinned program and in every row, IS THE sha256 OF THE DUMP (.gsa) THAT YtoilaibpmepecaaProg.lean LOADS. Nothing in Lean hashes anything: it is a label: what it is worth is what the hold of that sum in a sandbox is worth. -/
noncomputable def Try.pinned : Pinned := { name := "ytoilaibpmepecaa", sum := "a34756ad5b1a9733e3cdad8c9ab985a4d51c306e43aa12764a42f040f0554a37", checked := Try.checked }
namespace Rows
def none {H : Type} : Left H := { results := [], args := [] }

/-- 'caesuralaw01.ScalarTells': WHATEVER THE INPUT: true; the input reads as it did. -/
def scalarTellsSpec : ChangeSpec := { name := "scalarTells", fn := fun _ => fun
  | [d1, d2] => { results := [.lit (.bool true)], args := [d1, d2] }
  | _ => none }
def scalarTellsRow : OpenClaim := { program := "ytoilaibpmepecaa", sum := "a34756ad5b1a9733e3cdad8c9ab985a4d51c306e43aa12764a42f040f0554a37", func := "caesura/caesuralaw01.ScalarTells", spec := "scalarTells", apart := false }
def ScalarTellsSaid : Prop := scalarTellsRow.holds Try.pinned (OpenSpec.ofChange scalarTellsSpec)

/-- ITS FALSE NEIGHBOUR: 'it returns false'. Refute it at one input. -/
def scalarTellsWrong : ChangeSpec := { name := "scalarTells", fn := fun _ => fun
  | [d1, d2] => { results := [.lit (.bool false)], args := [d1, d2] }
  | _ => none }
def ScalarTellsWrongFalsely : Prop := scalarTellsRow.holds Try.pinned (OpenSpec.ofChange scalarTellsWrong)

/-- 'caesuralaw01.ScalarWalks': WHATEVER THE INPUT: true; the input reads as it did. -/
def scalarWalksSpec : ChangeSpec := { name := "scalarWalks", fn := fun _ => fun
  | [d] => { results := [.lit (.bool true)], args := [d] }
  | _ => none }
def scalarWalksRow : OpenClaim := { program := "ytoilaibpmepecaa", sum := "a34756ad5b1a9733e3cdad8c9ab985a4d51c306e43aa12764a42f040f0554a37", func := "caesura/caesuralaw01.ScalarWalks", spec := "scalarWalks", apart := false }
def ScalarWalksSaid : Prop := scalarWalksRow.holds Try.pinned (OpenSpec.ofChange scalarWalksSpec)

/-- ITS FALSE NEIGHBOUR: 'it returns false'. Refute it at one input. -/
def scalarWalksWrong : ChangeSpec := { name := "scalarWalks", fn := fun _ => fun
  | [d] => { results := [.lit (.bool false)], args := [d] }
  | _ => none }
def ScalarWalksWrongFalsely : Prop := scalarWalksRow.holds Try.pinned (OpenSpec.ofChange scalarWalksWrong)

/-- 'caesuralaw01.ScalarCounts': WHATEVER THE INPUT: true; the input reads as it did. -/
def scalarCountsSpec : ChangeSpec := { name := "scalarCounts", fn := fun _ => fun
  | [d1, d2, d3] => { results := [.lit (.bool true)], args := [d1, d2, d3] }
  | _ => none }
def scalarCountsRow : OpenClaim := { program := "ytoilaibpmepecaa", sum := "a34756ad5b1a9733e3cdad8c9ab985a4d51c306e43aa12764a42f040f0554a37", func := "caesura/caesuralaw01.ScalarCounts", spec := "scalarCounts", apart := false }
def ScalarCountsSaid : Prop := scalarCountsRow.holds Try.pinned (OpenSpec.ofChange scalarCountsSpec)

/-- ITS FALSE NEIGHBOUR: 'it returns false'. Refute it at one input. -/
def scalarCountsWrong : ChangeSpec := { name := "scalarCounts", fn := fun _ => fun
  | [d1, d2, d3] => { results := [.lit (.bool false)], args := [d1, d2, d3] }
  | _ => none }
def ScalarCountsWrongFalsely : Prop := scalarCountsRow.holds Try.pinned (OpenSpec.ofChange scalarCountsWrong)

/-- 'caesuralaw01.ScalarOrder': WHATEVER THE INPUT: true; the input reads as it did. -/
def scalarOrderSpec : ChangeSpec := { name := "scalarOrder", fn := fun _ => fun
  | [d1, d2] => { results := [.lit (.bool true)], args := [d1, d2] }
  | _ => none }
def scalarOrderRow : OpenClaim := { program := "ytoilaibpmepecaa", sum := "a34756ad5b1a9733e3cdad8c9ab985a4d51c306e43aa12764a42f040f0554a37", func := "caesura/caesuralaw01.ScalarOrder", spec := "scalarOrder", apart := false }
def ScalarOrderSaid : Prop := scalarOrderRow.holds Try.pinned (OpenSpec.ofChange scalarOrderSpec)

/-- ITS FALSE NEIGHBOUR: 'it returns false'. Refute it at one input. -/
def scalarOrderWrong : ChangeSpec := { name := "scalarOrder", fn := fun _ => fun
  | [d1, d2] => { results := [.lit (.bool false)], args := [d1, d2] }
  | _ => none }
def ScalarOrderWrongFalsely : Prop := scalarOrderRow.holds Try.pinned (OpenSpec.ofChange scalarOrderWrong)

/-- 'caesuralaw01.ScalarIndex': WHATEVER THE INPUT: true; the input reads as it did. -/
def scalarIndexSpec : ChangeSpec := { name := "scalarIndex", fn := fun _ => fun
  | [d1, d2] => { results := [.lit (.bool true)], args := [d1, d2] }
  | _ => none }
def scalarIndexRow : OpenClaim := { program := "ytoilaibpmepecaa", sum := "a34756ad5b1a9733e3cdad8c9ab985a4d51c306e43aa12764a42f040f0554a37", func := "caesura/caesuralaw01.ScalarIndex", spec := "scalarIndex", apart := false }
def ScalarIndexSaid : Prop := scalarIndexRow.holds Try.pinned (OpenSpec.ofChange scalarIndexSpec)

/-- ITS FALSE NEIGHBOUR: 'it returns false'. Refute it at one input. -/
def scalarIndexWrong : ChangeSpec := { name := "scalarIndex", fn := fun _ => fun
  | [d1, d2] => { results := [.lit (.bool false)], args := [d1, d2] }
  | _ => none }
def ScalarIndexWrongFalsely : Prop := scalarIndexRow.holds Try.pinned (OpenSpec.ofChange scalarIndexWrong)

/-- 'caesuralaw05.PackTells': WHATEVER THE INPUT: true; the input reads as it did. -/
def packTellsSpec : ChangeSpec := { name := "packTells", fn := fun _ => fun
  | [d1, d2, d3] => { results := [.lit (.bool true)], args := [d1, d2, d3] }
  | _ => none }
def packTellsRow : OpenClaim := { program := "ytoilaibpmepecaa", sum := "a34756ad5b1a9733e3cdad8c9ab985a4d51c306e43aa12764a42f040f0554a37", func := "caesura/caesuralaw05.PackTells", spec := "packTells", apart := false }
def PackTellsSaid : Prop := packTellsRow.holds Try.pinned (OpenSpec.ofChange packTellsSpec)

/-- ITS FALSE NEIGHBOUR: 'it returns false'. Refute it at one input. -/
def packTellsWrong : ChangeSpec := { name := "packTells", fn := fun _ => fun
  | [d1, d2, d3] => { results := [.lit (.bool false)], args := [d1, d2, d3] }
  | _ => none }
def PackTellsWrongFalsely : Prop := packTellsRow.holds Try.pinned (OpenSpec.ofChange packTellsWrong)

/-- 'caesuralaw05.PackBack': WHATEVER THE INPUT: true; the input reads as it did. -/
def packBackSpec : ChangeSpec := { name := "packBack", fn := fun _ => fun
  | [d1, d2, d3] => { results := [.lit (.bool true)], args := [d1, d2, d3] }
  | _ => none }
def packBackRow : OpenClaim := { program := "ytoilaibpmepecaa", sum := "a34756ad5b1a9733e3cdad8c9ab985a4d51c306e43aa12764a42f040f0554a37", func := "caesura/caesuralaw05.PackBack", spec := "packBack", apart := false }
def PackBackSaid : Prop := packBackRow.holds Try.pinned (OpenSpec.ofChange packBackSpec)

/-- ITS FALSE NEIGHBOUR: 'it returns false'. Refute it at one input. -/
def packBackWrong : ChangeSpec := { name := "packBack", fn := fun _ => fun
  | [d1, d2, d3] => { results := [.lit (.bool false)], args := [d1, d2, d3] }
  | _ => none }
def PackBackWrongFalsely : Prop := packBackRow.holds Try.pinned (OpenSpec.ofChange packBackWrong)

/-- 'caesuralaw05.PackSums': WHATEVER THE INPUT: true; the input reads as it did. -/
def packSumsSpec : ChangeSpec := { name := "packSums", fn := fun _ => fun
  | [d1, d2, d3] => { results := [.lit (.bool true)], args := [d1, d2, d3] }
  | _ => none }
def packSumsRow : OpenClaim := { program := "ytoilaibpmepecaa", sum := "a34756ad5b1a9733e3cdad8c9ab985a4d51c306e43aa12764a42f040f0554a37", func := "caesura/caesuralaw05.PackSums", spec := "packSums", apart := false }
def PackSumsSaid : Prop := packSumsRow.holds Try.pinned (OpenSpec.ofChange packSumsSpec)

/-- ITS FALSE NEIGHBOUR: 'it returns false'. Refute it at one input. -/
def packSumsWrong : ChangeSpec := { name := "packSums", fn := fun _ => fun
  | [d1, d2, d3] => { results := [.lit (.bool false)], args := [d1, d2, d3] }
  | _ => none }
def PackSumsWrongFalsely : Prop := packSumsRow.holds Try.pinned (OpenSpec.ofChange packSumsWrong)

/-- 'caesuralaw05.PackBits': WHATEVER THE INPUT: true; the input reads as it did. -/
def packBitsSpec : ChangeSpec := { name := "packBits", fn := fun _ => fun
  | [d] => { results := [.lit (.bool true)], args := [d] }
  | _ => none }
def packBitsRow : OpenClaim := { program := "ytoilaibpmepecaa", sum := "a34756ad5b1a9733e3cdad8c9ab985a4d51c306e43aa12764a42f040f0554a37", func := "caesura/caesuralaw05.PackBits", spec := "packBits", apart := false }
def PackBitsSaid : Prop := packBitsRow.holds Try.pinned (OpenSpec.ofChange packBitsSpec)

/-- ITS FALSE NEIGHBOUR: 'it returns false'. Refute it at one input. -/
def packBitsWrong : ChangeSpec := { name := "packBits", fn := fun _ => fun
  | [d] => { results := [.lit (.bool false)], args := [d] }
  | _ => none }
def PackBitsWrongFalsely : Prop := packBitsRow.holds Try.pinned (OpenSpec.ofChange packBitsWrong)

/-- 'caesuralaw05.PackRows': WHATEVER THE INPUT: true; the input reads as it did. -/
def packRowsSpec : ChangeSpec := { name := "packRows", fn := fun _ => fun
  | [d1, d2] => { results := [.lit (.bool true)], args := [d1, d2] }
  | _ => none }
def packRowsRow : OpenClaim := { program := "ytoilaibpmepecaa", sum := "a34756ad5b1a9733e3cdad8c9ab985a4d51c306e43aa12764a42f040f0554a37", func := "caesura/caesuralaw05.PackRows", spec := "packRows", apart := false }
def PackRowsSaid : Prop := packRowsRow.holds Try.pinned (OpenSpec.ofChange packRowsSpec)

/-- ITS FALSE NEIGHBOUR: 'it returns false'. Refute it at one input. -/
def packRowsWrong : ChangeSpec := { name := "packRows", fn := fun _ => fun
  | [d1, d2] => { results := [.lit (.bool false)], args := [d1, d2] }
  | _ => none }
def PackRowsWrongFalsely : Prop := packRowsRow.holds Try.pinned (OpenSpec.ofChange packRowsWrong)

/- THE SECOND FORM. 'bulk': how many values and letters a reading holds, each counted each time it is reached (what is shared counts as often as it is met; a slice's spare places count too). A statement '..UptoSaid' is the law's where the arguments, and the package variables that the reading takes, are together of bulk at most 1048576: NARROWER than '..Said'. Prove '..Said' where nothing that the law and all that it calls make is longer than what came in: it says more and counts as full. Else prove '..UptoSaid'. A law counts once. -/
mutual
def uptoBulk {H : Type} : DataW H → Nat
  | .lit (.string bytes) => bytes.length + 1
  | .lit _ => 1
  | .nil => 1
  | .ptr d => uptoBulk d + 1
  | .slice elems spare => uptoBulkAll elems + uptoBulkAll spare + 1
  | .agg parts => uptoBulkAll parts + 1
  | .iface _ d => uptoBulk d + 1
  | .map entries => uptoBulkEntries entries + 1
  | .held _ => 1
def uptoBulkAll {H : Type} : List (DataW H) → Nat
  | [] => 0
  | d :: r => uptoBulk d + uptoBulkAll r
def uptoBulkEntries {H : Type} : List (Lit × DataW H) → Nat
  | [] => 0
  | x :: r => uptoBulkEntry x + uptoBulkEntries r
def uptoBulkEntry {H : Type} : Lit × DataW H → Nat
  | (.string bytes, d) => bytes.length + uptoBulk d + 1
  | (_, d) => uptoBulk d + 1
 end
def uptoSmall : (H : Type) → List (DataW H) → Bool := fun _ ds => decide (uptoBulkAll ds ≤ 1048576)
def OpenSpec.upto (s : _root_.Go.ChangeSpec) : _root_.Go.OpenSpec := { _root_.Go.OpenSpec.ofChange s with cond := some uptoSmall }

/-- 'caesuralaw01.ScalarTells', WHERE WHAT IT READS IS OF BULK AT MOST 1048576: true; the input reads as it did. -/
def scalarTellsUptoRow : OpenClaim := { program := "ytoilaibpmepecaa", sum := "a34756ad5b1a9733e3cdad8c9ab985a4d51c306e43aa12764a42f040f0554a37", func := "caesura/caesuralaw01.ScalarTells", spec := "scalarTells", apart := false, narrowed := true }
def ScalarTellsUptoSaid : Prop := scalarTellsUptoRow.holds Try.pinned (OpenSpec.upto scalarTellsSpec)

/-- 'caesuralaw01.ScalarWalks', WHERE WHAT IT READS IS OF BULK AT MOST 1048576: true; the input reads as it did. -/
def scalarWalksUptoRow : OpenClaim := { program := "ytoilaibpmepecaa", sum := "a34756ad5b1a9733e3cdad8c9ab985a4d51c306e43aa12764a42f040f0554a37", func := "caesura/caesuralaw01.ScalarWalks", spec := "scalarWalks", apart := false, narrowed := true }
def ScalarWalksUptoSaid : Prop := scalarWalksUptoRow.holds Try.pinned (OpenSpec.upto scalarWalksSpec)

/-- 'caesuralaw01.ScalarCounts', WHERE WHAT IT READS IS OF BULK AT MOST 1048576: true; the input reads as it did. -/
def scalarCountsUptoRow : OpenClaim := { program := "ytoilaibpmepecaa", sum := "a34756ad5b1a9733e3cdad8c9ab985a4d51c306e43aa12764a42f040f0554a37", func := "caesura/caesuralaw01.ScalarCounts", spec := "scalarCounts", apart := false, narrowed := true }
def ScalarCountsUptoSaid : Prop := scalarCountsUptoRow.holds Try.pinned (OpenSpec.upto scalarCountsSpec)

/-- 'caesuralaw01.ScalarOrder', WHERE WHAT IT READS IS OF BULK AT MOST 1048576: true; the input reads as it did. -/
def scalarOrderUptoRow : OpenClaim := { program := "ytoilaibpmepecaa", sum := "a34756ad5b1a9733e3cdad8c9ab985a4d51c306e43aa12764a42f040f0554a37", func := "caesura/caesuralaw01.ScalarOrder", spec := "scalarOrder", apart := false, narrowed := true }
def ScalarOrderUptoSaid : Prop := scalarOrderUptoRow.holds Try.pinned (OpenSpec.upto scalarOrderSpec)

/-- 'caesuralaw01.ScalarIndex', WHERE WHAT IT READS IS OF BULK AT MOST 1048576: true; the input reads as it did. -/
def scalarIndexUptoRow : OpenClaim := { program := "ytoilaibpmepecaa", sum := "a34756ad5b1a9733e3cdad8c9ab985a4d51c306e43aa12764a42f040f0554a37", func := "caesura/caesuralaw01.ScalarIndex", spec := "scalarIndex", apart := false, narrowed := true }
def ScalarIndexUptoSaid : Prop := scalarIndexUptoRow.holds Try.pinned (OpenSpec.upto scalarIndexSpec)

/-- 'caesuralaw05.PackTells', WHERE WHAT IT READS IS OF BULK AT MOST 1048576: true; the input reads as it did. -/
def packTellsUptoRow : OpenClaim := { program := "ytoilaibpmepecaa", sum := "a34756ad5b1a9733e3cdad8c9ab985a4d51c306e43aa12764a42f040f0554a37", func := "caesura/caesuralaw05.PackTells", spec := "packTells", apart := false, narrowed := true }
def PackTellsUptoSaid : Prop := packTellsUptoRow.holds Try.pinned (OpenSpec.upto packTellsSpec)

/-- 'caesuralaw05.PackBack', WHERE WHAT IT READS IS OF BULK AT MOST 1048576: true; the input reads as it did. -/
def packBackUptoRow : OpenClaim := { program := "ytoilaibpmepecaa", sum := "a34756ad5b1a9733e3cdad8c9ab985a4d51c306e43aa12764a42f040f0554a37", func := "caesura/caesuralaw05.PackBack", spec := "packBack", apart := false, narrowed := true }
def PackBackUptoSaid : Prop := packBackUptoRow.holds Try.pinned (OpenSpec.upto packBackSpec)

/-- 'caesuralaw05.PackSums', WHERE WHAT IT READS IS OF BULK AT MOST 1048576: true; the input reads as it did. -/
def packSumsUptoRow : OpenClaim := { program := "ytoilaibpmepecaa", sum := "a34756ad5b1a9733e3cdad8c9ab985a4d51c306e43aa12764a42f040f0554a37", func := "caesura/caesuralaw05.PackSums", spec := "packSums", apart := false, narrowed := true }
def PackSumsUptoSaid : Prop := packSumsUptoRow.holds Try.pinned (OpenSpec.upto packSumsSpec)

/-- 'caesuralaw05.PackBits', WHERE WHAT IT READS IS OF BULK AT MOST 1048576: true; the input reads as it did. -/
def packBitsUptoRow : OpenClaim := { program := "ytoilaibpmepecaa", sum := "a34756ad5b1a9733e3cdad8c9ab985a4d51c306e43aa12764a42f040f0554a37", func := "caesura/caesuralaw05.PackBits", spec := "packBits", apart := false, narrowed := true }
def PackBitsUptoSaid : Prop := packBitsUptoRow.holds Try.pinned (OpenSpec.upto packBitsSpec)

/-- 'caesuralaw05.PackRows', WHERE WHAT IT READS IS OF BULK AT MOST 1048576: true; the input reads as it did. -/
def packRowsUptoRow : OpenClaim := { program := "ytoilaibpmepecaa", sum := "a34756ad5b1a9733e3cdad8c9ab985a4d51c306e43aa12764a42f040f0554a37", func := "caesura/caesuralaw05.PackRows", spec := "packRows", apart := false, narrowed := true }
def PackRowsUptoSaid : Prop := packRowsUptoRow.holds Try.pinned (OpenSpec.upto packRowsSpec)

end Rows
end Go.Proofs.Ytoilaibpmepecaa
