/-
  No cell of these rows narrows 'for every input' (looked for: loops, veiled, ifaces, maps, wideKeys, modest, calm, conditions, laid).
  DERIVED. THE GIVEN ROWS OF THIS SEAT. 6 by the template 'for every input the law returns true; each argument reads behind the call as it read before'; 0 by the template 'total and deterministic' (their statements: YtpcbhghgommijaaTotals.lean).
  GIVEN WITH THE SEED: the statements are not yours to turn. If you find one false, say at which input.
  Laid BY PROGRAM, IN A SANDBOX (cutbox-rows.mjs): the forced cells as the released guide's own fill.sh prints them over the translation 5a7cb2f2608d85f9… (all of the seat's roots in one cut). By AI agents, Wed Nov 11 2026. No macro, syntax, notation, axiom, sorry.
-/
import Derived.Test.YtpcbhghgommijaaChecked
import GoSem.Claim
import GoSem.ClaimJoined
import GoSem.ClaimMapViews
import Derived.JoinedTies
import Derived.KernelRfl
namespace Go.Proofs.Ytpcbhghgommijaa
/- THE CELL 'sum', in the pinned program and in every row, IS THE sha256 OF THE DUMP (.gsa) THAT YtpcbhghgommijaaProg.lean LOADS. Nothing in Lean hashes anything: it is a label: what it is worth is what the hold of that sum in a sandbox is worth. -/
noncomputable def Try.pinned : Pinned := { name := "ytpcbhghgommijaa", sum := "5a7cb2f2608d85f951e99677b4f09eac0b0c2920f48fd42e5d97e261447072ff", checked := Try.checked }
namespace Rows
def none {H : Type} : Left H := { results := [], args := [] }

/-- 'caesuralaw06.TableCodes': WHATEVER THE INPUT: true; the input reads as it did. -/
def tableCodesSpec : ChangeSpec := { name := "tableCodes", fn := fun _ => fun
  | [d1, d2, d3] => { results := [.lit (.bool true)], args := [d1, d2, d3] }
  | _ => none }
def tableCodesRow : OpenClaim := { program := "ytpcbhghgommijaa", sum := "5a7cb2f2608d85f951e99677b4f09eac0b0c2920f48fd42e5d97e261447072ff", func := "caesura/caesuralaw06.TableCodes", spec := "tableCodes", unfollowed := true, recurses := true, apart := false }
def TableCodesSaid : Prop := tableCodesRow.holds Try.pinned (OpenSpec.ofChange tableCodesSpec)

/-- ITS FALSE NEIGHBOUR: 'it returns false'. Refute it at one input. -/
def tableCodesWrong : ChangeSpec := { name := "tableCodes", fn := fun _ => fun
  | [d1, d2, d3] => { results := [.lit (.bool false)], args := [d1, d2, d3] }
  | _ => none }
def TableCodesWrongFalsely : Prop := tableCodesRow.holds Try.pinned (OpenSpec.ofChange tableCodesWrong)

/-- 'caesuralaw06.TableBack': WHATEVER THE INPUT: true; the input reads as it did. -/
def tableBackSpec : ChangeSpec := { name := "tableBack", fn := fun _ => fun
  | [d1, d2, d3] => { results := [.lit (.bool true)], args := [d1, d2, d3] }
  | _ => none }
def tableBackRow : OpenClaim := { program := "ytpcbhghgommijaa", sum := "5a7cb2f2608d85f951e99677b4f09eac0b0c2920f48fd42e5d97e261447072ff", func := "caesura/caesuralaw06.TableBack", spec := "tableBack", unfollowed := true, recurses := true, apart := false }
def TableBackSaid : Prop := tableBackRow.holds Try.pinned (OpenSpec.ofChange tableBackSpec)

/-- ITS FALSE NEIGHBOUR: 'it returns false'. Refute it at one input. -/
def tableBackWrong : ChangeSpec := { name := "tableBack", fn := fun _ => fun
  | [d1, d2, d3] => { results := [.lit (.bool false)], args := [d1, d2, d3] }
  | _ => none }
def TableBackWrongFalsely : Prop := tableBackRow.holds Try.pinned (OpenSpec.ofChange tableBackWrong)

/-- 'caesuralaw06.TableCut': WHATEVER THE INPUT: true; the input reads as it did. -/
def tableCutSpec : ChangeSpec := { name := "tableCut", fn := fun _ => fun
  | [d1, d2, d3] => { results := [.lit (.bool true)], args := [d1, d2, d3] }
  | _ => none }
def tableCutRow : OpenClaim := { program := "ytpcbhghgommijaa", sum := "5a7cb2f2608d85f951e99677b4f09eac0b0c2920f48fd42e5d97e261447072ff", func := "caesura/caesuralaw06.TableCut", spec := "tableCut", unfollowed := true, recurses := true, apart := false }
def TableCutSaid : Prop := tableCutRow.holds Try.pinned (OpenSpec.ofChange tableCutSpec)

/-- ITS FALSE NEIGHBOUR: 'it returns false'. Refute it at one input. -/
def tableCutWrong : ChangeSpec := { name := "tableCut", fn := fun _ => fun
  | [d1, d2, d3] => { results := [.lit (.bool false)], args := [d1, d2, d3] }
  | _ => none }
def TableCutWrongFalsely : Prop := tableCutRow.holds Try.pinned (OpenSpec.ofChange tableCutWrong)

/-- 'caesuralaw06.TablePlaces': WHATEVER THE INPUT: true; the input reads as it did. -/
def tablePlacesSpec : ChangeSpec := { name := "tablePlaces", fn := fun _ => fun
  | [d] => { results := [.lit (.bool true)], args := [d] }
  | _ => none }
def tablePlacesRow : OpenClaim := { program := "ytpcbhghgommijaa", sum := "5a7cb2f2608d85f951e99677b4f09eac0b0c2920f48fd42e5d97e261447072ff", func := "caesura/caesuralaw06.TablePlaces", spec := "tablePlaces", unfollowed := true, recurses := true, apart := false }
def TablePlacesSaid : Prop := tablePlacesRow.holds Try.pinned (OpenSpec.ofChange tablePlacesSpec)

/-- ITS FALSE NEIGHBOUR: 'it returns false'. Refute it at one input. -/
def tablePlacesWrong : ChangeSpec := { name := "tablePlaces", fn := fun _ => fun
  | [d] => { results := [.lit (.bool false)], args := [d] }
  | _ => none }
def TablePlacesWrongFalsely : Prop := tablePlacesRow.holds Try.pinned (OpenSpec.ofChange tablePlacesWrong)

/-- 'caesuralaw06.TableFirst': WHATEVER THE INPUT: true; the input reads as it did. -/
def tableFirstSpec : ChangeSpec := { name := "tableFirst", fn := fun _ => fun
  | [d1, d2] => { results := [.lit (.bool true)], args := [d1, d2] }
  | _ => none }
def tableFirstRow : OpenClaim := { program := "ytpcbhghgommijaa", sum := "5a7cb2f2608d85f951e99677b4f09eac0b0c2920f48fd42e5d97e261447072ff", func := "caesura/caesuralaw06.TableFirst", spec := "tableFirst", unfollowed := true, recurses := true, apart := false }
def TableFirstSaid : Prop := tableFirstRow.holds Try.pinned (OpenSpec.ofChange tableFirstSpec)

/-- ITS FALSE NEIGHBOUR: 'it returns false'. Refute it at one input. -/
def tableFirstWrong : ChangeSpec := { name := "tableFirst", fn := fun _ => fun
  | [d1, d2] => { results := [.lit (.bool false)], args := [d1, d2] }
  | _ => none }
def TableFirstWrongFalsely : Prop := tableFirstRow.holds Try.pinned (OpenSpec.ofChange tableFirstWrong)

/-- 'caesuralaw06.TableLengths': WHATEVER THE INPUT: true; the input reads as it did. -/
def tableLengthsSpec : ChangeSpec := { name := "tableLengths", fn := fun _ => fun
  | [d] => { results := [.lit (.bool true)], args := [d] }
  | _ => none }
def tableLengthsRow : OpenClaim := { program := "ytpcbhghgommijaa", sum := "5a7cb2f2608d85f951e99677b4f09eac0b0c2920f48fd42e5d97e261447072ff", func := "caesura/caesuralaw06.TableLengths", spec := "tableLengths", unfollowed := true, recurses := true, apart := false }
def TableLengthsSaid : Prop := tableLengthsRow.holds Try.pinned (OpenSpec.ofChange tableLengthsSpec)

/-- ITS FALSE NEIGHBOUR: 'it returns false'. Refute it at one input. -/
def tableLengthsWrong : ChangeSpec := { name := "tableLengths", fn := fun _ => fun
  | [d] => { results := [.lit (.bool false)], args := [d] }
  | _ => none }
def TableLengthsWrongFalsely : Prop := tableLengthsRow.holds Try.pinned (OpenSpec.ofChange tableLengthsWrong)

/- THE SECOND FORM. 'bulk': how many values and letters a reading holds, each counted each time it is reached (what is shared counts as often as it is met; a slice's spare places count too). A statement '..UptoSaid' is the law's where the arguments, and the package variables that the reading takes, are together of bulk at most 1048576: NARROWER than '..Said'. Prove '..Said' where nothing that the law and all that it calls make is longer than what came in: it says more and counts as full. Else prove '..UptoSaid'. A law counts once. -/
mutual
def uptoBulk {H : Type} : DataW H → Nat
  | .lit (.string bytes) => bytes.length + 1
  | .lit _ => 1
  | .nil => 1
  | .ptr d => uptoBulk d + 1
  | .slice elems spare => uptoBulkAll elems + uptoBulkAll spare + 1
  | .agg parts => uptoBulkAll parts + 1
  | .iface _ d => uptoBulk d + 1
  | .map entries => uptoBulkEntries entries + 1
  | .held _ => 1
def uptoBulkAll {H : Type} : List (DataW H) → Nat
  | [] => 0
  | d :: r => uptoBulk d + uptoBulkAll r
def uptoBulkEntries {H : Type} : List (Lit × DataW H) → Nat
  | [] => 0
  | x :: r => uptoBulkEntry x + uptoBulkEntries r
def uptoBulkEntry {H : Type} : Lit × DataW H → Nat
  | (.string bytes, d) => bytes.length + uptoBulk d + 1
  | (_, d) => uptoBulk d + 1
 end
def uptoSmall : (H : Type) → List (DataW H) → Bool := fun _ ds => decide (uptoBulkAll ds ≤ 1048576)
def OpenSpec.upto (s : _root_.Go.ChangeSpec) : _root_.Go.OpenSpec := { _root_.Go.OpenSpec.ofChange s with cond := some uptoSmall }

/-- 'caesuralaw06.TableCodes', WHERE WHAT IT READS IS OF BULK AT MOST 1048576: true; the input reads as it did. -/
def tableCodesUptoRow : OpenClaim := { program := "ytpcbhghgommijaa", sum := "5a7cb2f2608d85f951e99677b4f09eac0b0c2920f48fd42e5d97e261447072ff", func := "caesura/caesuralaw06.TableCodes", spec := "tableCodes", unfollowed := true, recurses := true, apart := false, narrowed := true }
def TableCodesUptoSaid : Prop := tableCodesUptoRow.holds Try.pinned (OpenSpec.upto tableCodesSpec)

/-- 'caesuralaw06.TableBack', WHERE WHAT IT READS IS OF BULK AT MOST 1048576: true; the input reads as it did. -/
def tableBackUptoRow : OpenClaim := { program := "ytpcbhghgommijaa", sum := "5a7cb2f2608d85f951e99677b4f09eac0b0c2920f48fd42e5d97e261447072ff", func := "caesura/caesuralaw06.TableBack", spec := "tableBack", unfollowed := true, recurses := true, apart := false, narrowed := true }
def TableBackUptoSaid : Prop := tableBackUptoRow.holds Try.pinned (OpenSpec.upto tableBackSpec)

/-- 'caesuralaw06.TableCut', WHERE WHAT IT READS IS OF BULK AT MOST 1048576: true; the input reads as it did. -/
def tableCutUptoRow : OpenClaim := { program := "ytpcbhghgommijaa", sum := "5a7cb2f2608d85f951e99677b4f09eac0b0c2920f48fd42e5d97e261447072ff", func := "caesura/caesuralaw06.TableCut", spec := "tableCut", unfollowed := true, recurses := true, apart := false, narrowed := true }
def TableCutUptoSaid : Prop := tableCutUptoRow.holds Try.pinned (OpenSpec.upto tableCutSpec)

/-- 'caesuralaw06.TablePlaces', WHERE WHAT IT READS IS OF BULK AT MOST 1048576: true; the input reads as it did. -/
def tablePlacesUptoRow : OpenClaim := { program := "ytpcbhghgommijaa", sum := "5a7cb2f2608d85f951e99677b4f09eac0b0c2920f48fd42e5d97e261447072ff", func := "caesura/caesuralaw06.TablePlaces", spec := "tablePlaces", unfollowed := true, recurses := true, apart := false, narrowed := true }
def TablePlacesUptoSaid : Prop := tablePlacesUptoRow.holds Try.pinned (OpenSpec.upto tablePlacesSpec)

/-- 'caesuralaw06.TableFirst', WHERE WHAT IT READS IS OF BULK AT MOST 1048576: true; the input reads as it did. -/
def tableFirstUptoRow : OpenClaim := { program := "ytpcbhghgommijaa", sum := "5a7cb2f2608d85f951e99677b4f09eac0b0c2920f48fd42e5d97e261447072ff", func := "caesura/caesuralaw06.TableFirst", spec := "tableFirst", unfollowed := true, recurses := true, apart := false, narrowed := true }
def TableFirstUptoSaid : Prop := tableFirstUptoRow.holds Try.pinned (OpenSpec.upto tableFirstSpec)

/-- 'caesuralaw06.TableLengths', WHERE WHAT IT READS IS OF BULK AT MOST 1048576: true; the input reads as it did. -/
def tableLengthsUptoRow : OpenClaim := { program := "ytpcbhghgommijaa", sum := "5a7cb2f2608d85f951e99677b4f09eac0b0c2920f48fd42e5d97e261447072ff", func := "caesura/caesuralaw06.TableLengths", spec := "tableLengths", unfollowed := true, recurses := true, apart := false, narrowed := true }
def TableLengthsUptoSaid : Prop := tableLengthsUptoRow.holds Try.pinned (OpenSpec.upto tableLengthsSpec)

end Rows
end Go.Proofs.Ytpcbhghgommijaa
