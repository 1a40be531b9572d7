/-
  No cell of these rows narrows 'for every input' (looked for: loops, veiled, ifaces, maps, wideKeys, modest, calm, conditions, laid).
  DERIVED. THE GIVEN ROWS OF THIS SEAT. 16 by the template 'for every input the law returns true; each argument reads behind the call as it read before'; 0 by the template 'total and deterministic' (their statements: YthbmifpfhdlicaaTotals.lean).
  GIVEN WITH THE SEED: the statements are not yours to turn. If you find one false, say at which input.
  Laid BY PROGRAM, IN A SANDBOX (cutbox-rows.mjs): the forced cells as the released guide's own fill.sh prints them over the translation b97795dd5278349f… (all of the seat's roots in one cut). By AI agents, Wed Nov 11 2026. No macro, syntax, notation, axiom, sorry.
-/
import Derived.Test.YthbmifpfhdlicaaChecked
import GoSem.Claim
import GoSem.ClaimJoined
import GoSem.ClaimMapViews
import Derived.JoinedTies
import Derived.KernelRfl
namespace Go.Proofs.Ythbmifpfhdlicaa
/- THE CELL 'sum', in the pinned program and in every row, IS THE sha256 OF THE DUMP (.gsa) THAT YthbmifpfhdlicaaProg.lean LOADS. Nothing in Lean hashes anything: it is a label: what it is worth is what the hold of that sum in a sandbox is worth. -/
noncomputable def Try.pinned : Pinned := { name := "ythbmifpfhdlicaa", sum := "b97795dd5278349f545dd8b45ddce4416840c69b90e618e3298867fcc0c290ea", checked := Try.checked }
namespace Rows
def none {H : Type} : Left H := { results := [], args := [] }

/-- 'caesuralaw06.TableBack': WHATEVER THE INPUT: true; the input reads as it did. -/
def tableBackSpec : ChangeSpec := { name := "tableBack", fn := fun _ => fun
  | [d1, d2, d3] => { results := [.lit (.bool true)], args := [d1, d2, d3] }
  | _ => none }
def tableBackRow : OpenClaim := { program := "ythbmifpfhdlicaa", sum := "b97795dd5278349f545dd8b45ddce4416840c69b90e618e3298867fcc0c290ea", func := "caesura/caesuralaw06.TableBack", spec := "tableBack", unfollowed := true, recurses := true, plainKeys := false, apart := false }
def TableBackSaid : Prop := tableBackRow.holds Try.pinned (OpenSpec.ofChange tableBackSpec)

/-- ITS FALSE NEIGHBOUR: 'it returns false'. Refute it at one input. -/
def tableBackWrong : ChangeSpec := { name := "tableBack", fn := fun _ => fun
  | [d1, d2, d3] => { results := [.lit (.bool false)], args := [d1, d2, d3] }
  | _ => none }
def TableBackWrongFalsely : Prop := tableBackRow.holds Try.pinned (OpenSpec.ofChange tableBackWrong)

/-- 'caesuralaw06.TableCodes': WHATEVER THE INPUT: true; the input reads as it did. -/
def tableCodesSpec : ChangeSpec := { name := "tableCodes", fn := fun _ => fun
  | [d1, d2, d3] => { results := [.lit (.bool true)], args := [d1, d2, d3] }
  | _ => none }
def tableCodesRow : OpenClaim := { program := "ythbmifpfhdlicaa", sum := "b97795dd5278349f545dd8b45ddce4416840c69b90e618e3298867fcc0c290ea", func := "caesura/caesuralaw06.TableCodes", spec := "tableCodes", unfollowed := true, recurses := true, plainKeys := false, apart := false }
def TableCodesSaid : Prop := tableCodesRow.holds Try.pinned (OpenSpec.ofChange tableCodesSpec)

/-- ITS FALSE NEIGHBOUR: 'it returns false'. Refute it at one input. -/
def tableCodesWrong : ChangeSpec := { name := "tableCodes", fn := fun _ => fun
  | [d1, d2, d3] => { results := [.lit (.bool false)], args := [d1, d2, d3] }
  | _ => none }
def TableCodesWrongFalsely : Prop := tableCodesRow.holds Try.pinned (OpenSpec.ofChange tableCodesWrong)

/-- 'caesuralaw06.TableCut': WHATEVER THE INPUT: true; the input reads as it did. -/
def tableCutSpec : ChangeSpec := { name := "tableCut", fn := fun _ => fun
  | [d1, d2, d3] => { results := [.lit (.bool true)], args := [d1, d2, d3] }
  | _ => none }
def tableCutRow : OpenClaim := { program := "ythbmifpfhdlicaa", sum := "b97795dd5278349f545dd8b45ddce4416840c69b90e618e3298867fcc0c290ea", func := "caesura/caesuralaw06.TableCut", spec := "tableCut", unfollowed := true, recurses := true, plainKeys := false, apart := false }
def TableCutSaid : Prop := tableCutRow.holds Try.pinned (OpenSpec.ofChange tableCutSpec)

/-- ITS FALSE NEIGHBOUR: 'it returns false'. Refute it at one input. -/
def tableCutWrong : ChangeSpec := { name := "tableCut", fn := fun _ => fun
  | [d1, d2, d3] => { results := [.lit (.bool false)], args := [d1, d2, d3] }
  | _ => none }
def TableCutWrongFalsely : Prop := tableCutRow.holds Try.pinned (OpenSpec.ofChange tableCutWrong)

/-- 'caesuralaw06.TableFirst': WHATEVER THE INPUT: true; the input reads as it did. -/
def tableFirstSpec : ChangeSpec := { name := "tableFirst", fn := fun _ => fun
  | [d1, d2] => { results := [.lit (.bool true)], args := [d1, d2] }
  | _ => none }
def tableFirstRow : OpenClaim := { program := "ythbmifpfhdlicaa", sum := "b97795dd5278349f545dd8b45ddce4416840c69b90e618e3298867fcc0c290ea", func := "caesura/caesuralaw06.TableFirst", spec := "tableFirst", unfollowed := true, recurses := true, plainKeys := false, apart := false }
def TableFirstSaid : Prop := tableFirstRow.holds Try.pinned (OpenSpec.ofChange tableFirstSpec)

/-- ITS FALSE NEIGHBOUR: 'it returns false'. Refute it at one input. -/
def tableFirstWrong : ChangeSpec := { name := "tableFirst", fn := fun _ => fun
  | [d1, d2] => { results := [.lit (.bool false)], args := [d1, d2] }
  | _ => none }
def TableFirstWrongFalsely : Prop := tableFirstRow.holds Try.pinned (OpenSpec.ofChange tableFirstWrong)

/-- 'caesuralaw06.TableLengths': WHATEVER THE INPUT: true; the input reads as it did. -/
def tableLengthsSpec : ChangeSpec := { name := "tableLengths", fn := fun _ => fun
  | [d] => { results := [.lit (.bool true)], args := [d] }
  | _ => none }
def tableLengthsRow : OpenClaim := { program := "ythbmifpfhdlicaa", sum := "b97795dd5278349f545dd8b45ddce4416840c69b90e618e3298867fcc0c290ea", func := "caesura/caesuralaw06.TableLengths", spec := "tableLengths", unfollowed := true, recurses := true, plainKeys := false, apart := false }
def TableLengthsSaid : Prop := tableLengthsRow.holds Try.pinned (OpenSpec.ofChange tableLengthsSpec)

/-- ITS FALSE NEIGHBOUR: 'it returns false'. Refute it at one input. -/
def tableLengthsWrong : ChangeSpec := { name := "tableLengths", fn := fun _ => fun
  | [d] => { results := [.lit (.bool false)], args := [d] }
  | _ => none }
def TableLengthsWrongFalsely : Prop := tableLengthsRow.holds Try.pinned (OpenSpec.ofChange tableLengthsWrong)

/-- 'caesuralaw06.TablePlaces': WHATEVER THE INPUT: true; the input reads as it did. -/
def tablePlacesSpec : ChangeSpec := { name := "tablePlaces", fn := fun _ => fun
  | [d] => { results := [.lit (.bool true)], args := [d] }
  | _ => none }
def tablePlacesRow : OpenClaim := { program := "ythbmifpfhdlicaa", sum := "b97795dd5278349f545dd8b45ddce4416840c69b90e618e3298867fcc0c290ea", func := "caesura/caesuralaw06.TablePlaces", spec := "tablePlaces", unfollowed := true, recurses := true, plainKeys := false, apart := false }
def TablePlacesSaid : Prop := tablePlacesRow.holds Try.pinned (OpenSpec.ofChange tablePlacesSpec)

/-- ITS FALSE NEIGHBOUR: 'it returns false'. Refute it at one input. -/
def tablePlacesWrong : ChangeSpec := { name := "tablePlaces", fn := fun _ => fun
  | [d] => { results := [.lit (.bool false)], args := [d] }
  | _ => none }
def TablePlacesWrongFalsely : Prop := tablePlacesRow.holds Try.pinned (OpenSpec.ofChange tablePlacesWrong)

/-- 'caesuralaw07.ValidAlike': WHATEVER THE INPUT: true; the input reads as it did. -/
def validAlikeSpec : ChangeSpec := { name := "validAlike", fn := fun _ => fun
  | [d1, d2] => { results := [.lit (.bool true)], args := [d1, d2] }
  | _ => none }
def validAlikeRow : OpenClaim := { program := "ythbmifpfhdlicaa", sum := "b97795dd5278349f545dd8b45ddce4416840c69b90e618e3298867fcc0c290ea", func := "caesura/caesuralaw07.ValidAlike", spec := "validAlike", unfollowed := true, recurses := true, plainKeys := false, apart := false }
def ValidAlikeSaid : Prop := validAlikeRow.holds Try.pinned (OpenSpec.ofChange validAlikeSpec)

/-- ITS FALSE NEIGHBOUR: 'it returns false'. Refute it at one input. -/
def validAlikeWrong : ChangeSpec := { name := "validAlike", fn := fun _ => fun
  | [d1, d2] => { results := [.lit (.bool false)], args := [d1, d2] }
  | _ => none }
def ValidAlikeWrongFalsely : Prop := validAlikeRow.holds Try.pinned (OpenSpec.ofChange validAlikeWrong)

/-- 'caesuralaw07.ValidBreaks': WHATEVER THE INPUT: true; the input reads as it did. -/
def validBreaksSpec : ChangeSpec := { name := "validBreaks", fn := fun _ => fun
  | [d1, d2] => { results := [.lit (.bool true)], args := [d1, d2] }
  | _ => none }
def validBreaksRow : OpenClaim := { program := "ythbmifpfhdlicaa", sum := "b97795dd5278349f545dd8b45ddce4416840c69b90e618e3298867fcc0c290ea", func := "caesura/caesuralaw07.ValidBreaks", spec := "validBreaks", unfollowed := true, recurses := true, plainKeys := false, apart := false }
def ValidBreaksSaid : Prop := validBreaksRow.holds Try.pinned (OpenSpec.ofChange validBreaksSpec)

/-- ITS FALSE NEIGHBOUR: 'it returns false'. Refute it at one input. -/
def validBreaksWrong : ChangeSpec := { name := "validBreaks", fn := fun _ => fun
  | [d1, d2] => { results := [.lit (.bool false)], args := [d1, d2] }
  | _ => none }
def ValidBreaksWrongFalsely : Prop := validBreaksRow.holds Try.pinned (OpenSpec.ofChange validBreaksWrong)

/-- 'caesuralaw07.ValidClasses': WHATEVER THE INPUT: true; the input reads as it did. -/
def validClassesSpec : ChangeSpec := { name := "validClasses", fn := fun _ => fun
  | [d1, d2] => { results := [.lit (.bool true)], args := [d1, d2] }
  | _ => none }
def validClassesRow : OpenClaim := { program := "ythbmifpfhdlicaa", sum := "b97795dd5278349f545dd8b45ddce4416840c69b90e618e3298867fcc0c290ea", func := "caesura/caesuralaw07.ValidClasses", spec := "validClasses", unfollowed := true, recurses := true, plainKeys := false, apart := false }
def ValidClassesSaid : Prop := validClassesRow.holds Try.pinned (OpenSpec.ofChange validClassesSpec)

/-- ITS FALSE NEIGHBOUR: 'it returns false'. Refute it at one input. -/
def validClassesWrong : ChangeSpec := { name := "validClasses", fn := fun _ => fun
  | [d1, d2] => { results := [.lit (.bool false)], args := [d1, d2] }
  | _ => none }
def ValidClassesWrongFalsely : Prop := validClassesRow.holds Try.pinned (OpenSpec.ofChange validClassesWrong)

/-- 'caesuralaw07.ValidOne': WHATEVER THE INPUT: true; the input reads as it did. -/
def validOneSpec : ChangeSpec := { name := "validOne", fn := fun _ => fun
  | [d1, d2] => { results := [.lit (.bool true)], args := [d1, d2] }
  | _ => none }
def validOneRow : OpenClaim := { program := "ythbmifpfhdlicaa", sum := "b97795dd5278349f545dd8b45ddce4416840c69b90e618e3298867fcc0c290ea", func := "caesura/caesuralaw07.ValidOne", spec := "validOne", unfollowed := true, recurses := true, plainKeys := false, apart := false }
def ValidOneSaid : Prop := validOneRow.holds Try.pinned (OpenSpec.ofChange validOneSpec)

/-- ITS FALSE NEIGHBOUR: 'it returns false'. Refute it at one input. -/
def validOneWrong : ChangeSpec := { name := "validOne", fn := fun _ => fun
  | [d1, d2] => { results := [.lit (.bool false)], args := [d1, d2] }
  | _ => none }
def ValidOneWrongFalsely : Prop := validOneRow.holds Try.pinned (OpenSpec.ofChange validOneWrong)

/-- 'caesuralaw07.ValidStates': WHATEVER THE INPUT: true; the input reads as it did. -/
def validStatesSpec : ChangeSpec := { name := "validStates", fn := fun _ => fun
  | [d1, d2] => { results := [.lit (.bool true)], args := [d1, d2] }
  | _ => none }
def validStatesRow : OpenClaim := { program := "ythbmifpfhdlicaa", sum := "b97795dd5278349f545dd8b45ddce4416840c69b90e618e3298867fcc0c290ea", func := "caesura/caesuralaw07.ValidStates", spec := "validStates", unfollowed := true, recurses := true, plainKeys := false, apart := false }
def ValidStatesSaid : Prop := validStatesRow.holds Try.pinned (OpenSpec.ofChange validStatesSpec)

/-- ITS FALSE NEIGHBOUR: 'it returns false'. Refute it at one input. -/
def validStatesWrong : ChangeSpec := { name := "validStates", fn := fun _ => fun
  | [d1, d2] => { results := [.lit (.bool false)], args := [d1, d2] }
  | _ => none }
def ValidStatesWrongFalsely : Prop := validStatesRow.holds Try.pinned (OpenSpec.ofChange validStatesWrong)

/-- 'caesuralaw07.ValidTells': WHATEVER THE INPUT: true; the input reads as it did. -/
def validTellsSpec : ChangeSpec := { name := "validTells", fn := fun _ => fun
  | [d1, d2, d3] => { results := [.lit (.bool true)], args := [d1, d2, d3] }
  | _ => none }
def validTellsRow : OpenClaim := { program := "ythbmifpfhdlicaa", sum := "b97795dd5278349f545dd8b45ddce4416840c69b90e618e3298867fcc0c290ea", func := "caesura/caesuralaw07.ValidTells", spec := "validTells", unfollowed := true, recurses := true, plainKeys := false, apart := false }
def ValidTellsSaid : Prop := validTellsRow.holds Try.pinned (OpenSpec.ofChange validTellsSpec)

/-- ITS FALSE NEIGHBOUR: 'it returns false'. Refute it at one input. -/
def validTellsWrong : ChangeSpec := { name := "validTells", fn := fun _ => fun
  | [d1, d2, d3] => { results := [.lit (.bool false)], args := [d1, d2, d3] }
  | _ => none }
def ValidTellsWrongFalsely : Prop := validTellsRow.holds Try.pinned (OpenSpec.ofChange validTellsWrong)

/-- 'caesuralaw08.WalkAhead': WHATEVER THE INPUT: true; the input reads as it did. -/
def walkAheadSpec : ChangeSpec := { name := "walkAhead", fn := fun _ => fun
  | [d1, d2, d3] => { results := [.lit (.bool true)], args := [d1, d2, d3] }
  | _ => none }
def walkAheadRow : OpenClaim := { program := "ythbmifpfhdlicaa", sum := "b97795dd5278349f545dd8b45ddce4416840c69b90e618e3298867fcc0c290ea", func := "caesura/caesuralaw08.WalkAhead", spec := "walkAhead", unfollowed := true, recurses := true, plainKeys := false, apart := false }
def WalkAheadSaid : Prop := walkAheadRow.holds Try.pinned (OpenSpec.ofChange walkAheadSpec)

/-- ITS FALSE NEIGHBOUR: 'it returns false'. Refute it at one input. -/
def walkAheadWrong : ChangeSpec := { name := "walkAhead", fn := fun _ => fun
  | [d1, d2, d3] => { results := [.lit (.bool false)], args := [d1, d2, d3] }
  | _ => none }
def WalkAheadWrongFalsely : Prop := walkAheadRow.holds Try.pinned (OpenSpec.ofChange walkAheadWrong)

/-- 'caesuralaw08.WalkBands': WHATEVER THE INPUT: true; the input reads as it did. -/
def walkBandsSpec : ChangeSpec := { name := "walkBands", fn := fun _ => fun
  | [d1, d2] => { results := [.lit (.bool true)], args := [d1, d2] }
  | _ => none }
def walkBandsRow : OpenClaim := { program := "ythbmifpfhdlicaa", sum := "b97795dd5278349f545dd8b45ddce4416840c69b90e618e3298867fcc0c290ea", func := "caesura/caesuralaw08.WalkBands", spec := "walkBands", unfollowed := true, recurses := true, plainKeys := false, apart := false }
def WalkBandsSaid : Prop := walkBandsRow.holds Try.pinned (OpenSpec.ofChange walkBandsSpec)

/-- ITS FALSE NEIGHBOUR: 'it returns false'. Refute it at one input. -/
def walkBandsWrong : ChangeSpec := { name := "walkBands", fn := fun _ => fun
  | [d1, d2] => { results := [.lit (.bool false)], args := [d1, d2] }
  | _ => none }
def WalkBandsWrongFalsely : Prop := walkBandsRow.holds Try.pinned (OpenSpec.ofChange walkBandsWrong)

/-- 'caesuralaw08.WalkSteps': WHATEVER THE INPUT: true; the input reads as it did. -/
def walkStepsSpec : ChangeSpec := { name := "walkSteps", fn := fun _ => fun
  | [d1, d2] => { results := [.lit (.bool true)], args := [d1, d2] }
  | _ => none }
def walkStepsRow : OpenClaim := { program := "ythbmifpfhdlicaa", sum := "b97795dd5278349f545dd8b45ddce4416840c69b90e618e3298867fcc0c290ea", func := "caesura/caesuralaw08.WalkSteps", spec := "walkSteps", unfollowed := true, recurses := true, plainKeys := false, apart := false }
def WalkStepsSaid : Prop := walkStepsRow.holds Try.pinned (OpenSpec.ofChange walkStepsSpec)

/-- ITS FALSE NEIGHBOUR: 'it returns false'. Refute it at one input. -/
def walkStepsWrong : ChangeSpec := { name := "walkSteps", fn := fun _ => fun
  | [d1, d2] => { results := [.lit (.bool false)], args := [d1, d2] }
  | _ => none }
def WalkStepsWrongFalsely : Prop := walkStepsRow.holds Try.pinned (OpenSpec.ofChange walkStepsWrong)

/-- 'caesuralaw08.WalkTells': WHATEVER THE INPUT: true; the input reads as it did. -/
def walkTellsSpec : ChangeSpec := { name := "walkTells", fn := fun _ => fun
  | [d1, d2, d3] => { results := [.lit (.bool true)], args := [d1, d2, d3] }
  | _ => none }
def walkTellsRow : OpenClaim := { program := "ythbmifpfhdlicaa", sum := "b97795dd5278349f545dd8b45ddce4416840c69b90e618e3298867fcc0c290ea", func := "caesura/caesuralaw08.WalkTells", spec := "walkTells", unfollowed := true, recurses := true, plainKeys := false, apart := false }
def WalkTellsSaid : Prop := walkTellsRow.holds Try.pinned (OpenSpec.ofChange walkTellsSpec)

/-- ITS FALSE NEIGHBOUR: 'it returns false'. Refute it at one input. -/
def walkTellsWrong : ChangeSpec := { name := "walkTells", fn := fun _ => fun
  | [d1, d2, d3] => { results := [.lit (.bool false)], args := [d1, d2, d3] }
  | _ => none }
def WalkTellsWrongFalsely : Prop := walkTellsRow.holds Try.pinned (OpenSpec.ofChange walkTellsWrong)

/- THE SECOND FORM. 'bulk': how many values and letters a reading holds, each counted each time it is reached (what is shared counts as often as it is met; a slice's spare places count too). A statement '..UptoSaid' is the law's where the arguments, and the package variables that the reading takes, are together of bulk at most 1048576: NARROWER than '..Said'. Prove '..Said' where nothing that the law and all that it calls make is longer than what came in: it says more and counts as full. Else prove '..UptoSaid'. A law counts once. -/
mutual
def uptoBulk {H : Type} : DataW H → Nat
  | .lit (.string bytes) => bytes.length + 1
  | .lit _ => 1
  | .nil => 1
  | .ptr d => uptoBulk d + 1
  | .slice elems spare => uptoBulkAll elems + uptoBulkAll spare + 1
  | .agg parts => uptoBulkAll parts + 1
  | .iface _ d => uptoBulk d + 1
  | .map entries => uptoBulkEntries entries + 1
  | .held _ => 1
def uptoBulkAll {H : Type} : List (DataW H) → Nat
  | [] => 0
  | d :: r => uptoBulk d + uptoBulkAll r
def uptoBulkEntries {H : Type} : List (Lit × DataW H) → Nat
  | [] => 0
  | x :: r => uptoBulkEntry x + uptoBulkEntries r
def uptoBulkEntry {H : Type} : Lit × DataW H → Nat
  | (.string bytes, d) => bytes.length + uptoBulk d + 1
  | (_, d) => uptoBulk d + 1
 end
def uptoSmall : (H : Type) → List (DataW H) → Bool := fun _ ds => decide (uptoBulkAll ds ≤ 1048576)
def OpenSpec.upto (s : _root_.Go.ChangeSpec) : _root_.Go.OpenSpec := { _root_.Go.OpenSpec.ofChange s with cond := some uptoSmall }

/-- 'caesuralaw06.TableBack', WHERE WHAT IT READS IS OF BULK AT MOST 1048576: true; the input reads as it did. -/
def tableBackUptoRow : OpenClaim := { program := "ythbmifpfhdlicaa", sum := "b97795dd5278349f545dd8b45ddce4416840c69b90e618e3298867fcc0c290ea", func := "caesura/caesuralaw06.TableBack", spec := "tableBack", unfollowed := true, recurses := true, plainKeys := false, apart := false, narrowed := true }
def TableBackUptoSaid : Prop := tableBackUptoRow.holds Try.pinned (OpenSpec.upto tableBackSpec)

/-- 'caesuralaw06.TableCodes', WHERE WHAT IT READS IS OF BULK AT MOST 1048576: true; the input reads as it did. -/
def tableCodesUptoRow : OpenClaim := { program := "ythbmifpfhdlicaa", sum := "b97795dd5278349f545dd8b45ddce4416840c69b90e618e3298867fcc0c290ea", func := "caesura/caesuralaw06.TableCodes", spec := "tableCodes", unfollowed := true, recurses := true, plainKeys := false, apart := false, narrowed := true }
def TableCodesUptoSaid : Prop := tableCodesUptoRow.holds Try.pinned (OpenSpec.upto tableCodesSpec)

/-- 'caesuralaw06.TableCut', WHERE WHAT IT READS IS OF BULK AT MOST 1048576: true; the input reads as it did. -/
def tableCutUptoRow : OpenClaim := { program := "ythbmifpfhdlicaa", sum := "b97795dd5278349f545dd8b45ddce4416840c69b90e618e3298867fcc0c290ea", func := "caesura/caesuralaw06.TableCut", spec := "tableCut", unfollowed := true, recurses := true, plainKeys := false, apart := false, narrowed := true }
def TableCutUptoSaid : Prop := tableCutUptoRow.holds Try.pinned (OpenSpec.upto tableCutSpec)

/-- 'caesuralaw06.TableFirst', WHERE WHAT IT READS IS OF BULK AT MOST 1048576: true; the input reads as it did. -/
def tableFirstUptoRow : OpenClaim := { program := "ythbmifpfhdlicaa", sum := "b97795dd5278349f545dd8b45ddce4416840c69b90e618e3298867fcc0c290ea", func := "caesura/caesuralaw06.TableFirst", spec := "tableFirst", unfollowed := true, recurses := true, plainKeys := false, apart := false, narrowed := true }
def TableFirstUptoSaid : Prop := tableFirstUptoRow.holds Try.pinned (OpenSpec.upto tableFirstSpec)

/-- 'caesuralaw06.TableLengths', WHERE WHAT IT READS IS OF BULK AT MOST 1048576: true; the input reads as it did. -/
def tableLengthsUptoRow : OpenClaim := { program := "ythbmifpfhdlicaa", sum := "b97795dd5278349f545dd8b45ddce4416840c69b90e618e3298867fcc0c290ea", func := "caesura/caesuralaw06.TableLengths", spec := "tableLengths", unfollowed := true, recurses := true, plainKeys := false, apart := false, narrowed := true }
def TableLengthsUptoSaid : Prop := tableLengthsUptoRow.holds Try.pinned (OpenSpec.upto tableLengthsSpec)

/-- 'caesuralaw06.TablePlaces', WHERE WHAT IT READS IS OF BULK AT MOST 1048576: true; the input reads as it did. -/
def tablePlacesUptoRow : OpenClaim := { program := "ythbmifpfhdlicaa", sum := "b97795dd5278349f545dd8b45ddce4416840c69b90e618e3298867fcc0c290ea", func := "caesura/caesuralaw06.TablePlaces", spec := "tablePlaces", unfollowed := true, recurses := true, plainKeys := false, apart := false, narrowed := true }
def TablePlacesUptoSaid : Prop := tablePlacesUptoRow.holds Try.pinned (OpenSpec.upto tablePlacesSpec)

/-- 'caesuralaw07.ValidAlike', WHERE WHAT IT READS IS OF BULK AT MOST 1048576: true; the input reads as it did. -/
def validAlikeUptoRow : OpenClaim := { program := "ythbmifpfhdlicaa", sum := "b97795dd5278349f545dd8b45ddce4416840c69b90e618e3298867fcc0c290ea", func := "caesura/caesuralaw07.ValidAlike", spec := "validAlike", unfollowed := true, recurses := true, plainKeys := false, apart := false, narrowed := true }
def ValidAlikeUptoSaid : Prop := validAlikeUptoRow.holds Try.pinned (OpenSpec.upto validAlikeSpec)

/-- 'caesuralaw07.ValidBreaks', WHERE WHAT IT READS IS OF BULK AT MOST 1048576: true; the input reads as it did. -/
def validBreaksUptoRow : OpenClaim := { program := "ythbmifpfhdlicaa", sum := "b97795dd5278349f545dd8b45ddce4416840c69b90e618e3298867fcc0c290ea", func := "caesura/caesuralaw07.ValidBreaks", spec := "validBreaks", unfollowed := true, recurses := true, plainKeys := false, apart := false, narrowed := true }
def ValidBreaksUptoSaid : Prop := validBreaksUptoRow.holds Try.pinned (OpenSpec.upto validBreaksSpec)

/-- 'caesuralaw07.ValidClasses', WHERE WHAT IT READS IS OF BULK AT MOST 1048576: true; the input reads as it did. -/
def validClassesUptoRow : OpenClaim := { program := "ythbmifpfhdlicaa", sum := "b97795dd5278349f545dd8b45ddce4416840c69b90e618e3298867fcc0c290ea", func := "caesura/caesuralaw07.ValidClasses", spec := "validClasses", unfollowed := true, recurses := true, plainKeys := false, apart := false, narrowed := true }
def ValidClassesUptoSaid : Prop := validClassesUptoRow.holds Try.pinned (OpenSpec.upto validClassesSpec)

/-- 'caesuralaw07.ValidOne', WHERE WHAT IT READS IS OF BULK AT MOST 1048576: true; the input reads as it did. -/
def validOneUptoRow : OpenClaim := { program := "ythbmifpfhdlicaa", sum := "b97795dd5278349f545dd8b45ddce4416840c69b90e618e3298867fcc0c290ea", func := "caesura/caesuralaw07.ValidOne", spec := "validOne", unfollowed := true, recurses := true, plainKeys := false, apart := false, narrowed := true }
def ValidOneUptoSaid : Prop := validOneUptoRow.holds Try.pinned (OpenSpec.upto validOneSpec)

/-- 'caesuralaw07.ValidStates', WHERE WHAT IT READS IS OF BULK AT MOST 1048576: true; the input reads as it did. -/
def validStatesUptoRow : OpenClaim := { program := "ythbmifpfhdlicaa", sum := "b97795dd5278349f545dd8b45ddce4416840c69b90e618e3298867fcc0c290ea", func := "caesura/caesuralaw07.ValidStates", spec := "validStates", unfollowed := true, recurses := true, plainKeys := false, apart := false, narrowed := true }
def ValidStatesUptoSaid : Prop := validStatesUptoRow.holds Try.pinned (OpenSpec.upto validStatesSpec)

/-- 'caesuralaw07.ValidTells', WHERE WHAT IT READS IS OF BULK AT MOST 1048576: true; the input reads as it did. -/
def validTellsUptoRow : OpenClaim := { program := "ythbmifpfhdlicaa", sum := "b97795dd5278349f545dd8b45ddce4416840c69b90e618e3298867fcc0c290ea", func := "caesura/caesuralaw07.ValidTells", spec := "validTells", unfollowed := true, recurses := true, plainKeys := false, apart := false, narrowed := true }
def ValidTellsUptoSaid : Prop := validTellsUptoRow.holds Try.pinned (OpenSpec.upto validTellsSpec)

/-- 'caesuralaw08.WalkAhead', WHERE WHAT IT READS IS OF BULK AT MOST 1048576: true; the input reads as it did. -/
def walkAheadUptoRow : OpenClaim := { program := "ythbmifpfhdlicaa", sum := "b97795dd5278349f545dd8b45ddce4416840c69b90e618e3298867fcc0c290ea", func := "caesura/caesuralaw08.WalkAhead", spec := "walkAhead", unfollowed := true, recurses := true, plainKeys := false, apart := false, narrowed := true }
def WalkAheadUptoSaid : Prop := walkAheadUptoRow.holds Try.pinned (OpenSpec.upto walkAheadSpec)

/-- 'caesuralaw08.WalkBands', WHERE WHAT IT READS IS OF BULK AT MOST 1048576: true; the input reads as it did. -/
def walkBandsUptoRow : OpenClaim := { program := "ythbmifpfhdlicaa", sum := "b97795dd5278349f545dd8b45ddce4416840c69b90e618e3298867fcc0c290ea", func := "caesura/caesuralaw08.WalkBands", spec := "walkBands", unfollowed := true, recurses := true, plainKeys := false, apart := false, narrowed := true }
def WalkBandsUptoSaid : Prop := walkBandsUptoRow.holds Try.pinned (OpenSpec.upto walkBandsSpec)

/-- 'caesuralaw08.WalkSteps', WHERE WHAT IT READS IS OF BULK AT MOST 1048576: true; the input reads as it did. -/
def walkStepsUptoRow : OpenClaim := { program := "ythbmifpfhdlicaa", sum := "b97795dd5278349f545dd8b45ddce4416840c69b90e618e3298867fcc0c290ea", func := "caesura/caesuralaw08.WalkSteps", spec := "walkSteps", unfollowed := true, recurses := true, plainKeys := false, apart := false, narrowed := true }
def WalkStepsUptoSaid : Prop := walkStepsUptoRow.holds Try.pinned (OpenSpec.upto walkStepsSpec)

/-- 'caesuralaw08.WalkTells', WHERE WHAT IT READS IS OF BULK AT MOST 1048576: true; the input reads as it did. -/
def walkTellsUptoRow : OpenClaim := { program := "ythbmifpfhdlicaa", sum := "b97795dd5278349f545dd8b45ddce4416840c69b90e618e3298867fcc0c290ea", func := "caesura/caesuralaw08.WalkTells", spec := "walkTells", unfollowed := true, recurses := true, plainKeys := false, apart := false, narrowed := true }
def WalkTellsUptoSaid : Prop := walkTellsUptoRow.holds Try.pinned (OpenSpec.upto walkTellsSpec)

end Rows
end Go.Proofs.Ythbmifpfhdlicaa
