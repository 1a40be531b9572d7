/-
  NARROWER THAN 'FOR EVERY INPUT', by the rows' own cells (each row's printed sentence says how): UtfBack: laid · UtfForms: laid · UtfOdd: laid · UtfRows: laid · UtfTells: laid · SegmentAhead: laid · SegmentIll: laid · SegmentTells: laid · SegmentWhole: laid · SeekAround: laid · SeekErrors: laid · SeekGoes: laid · SeekTells: laid · SeekWithin: laid.
  DERIVED. THE GIVEN ROWS OF THIS SEAT. 14 by the template 'for every input the law returns true; each argument reads behind the call as it read before'; 0 by the template 'total and deterministic' (their statements: YtldoffdakikaeaaDoorTotals.lean).
  GIVEN WITH THE SEED: the statements are not yours to turn. If you find one false, say at which input.
  Laid BY PROGRAM, IN A SANDBOX (cutbox-rows.mjs): the forced cells as the released guide's own fill.sh prints them over the translation c6278cedf5b940a8… (all of the seat's roots in one cut). By AI agents, Wed Nov 11 2026. No macro, syntax, notation, axiom, sorry.
-/
import Derived.Test.YtldoffdakikaeaaDoorChecked
import GoSem.Claim
import GoSem.ClaimJoined
import GoSem.ClaimMapViews
import Derived.JoinedTies
import Derived.KernelRfl
namespace Go.Proofs.YtldoffdakikaeaaDoor
/- THE CELL 'sum', in the pinned program and in every row, IS THE sha256 OF THE DUMP (.gsa) THAT YtldoffdakikaeaaDoorProg.lean LOADS. Nothing in Lean hashes anything: it is a label: what it is worth is what the hold of that sum in a sandbox is worth. -/
noncomputable def Tryd.pinned : Pinned := { name := "ytldoffdakikaeaadoor", sum := "c6278cedf5b940a834ca7b45066d3bdb6c15615e13bf07f6beaac2f4c88e5b4f", checked := Tryd.checked }
namespace Rows
def none {H : Type} : Left H := { results := [], args := [] }

/- WHAT THE LISTED PACKAGE-LEVEL VARIABLES READ AS WHEN THE CALL BEGINS. Each datum BY PROGRAM (the guide's laid-datum.mjs) off the statement by which the dump's own 'gosem.cut.vars' lays the variable. In a bare row this is a premise. The card (YtldoffdakikaeaaDoorCards.lean) ties it to the program's text. -/
def laid_caesura_utf_leads {H : Type} : DataW H := .agg [.agg [.lit (.int .u8 0), .lit (.int .u8 127), .lit (.int .i64 1), .lit (.int .u8 0), .lit (.int .u8 0)], .agg [.lit (.int .u8 194), .lit (.int .u8 223), .lit (.int .i64 2), .lit (.int .u8 128), .lit (.int .u8 191)], .agg [.lit (.int .u8 224), .lit (.int .u8 224), .lit (.int .i64 3), .lit (.int .u8 160), .lit (.int .u8 191)], .agg [.lit (.int .u8 225), .lit (.int .u8 236), .lit (.int .i64 3), .lit (.int .u8 128), .lit (.int .u8 191)], .agg [.lit (.int .u8 237), .lit (.int .u8 237), .lit (.int .i64 3), .lit (.int .u8 128), .lit (.int .u8 159)], .agg [.lit (.int .u8 238), .lit (.int .u8 239), .lit (.int .i64 3), .lit (.int .u8 128), .lit (.int .u8 191)], .agg [.lit (.int .u8 240), .lit (.int .u8 240), .lit (.int .i64 4), .lit (.int .u8 144), .lit (.int .u8 191)], .agg [.lit (.int .u8 241), .lit (.int .u8 243), .lit (.int .i64 4), .lit (.int .u8 128), .lit (.int .u8 191)], .agg [.lit (.int .u8 244), .lit (.int .u8 244), .lit (.int .i64 4), .lit (.int .u8 128), .lit (.int .u8 143)]]

/-- 'caesuralaw02.UtfBack': WHATEVER THE INPUT: true; the input reads as it did. -/
def utfBackSpec : ChangeSpec := { name := "utfBack", fn := fun _ => fun
  | [d1, d2] => { results := [.lit (.bool true)], args := [d1, d2] }
  | _ => none }
def utfBackRow : OpenClaim := { program := "ytldoffdakikaeaadoor", sum := "c6278cedf5b940a834ca7b45066d3bdb6c15615e13bf07f6beaac2f4c88e5b4f", func := "caesura/caesuralaw02.UtfBack", spec := "utfBack", inPlace := ["internal/abi.NoEscape"], named := ["caesura/utf.leads"], plainKeys := false, apart := false, laid := [("caesura/utf.leads", laid_caesura_utf_leads)] }
def UtfBackSaid : Prop := utfBackRow.holds Tryd.pinned (OpenSpec.ofChange utfBackSpec)

/-- ITS FALSE NEIGHBOUR: 'it returns false'. Refute it at one input. -/
def utfBackWrong : ChangeSpec := { name := "utfBack", fn := fun _ => fun
  | [d1, d2] => { results := [.lit (.bool false)], args := [d1, d2] }
  | _ => none }
def UtfBackWrongFalsely : Prop := utfBackRow.holds Tryd.pinned (OpenSpec.ofChange utfBackWrong)

/-- 'caesuralaw02.UtfForms': WHATEVER THE INPUT: true; the input reads as it did. -/
def utfFormsSpec : ChangeSpec := { name := "utfForms", fn := fun _ => fun
  | [d] => { results := [.lit (.bool true)], args := [d] }
  | _ => none }
def utfFormsRow : OpenClaim := { program := "ytldoffdakikaeaadoor", sum := "c6278cedf5b940a834ca7b45066d3bdb6c15615e13bf07f6beaac2f4c88e5b4f", func := "caesura/caesuralaw02.UtfForms", spec := "utfForms", inPlace := ["internal/abi.NoEscape"], named := ["caesura/utf.leads"], plainKeys := false, apart := false, laid := [("caesura/utf.leads", laid_caesura_utf_leads)] }
def UtfFormsSaid : Prop := utfFormsRow.holds Tryd.pinned (OpenSpec.ofChange utfFormsSpec)

/-- ITS FALSE NEIGHBOUR: 'it returns false'. Refute it at one input. -/
def utfFormsWrong : ChangeSpec := { name := "utfForms", fn := fun _ => fun
  | [d] => { results := [.lit (.bool false)], args := [d] }
  | _ => none }
def UtfFormsWrongFalsely : Prop := utfFormsRow.holds Tryd.pinned (OpenSpec.ofChange utfFormsWrong)

/-- 'caesuralaw02.UtfOdd': WHATEVER THE INPUT: true; the input reads as it did. -/
def utfOddSpec : ChangeSpec := { name := "utfOdd", fn := fun _ => fun
  | [d1, d2] => { results := [.lit (.bool true)], args := [d1, d2] }
  | _ => none }
def utfOddRow : OpenClaim := { program := "ytldoffdakikaeaadoor", sum := "c6278cedf5b940a834ca7b45066d3bdb6c15615e13bf07f6beaac2f4c88e5b4f", func := "caesura/caesuralaw02.UtfOdd", spec := "utfOdd", inPlace := ["internal/abi.NoEscape"], named := ["caesura/utf.leads"], plainKeys := false, apart := false, laid := [("caesura/utf.leads", laid_caesura_utf_leads)] }
def UtfOddSaid : Prop := utfOddRow.holds Tryd.pinned (OpenSpec.ofChange utfOddSpec)

/-- ITS FALSE NEIGHBOUR: 'it returns false'. Refute it at one input. -/
def utfOddWrong : ChangeSpec := { name := "utfOdd", fn := fun _ => fun
  | [d1, d2] => { results := [.lit (.bool false)], args := [d1, d2] }
  | _ => none }
def UtfOddWrongFalsely : Prop := utfOddRow.holds Tryd.pinned (OpenSpec.ofChange utfOddWrong)

/-- 'caesuralaw02.UtfRows': WHATEVER THE INPUT: true; the input reads as it did. -/
def utfRowsSpec : ChangeSpec := { name := "utfRows", fn := fun _ => fun
  | [d1, d2] => { results := [.lit (.bool true)], args := [d1, d2] }
  | _ => none }
def utfRowsRow : OpenClaim := { program := "ytldoffdakikaeaadoor", sum := "c6278cedf5b940a834ca7b45066d3bdb6c15615e13bf07f6beaac2f4c88e5b4f", func := "caesura/caesuralaw02.UtfRows", spec := "utfRows", inPlace := ["internal/abi.NoEscape"], named := ["caesura/utf.leads"], plainKeys := false, apart := false, laid := [("caesura/utf.leads", laid_caesura_utf_leads)] }
def UtfRowsSaid : Prop := utfRowsRow.holds Tryd.pinned (OpenSpec.ofChange utfRowsSpec)

/-- ITS FALSE NEIGHBOUR: 'it returns false'. Refute it at one input. -/
def utfRowsWrong : ChangeSpec := { name := "utfRows", fn := fun _ => fun
  | [d1, d2] => { results := [.lit (.bool false)], args := [d1, d2] }
  | _ => none }
def UtfRowsWrongFalsely : Prop := utfRowsRow.holds Tryd.pinned (OpenSpec.ofChange utfRowsWrong)

/-- 'caesuralaw02.UtfTells': WHATEVER THE INPUT: true; the input reads as it did. -/
def utfTellsSpec : ChangeSpec := { name := "utfTells", fn := fun _ => fun
  | [d1, d2, d3] => { results := [.lit (.bool true)], args := [d1, d2, d3] }
  | _ => none }
def utfTellsRow : OpenClaim := { program := "ytldoffdakikaeaadoor", sum := "c6278cedf5b940a834ca7b45066d3bdb6c15615e13bf07f6beaac2f4c88e5b4f", func := "caesura/caesuralaw02.UtfTells", spec := "utfTells", inPlace := ["internal/abi.NoEscape"], named := ["caesura/utf.leads"], plainKeys := false, apart := false, laid := [("caesura/utf.leads", laid_caesura_utf_leads)] }
def UtfTellsSaid : Prop := utfTellsRow.holds Tryd.pinned (OpenSpec.ofChange utfTellsSpec)

/-- ITS FALSE NEIGHBOUR: 'it returns false'. Refute it at one input. -/
def utfTellsWrong : ChangeSpec := { name := "utfTells", fn := fun _ => fun
  | [d1, d2, d3] => { results := [.lit (.bool false)], args := [d1, d2, d3] }
  | _ => none }
def UtfTellsWrongFalsely : Prop := utfTellsRow.holds Tryd.pinned (OpenSpec.ofChange utfTellsWrong)

/-- 'caesuralaw09.SegmentAhead': WHATEVER THE INPUT: true; the input reads as it did. -/
def segmentAheadSpec : ChangeSpec := { name := "segmentAhead", fn := fun _ => fun
  | [d1, d2, d3] => { results := [.lit (.bool true)], args := [d1, d2, d3] }
  | _ => none }
def segmentAheadRow : OpenClaim := { program := "ytldoffdakikaeaadoor", sum := "c6278cedf5b940a834ca7b45066d3bdb6c15615e13bf07f6beaac2f4c88e5b4f", func := "caesura/caesuralaw09.SegmentAhead", spec := "segmentAhead", unfollowed := true, recurses := true, named := ["caesura/utf.leads"], plainKeys := false, apart := false, laid := [("caesura/utf.leads", laid_caesura_utf_leads)] }
def SegmentAheadSaid : Prop := segmentAheadRow.holds Tryd.pinned (OpenSpec.ofChange segmentAheadSpec)

/-- ITS FALSE NEIGHBOUR: 'it returns false'. Refute it at one input. -/
def segmentAheadWrong : ChangeSpec := { name := "segmentAhead", fn := fun _ => fun
  | [d1, d2, d3] => { results := [.lit (.bool false)], args := [d1, d2, d3] }
  | _ => none }
def SegmentAheadWrongFalsely : Prop := segmentAheadRow.holds Tryd.pinned (OpenSpec.ofChange segmentAheadWrong)

/-- 'caesuralaw09.SegmentIll': WHATEVER THE INPUT: true; the input reads as it did. -/
def segmentIllSpec : ChangeSpec := { name := "segmentIll", fn := fun _ => fun
  | [d1, d2] => { results := [.lit (.bool true)], args := [d1, d2] }
  | _ => none }
def segmentIllRow : OpenClaim := { program := "ytldoffdakikaeaadoor", sum := "c6278cedf5b940a834ca7b45066d3bdb6c15615e13bf07f6beaac2f4c88e5b4f", func := "caesura/caesuralaw09.SegmentIll", spec := "segmentIll", unfollowed := true, recurses := true, named := ["caesura/utf.leads"], plainKeys := false, apart := false, laid := [("caesura/utf.leads", laid_caesura_utf_leads)] }
def SegmentIllSaid : Prop := segmentIllRow.holds Tryd.pinned (OpenSpec.ofChange segmentIllSpec)

/-- ITS FALSE NEIGHBOUR: 'it returns false'. Refute it at one input. -/
def segmentIllWrong : ChangeSpec := { name := "segmentIll", fn := fun _ => fun
  | [d1, d2] => { results := [.lit (.bool false)], args := [d1, d2] }
  | _ => none }
def SegmentIllWrongFalsely : Prop := segmentIllRow.holds Tryd.pinned (OpenSpec.ofChange segmentIllWrong)

/-- 'caesuralaw09.SegmentTells': WHATEVER THE INPUT: true; the input reads as it did. -/
def segmentTellsSpec : ChangeSpec := { name := "segmentTells", fn := fun _ => fun
  | [d1, d2] => { results := [.lit (.bool true)], args := [d1, d2] }
  | _ => none }
def segmentTellsRow : OpenClaim := { program := "ytldoffdakikaeaadoor", sum := "c6278cedf5b940a834ca7b45066d3bdb6c15615e13bf07f6beaac2f4c88e5b4f", func := "caesura/caesuralaw09.SegmentTells", spec := "segmentTells", unfollowed := true, recurses := true, named := ["caesura/utf.leads"], plainKeys := false, apart := false, laid := [("caesura/utf.leads", laid_caesura_utf_leads)] }
def SegmentTellsSaid : Prop := segmentTellsRow.holds Tryd.pinned (OpenSpec.ofChange segmentTellsSpec)

/-- ITS FALSE NEIGHBOUR: 'it returns false'. Refute it at one input. -/
def segmentTellsWrong : ChangeSpec := { name := "segmentTells", fn := fun _ => fun
  | [d1, d2] => { results := [.lit (.bool false)], args := [d1, d2] }
  | _ => none }
def SegmentTellsWrongFalsely : Prop := segmentTellsRow.holds Tryd.pinned (OpenSpec.ofChange segmentTellsWrong)

/-- 'caesuralaw09.SegmentWhole': WHATEVER THE INPUT: true; the input reads as it did. -/
def segmentWholeSpec : ChangeSpec := { name := "segmentWhole", fn := fun _ => fun
  | [d1, d2] => { results := [.lit (.bool true)], args := [d1, d2] }
  | _ => none }
def segmentWholeRow : OpenClaim := { program := "ytldoffdakikaeaadoor", sum := "c6278cedf5b940a834ca7b45066d3bdb6c15615e13bf07f6beaac2f4c88e5b4f", func := "caesura/caesuralaw09.SegmentWhole", spec := "segmentWhole", unfollowed := true, recurses := true, named := ["caesura/utf.leads"], plainKeys := false, apart := false, laid := [("caesura/utf.leads", laid_caesura_utf_leads)] }
def SegmentWholeSaid : Prop := segmentWholeRow.holds Tryd.pinned (OpenSpec.ofChange segmentWholeSpec)

/-- ITS FALSE NEIGHBOUR: 'it returns false'. Refute it at one input. -/
def segmentWholeWrong : ChangeSpec := { name := "segmentWhole", fn := fun _ => fun
  | [d1, d2] => { results := [.lit (.bool false)], args := [d1, d2] }
  | _ => none }
def SegmentWholeWrongFalsely : Prop := segmentWholeRow.holds Tryd.pinned (OpenSpec.ofChange segmentWholeWrong)

/-- 'caesuralaw10.SeekAround': WHATEVER THE INPUT: true; the input reads as it did. -/
def seekAroundSpec : ChangeSpec := { name := "seekAround", fn := fun _ => fun
  | [d1, d2, d3] => { results := [.lit (.bool true)], args := [d1, d2, d3] }
  | _ => none }
def seekAroundRow : OpenClaim := { program := "ytldoffdakikaeaadoor", sum := "c6278cedf5b940a834ca7b45066d3bdb6c15615e13bf07f6beaac2f4c88e5b4f", func := "caesura/caesuralaw10.SeekAround", spec := "seekAround", unfollowed := true, recurses := true, named := ["caesura/utf.leads"], plainKeys := false, apart := false, laid := [("caesura/utf.leads", laid_caesura_utf_leads)] }
def SeekAroundSaid : Prop := seekAroundRow.holds Tryd.pinned (OpenSpec.ofChange seekAroundSpec)

/-- ITS FALSE NEIGHBOUR: 'it returns false'. Refute it at one input. -/
def seekAroundWrong : ChangeSpec := { name := "seekAround", fn := fun _ => fun
  | [d1, d2, d3] => { results := [.lit (.bool false)], args := [d1, d2, d3] }
  | _ => none }
def SeekAroundWrongFalsely : Prop := seekAroundRow.holds Tryd.pinned (OpenSpec.ofChange seekAroundWrong)

/-- 'caesuralaw10.SeekErrors': WHATEVER THE INPUT: true; the input reads as it did. -/
def seekErrorsSpec : ChangeSpec := { name := "seekErrors", fn := fun _ => fun
  | [d1, d2, d3] => { results := [.lit (.bool true)], args := [d1, d2, d3] }
  | _ => none }
def seekErrorsRow : OpenClaim := { program := "ytldoffdakikaeaadoor", sum := "c6278cedf5b940a834ca7b45066d3bdb6c15615e13bf07f6beaac2f4c88e5b4f", func := "caesura/caesuralaw10.SeekErrors", spec := "seekErrors", unfollowed := true, recurses := true, named := ["caesura/utf.leads"], plainKeys := false, apart := false, laid := [("caesura/utf.leads", laid_caesura_utf_leads)] }
def SeekErrorsSaid : Prop := seekErrorsRow.holds Tryd.pinned (OpenSpec.ofChange seekErrorsSpec)

/-- ITS FALSE NEIGHBOUR: 'it returns false'. Refute it at one input. -/
def seekErrorsWrong : ChangeSpec := { name := "seekErrors", fn := fun _ => fun
  | [d1, d2, d3] => { results := [.lit (.bool false)], args := [d1, d2, d3] }
  | _ => none }
def SeekErrorsWrongFalsely : Prop := seekErrorsRow.holds Tryd.pinned (OpenSpec.ofChange seekErrorsWrong)

/-- 'caesuralaw10.SeekGoes': WHATEVER THE INPUT: true; the input reads as it did. -/
def seekGoesSpec : ChangeSpec := { name := "seekGoes", fn := fun _ => fun
  | [d1, d2] => { results := [.lit (.bool true)], args := [d1, d2] }
  | _ => none }
def seekGoesRow : OpenClaim := { program := "ytldoffdakikaeaadoor", sum := "c6278cedf5b940a834ca7b45066d3bdb6c15615e13bf07f6beaac2f4c88e5b4f", func := "caesura/caesuralaw10.SeekGoes", spec := "seekGoes", unfollowed := true, recurses := true, named := ["caesura/utf.leads"], plainKeys := false, apart := false, laid := [("caesura/utf.leads", laid_caesura_utf_leads)] }
def SeekGoesSaid : Prop := seekGoesRow.holds Tryd.pinned (OpenSpec.ofChange seekGoesSpec)

/-- ITS FALSE NEIGHBOUR: 'it returns false'. Refute it at one input. -/
def seekGoesWrong : ChangeSpec := { name := "seekGoes", fn := fun _ => fun
  | [d1, d2] => { results := [.lit (.bool false)], args := [d1, d2] }
  | _ => none }
def SeekGoesWrongFalsely : Prop := seekGoesRow.holds Tryd.pinned (OpenSpec.ofChange seekGoesWrong)

/-- 'caesuralaw10.SeekTells': WHATEVER THE INPUT: true; the input reads as it did. -/
def seekTellsSpec : ChangeSpec := { name := "seekTells", fn := fun _ => fun
  | [d1, d2, d3] => { results := [.lit (.bool true)], args := [d1, d2, d3] }
  | _ => none }
def seekTellsRow : OpenClaim := { program := "ytldoffdakikaeaadoor", sum := "c6278cedf5b940a834ca7b45066d3bdb6c15615e13bf07f6beaac2f4c88e5b4f", func := "caesura/caesuralaw10.SeekTells", spec := "seekTells", unfollowed := true, recurses := true, named := ["caesura/utf.leads"], plainKeys := false, apart := false, laid := [("caesura/utf.leads", laid_caesura_utf_leads)] }
def SeekTellsSaid : Prop := seekTellsRow.holds Tryd.pinned (OpenSpec.ofChange seekTellsSpec)

/-- ITS FALSE NEIGHBOUR: 'it returns false'. Refute it at one input. -/
def seekTellsWrong : ChangeSpec := { name := "seekTells", fn := fun _ => fun
  | [d1, d2, d3] => { results := [.lit (.bool false)], args := [d1, d2, d3] }
  | _ => none }
def SeekTellsWrongFalsely : Prop := seekTellsRow.holds Tryd.pinned (OpenSpec.ofChange seekTellsWrong)

/-- 'caesuralaw10.SeekWithin': WHATEVER THE INPUT: true; the input reads as it did. -/
def seekWithinSpec : ChangeSpec := { name := "seekWithin", fn := fun _ => fun
  | [d1, d2, d3] => { results := [.lit (.bool true)], args := [d1, d2, d3] }
  | _ => none }
def seekWithinRow : OpenClaim := { program := "ytldoffdakikaeaadoor", sum := "c6278cedf5b940a834ca7b45066d3bdb6c15615e13bf07f6beaac2f4c88e5b4f", func := "caesura/caesuralaw10.SeekWithin", spec := "seekWithin", unfollowed := true, recurses := true, named := ["caesura/utf.leads"], plainKeys := false, apart := false, laid := [("caesura/utf.leads", laid_caesura_utf_leads)] }
def SeekWithinSaid : Prop := seekWithinRow.holds Tryd.pinned (OpenSpec.ofChange seekWithinSpec)

/-- ITS FALSE NEIGHBOUR: 'it returns false'. Refute it at one input. -/
def seekWithinWrong : ChangeSpec := { name := "seekWithin", fn := fun _ => fun
  | [d1, d2, d3] => { results := [.lit (.bool false)], args := [d1, d2, d3] }
  | _ => none }
def SeekWithinWrongFalsely : Prop := seekWithinRow.holds Tryd.pinned (OpenSpec.ofChange seekWithinWrong)

/- THE SECOND FORM. 'bulk': how many values and letters a reading holds, each counted each time it is reached (what is shared counts as often as it is met; a slice's spare places count too). A statement '..UptoSaid' is the law's where the arguments, and the package variables that the reading takes, are together of bulk at most 1048576: NARROWER than '..Said'. Prove '..Said' where nothing that the law and all that it calls make is longer than what came in: it says more and counts as full. Else prove '..UptoSaid'. A law counts once. -/
mutual
def uptoBulk {H : Type} : DataW H → Nat
  | .lit (.string bytes) => bytes.length + 1
  | .lit _ => 1
  | .nil => 1
  | .ptr d => uptoBulk d + 1
  | .slice elems spare => uptoBulkAll elems + uptoBulkAll spare + 1
  | .agg parts => uptoBulkAll parts + 1
  | .iface _ d => uptoBulk d + 1
  | .map entries => uptoBulkEntries entries + 1
  | .held _ => 1
def uptoBulkAll {H : Type} : List (DataW H) → Nat
  | [] => 0
  | d :: r => uptoBulk d + uptoBulkAll r
def uptoBulkEntries {H : Type} : List (Lit × DataW H) → Nat
  | [] => 0
  | x :: r => uptoBulkEntry x + uptoBulkEntries r
def uptoBulkEntry {H : Type} : Lit × DataW H → Nat
  | (.string bytes, d) => bytes.length + uptoBulk d + 1
  | (_, d) => uptoBulk d + 1
 end
def uptoSmall : (H : Type) → List (DataW H) → Bool := fun _ ds => decide (uptoBulkAll ds ≤ 1048576)
def OpenSpec.upto (s : _root_.Go.ChangeSpec) : _root_.Go.OpenSpec := { _root_.Go.OpenSpec.ofChange s with cond := some uptoSmall }

/-- 'caesuralaw02.UtfBack', WHERE WHAT IT READS IS OF BULK AT MOST 1048576: true; the input reads as it did. -/
def utfBackUptoRow : OpenClaim := { program := "ytldoffdakikaeaadoor", sum := "c6278cedf5b940a834ca7b45066d3bdb6c15615e13bf07f6beaac2f4c88e5b4f", func := "caesura/caesuralaw02.UtfBack", spec := "utfBack", inPlace := ["internal/abi.NoEscape"], named := ["caesura/utf.leads"], plainKeys := false, apart := false, laid := [("caesura/utf.leads", laid_caesura_utf_leads)], narrowed := true }
def UtfBackUptoSaid : Prop := utfBackUptoRow.holds Tryd.pinned (OpenSpec.upto utfBackSpec)

/-- 'caesuralaw02.UtfForms', WHERE WHAT IT READS IS OF BULK AT MOST 1048576: true; the input reads as it did. -/
def utfFormsUptoRow : OpenClaim := { program := "ytldoffdakikaeaadoor", sum := "c6278cedf5b940a834ca7b45066d3bdb6c15615e13bf07f6beaac2f4c88e5b4f", func := "caesura/caesuralaw02.UtfForms", spec := "utfForms", inPlace := ["internal/abi.NoEscape"], named := ["caesura/utf.leads"], plainKeys := false, apart := false, laid := [("caesura/utf.leads", laid_caesura_utf_leads)], narrowed := true }
def UtfFormsUptoSaid : Prop := utfFormsUptoRow.holds Tryd.pinned (OpenSpec.upto utfFormsSpec)

/-- 'caesuralaw02.UtfOdd', WHERE WHAT IT READS IS OF BULK AT MOST 1048576: true; the input reads as it did. -/
def utfOddUptoRow : OpenClaim := { program := "ytldoffdakikaeaadoor", sum := "c6278cedf5b940a834ca7b45066d3bdb6c15615e13bf07f6beaac2f4c88e5b4f", func := "caesura/caesuralaw02.UtfOdd", spec := "utfOdd", inPlace := ["internal/abi.NoEscape"], named := ["caesura/utf.leads"], plainKeys := false, apart := false, laid := [("caesura/utf.leads", laid_caesura_utf_leads)], narrowed := true }
def UtfOddUptoSaid : Prop := utfOddUptoRow.holds Tryd.pinned (OpenSpec.upto utfOddSpec)

/-- 'caesuralaw02.UtfRows', WHERE WHAT IT READS IS OF BULK AT MOST 1048576: true; the input reads as it did. -/
def utfRowsUptoRow : OpenClaim := { program := "ytldoffdakikaeaadoor", sum := "c6278cedf5b940a834ca7b45066d3bdb6c15615e13bf07f6beaac2f4c88e5b4f", func := "caesura/caesuralaw02.UtfRows", spec := "utfRows", inPlace := ["internal/abi.NoEscape"], named := ["caesura/utf.leads"], plainKeys := false, apart := false, laid := [("caesura/utf.leads", laid_caesura_utf_leads)], narrowed := true }
def UtfRowsUptoSaid : Prop := utfRowsUptoRow.holds Tryd.pinned (OpenSpec.upto utfRowsSpec)

/-- 'caesuralaw02.UtfTells', WHERE WHAT IT READS IS OF BULK AT MOST 1048576: true; the input reads as it did. -/
def utfTellsUptoRow : OpenClaim := { program := "ytldoffdakikaeaadoor", sum := "c6278cedf5b940a834ca7b45066d3bdb6c15615e13bf07f6beaac2f4c88e5b4f", func := "caesura/caesuralaw02.UtfTells", spec := "utfTells", inPlace := ["internal/abi.NoEscape"], named := ["caesura/utf.leads"], plainKeys := false, apart := false, laid := [("caesura/utf.leads", laid_caesura_utf_leads)], narrowed := true }
def UtfTellsUptoSaid : Prop := utfTellsUptoRow.holds Tryd.pinned (OpenSpec.upto utfTellsSpec)

/-- 'caesuralaw09.SegmentAhead', WHERE WHAT IT READS IS OF BULK AT MOST 1048576: true; the input reads as it did. -/
def segmentAheadUptoRow : OpenClaim := { program := "ytldoffdakikaeaadoor", sum := "c6278cedf5b940a834ca7b45066d3bdb6c15615e13bf07f6beaac2f4c88e5b4f", func := "caesura/caesuralaw09.SegmentAhead", spec := "segmentAhead", unfollowed := true, recurses := true, named := ["caesura/utf.leads"], plainKeys := false, apart := false, laid := [("caesura/utf.leads", laid_caesura_utf_leads)], narrowed := true }
def SegmentAheadUptoSaid : Prop := segmentAheadUptoRow.holds Tryd.pinned (OpenSpec.upto segmentAheadSpec)

/-- 'caesuralaw09.SegmentIll', WHERE WHAT IT READS IS OF BULK AT MOST 1048576: true; the input reads as it did. -/
def segmentIllUptoRow : OpenClaim := { program := "ytldoffdakikaeaadoor", sum := "c6278cedf5b940a834ca7b45066d3bdb6c15615e13bf07f6beaac2f4c88e5b4f", func := "caesura/caesuralaw09.SegmentIll", spec := "segmentIll", unfollowed := true, recurses := true, named := ["caesura/utf.leads"], plainKeys := false, apart := false, laid := [("caesura/utf.leads", laid_caesura_utf_leads)], narrowed := true }
def SegmentIllUptoSaid : Prop := segmentIllUptoRow.holds Tryd.pinned (OpenSpec.upto segmentIllSpec)

/-- 'caesuralaw09.SegmentTells', WHERE WHAT IT READS IS OF BULK AT MOST 1048576: true; the input reads as it did. -/
def segmentTellsUptoRow : OpenClaim := { program := "ytldoffdakikaeaadoor", sum := "c6278cedf5b940a834ca7b45066d3bdb6c15615e13bf07f6beaac2f4c88e5b4f", func := "caesura/caesuralaw09.SegmentTells", spec := "segmentTells", unfollowed := true, recurses := true, named := ["caesura/utf.leads"], plainKeys := false, apart := false, laid := [("caesura/utf.leads", laid_caesura_utf_leads)], narrowed := true }
def SegmentTellsUptoSaid : Prop := segmentTellsUptoRow.holds Tryd.pinned (OpenSpec.upto segmentTellsSpec)

/-- 'caesuralaw09.SegmentWhole', WHERE WHAT IT READS IS OF BULK AT MOST 1048576: true; the input reads as it did. -/
def segmentWholeUptoRow : OpenClaim := { program := "ytldoffdakikaeaadoor", sum := "c6278cedf5b940a834ca7b45066d3bdb6c15615e13bf07f6beaac2f4c88e5b4f", func := "caesura/caesuralaw09.SegmentWhole", spec := "segmentWhole", unfollowed := true, recurses := true, named := ["caesura/utf.leads"], plainKeys := false, apart := false, laid := [("caesura/utf.leads", laid_caesura_utf_leads)], narrowed := true }
def SegmentWholeUptoSaid : Prop := segmentWholeUptoRow.holds Tryd.pinned (OpenSpec.upto segmentWholeSpec)

/-- 'caesuralaw10.SeekAround', WHERE WHAT IT READS IS OF BULK AT MOST 1048576: true; the input reads as it did. -/
def seekAroundUptoRow : OpenClaim := { program := "ytldoffdakikaeaadoor", sum := "c6278cedf5b940a834ca7b45066d3bdb6c15615e13bf07f6beaac2f4c88e5b4f", func := "caesura/caesuralaw10.SeekAround", spec := "seekAround", unfollowed := true, recurses := true, named := ["caesura/utf.leads"], plainKeys := false, apart := false, laid := [("caesura/utf.leads", laid_caesura_utf_leads)], narrowed := true }
def SeekAroundUptoSaid : Prop := seekAroundUptoRow.holds Tryd.pinned (OpenSpec.upto seekAroundSpec)

/-- 'caesuralaw10.SeekErrors', WHERE WHAT IT READS IS OF BULK AT MOST 1048576: true; the input reads as it did. -/
def seekErrorsUptoRow : OpenClaim := { program := "ytldoffdakikaeaadoor", sum := "c6278cedf5b940a834ca7b45066d3bdb6c15615e13bf07f6beaac2f4c88e5b4f", func := "caesura/caesuralaw10.SeekErrors", spec := "seekErrors", unfollowed := true, recurses := true, named := ["caesura/utf.leads"], plainKeys := false, apart := false, laid := [("caesura/utf.leads", laid_caesura_utf_leads)], narrowed := true }
def SeekErrorsUptoSaid : Prop := seekErrorsUptoRow.holds Tryd.pinned (OpenSpec.upto seekErrorsSpec)

/-- 'caesuralaw10.SeekGoes', WHERE WHAT IT READS IS OF BULK AT MOST 1048576: true; the input reads as it did. -/
def seekGoesUptoRow : OpenClaim := { program := "ytldoffdakikaeaadoor", sum := "c6278cedf5b940a834ca7b45066d3bdb6c15615e13bf07f6beaac2f4c88e5b4f", func := "caesura/caesuralaw10.SeekGoes", spec := "seekGoes", unfollowed := true, recurses := true, named := ["caesura/utf.leads"], plainKeys := false, apart := false, laid := [("caesura/utf.leads", laid_caesura_utf_leads)], narrowed := true }
def SeekGoesUptoSaid : Prop := seekGoesUptoRow.holds Tryd.pinned (OpenSpec.upto seekGoesSpec)

/-- 'caesuralaw10.SeekTells', WHERE WHAT IT READS IS OF BULK AT MOST 1048576: true; the input reads as it did. -/
def seekTellsUptoRow : OpenClaim := { program := "ytldoffdakikaeaadoor", sum := "c6278cedf5b940a834ca7b45066d3bdb6c15615e13bf07f6beaac2f4c88e5b4f", func := "caesura/caesuralaw10.SeekTells", spec := "seekTells", unfollowed := true, recurses := true, named := ["caesura/utf.leads"], plainKeys := false, apart := false, laid := [("caesura/utf.leads", laid_caesura_utf_leads)], narrowed := true }
def SeekTellsUptoSaid : Prop := seekTellsUptoRow.holds Tryd.pinned (OpenSpec.upto seekTellsSpec)

/-- 'caesuralaw10.SeekWithin', WHERE WHAT IT READS IS OF BULK AT MOST 1048576: true; the input reads as it did. -/
def seekWithinUptoRow : OpenClaim := { program := "ytldoffdakikaeaadoor", sum := "c6278cedf5b940a834ca7b45066d3bdb6c15615e13bf07f6beaac2f4c88e5b4f", func := "caesura/caesuralaw10.SeekWithin", spec := "seekWithin", unfollowed := true, recurses := true, named := ["caesura/utf.leads"], plainKeys := false, apart := false, laid := [("caesura/utf.leads", laid_caesura_utf_leads)], narrowed := true }
def SeekWithinUptoSaid : Prop := seekWithinUptoRow.holds Tryd.pinned (OpenSpec.upto seekWithinSpec)

end Rows
end Go.Proofs.YtldoffdakikaeaaDoor
