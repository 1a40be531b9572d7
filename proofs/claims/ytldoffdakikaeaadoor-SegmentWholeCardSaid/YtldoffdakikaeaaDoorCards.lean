/-
  DERIVED. GIVEN WITH THE SEED: THE CARDS: each row of YtldoffdakikaeaaDoorRows.lean that lists a variable, with what it lists TIED to the program's text (the seventh form; the later family's looks); each row that meets fmt, with fmt's text TOLD by the authors' own Lean function (tested against real Go, not proved from fmt's source: count such statements apart). THE CARD IS WHAT COUNTS. Prove the row's statement (the work); the ties are given (YtldoffdakikaeaaDoorTie.lean); close each card by the builder's one call (the guide's Derived/Test/ToyasCard.lean, 'card_holds'). Laid BY PROGRAM, IN A SANDBOX (cutbox-door.mjs). By AI agents, Wed Nov 11 2026. No macro, syntax, notation, axiom, sorry.
-/
import Derived.Test.YtldoffdakikaeaaDoorRows
import GoSem.ClaimSeven
namespace Go.Proofs.YtldoffdakikaeaaDoor
namespace Rows

/-- THE TIED CARD OF 'caesuralaw02.UtfBack'. -/
def utfBackCard : Claim7 := { stood := { row := utfBackRow, standIns := [], harness := (true, "450ba948ecbf3a109228e2ad668fca588cf0f085637ca94c1d866a357d2a8a3b"), looks := false }, kinds := [], alts := [], laidByText := true, laidKinds := [.data], laidTests := true, laidLooks := .later }
def UtfBackCardSaid : Prop := Claim7.holds Tryd.pinned (.plain (OpenSpec.ofChange utfBackSpec)) utfBackCard

/-- THE TIED CARD OF 'caesuralaw02.UtfForms'. -/
def utfFormsCard : Claim7 := { stood := { row := utfFormsRow, standIns := [], harness := (true, "450ba948ecbf3a109228e2ad668fca588cf0f085637ca94c1d866a357d2a8a3b"), looks := false }, kinds := [], alts := [], laidByText := true, laidKinds := [.data], laidTests := true, laidLooks := .later }
def UtfFormsCardSaid : Prop := Claim7.holds Tryd.pinned (.plain (OpenSpec.ofChange utfFormsSpec)) utfFormsCard

/-- THE TIED CARD OF 'caesuralaw02.UtfOdd'. -/
def utfOddCard : Claim7 := { stood := { row := utfOddRow, standIns := [], harness := (true, "450ba948ecbf3a109228e2ad668fca588cf0f085637ca94c1d866a357d2a8a3b"), looks := false }, kinds := [], alts := [], laidByText := true, laidKinds := [.data], laidTests := true, laidLooks := .later }
def UtfOddCardSaid : Prop := Claim7.holds Tryd.pinned (.plain (OpenSpec.ofChange utfOddSpec)) utfOddCard

/-- THE TIED CARD OF 'caesuralaw02.UtfRows'. -/
def utfRowsCard : Claim7 := { stood := { row := utfRowsRow, standIns := [], harness := (true, "450ba948ecbf3a109228e2ad668fca588cf0f085637ca94c1d866a357d2a8a3b"), looks := false }, kinds := [], alts := [], laidByText := true, laidKinds := [.data], laidTests := true, laidLooks := .later }
def UtfRowsCardSaid : Prop := Claim7.holds Tryd.pinned (.plain (OpenSpec.ofChange utfRowsSpec)) utfRowsCard

/-- THE TIED CARD OF 'caesuralaw02.UtfTells'. -/
def utfTellsCard : Claim7 := { stood := { row := utfTellsRow, standIns := [], harness := (true, "450ba948ecbf3a109228e2ad668fca588cf0f085637ca94c1d866a357d2a8a3b"), looks := false }, kinds := [], alts := [], laidByText := true, laidKinds := [.data], laidTests := true, laidLooks := .later }
def UtfTellsCardSaid : Prop := Claim7.holds Tryd.pinned (.plain (OpenSpec.ofChange utfTellsSpec)) utfTellsCard

/-- THE TIED CARD OF 'caesuralaw09.SegmentAhead'. -/
def segmentAheadCard : Claim7 := { stood := { row := segmentAheadRow, standIns := [], harness := (true, "450ba948ecbf3a109228e2ad668fca588cf0f085637ca94c1d866a357d2a8a3b"), looks := false }, kinds := [], alts := [], laidByText := true, laidKinds := [.data], laidTests := true, laidLooks := .later }
def SegmentAheadCardSaid : Prop := Claim7.holds Tryd.pinned (.plain (OpenSpec.ofChange segmentAheadSpec)) segmentAheadCard

/-- THE TIED CARD OF 'caesuralaw09.SegmentIll'. -/
def segmentIllCard : Claim7 := { stood := { row := segmentIllRow, standIns := [], harness := (true, "450ba948ecbf3a109228e2ad668fca588cf0f085637ca94c1d866a357d2a8a3b"), looks := false }, kinds := [], alts := [], laidByText := true, laidKinds := [.data], laidTests := true, laidLooks := .later }
def SegmentIllCardSaid : Prop := Claim7.holds Tryd.pinned (.plain (OpenSpec.ofChange segmentIllSpec)) segmentIllCard

/-- THE TIED CARD OF 'caesuralaw09.SegmentTells'. -/
def segmentTellsCard : Claim7 := { stood := { row := segmentTellsRow, standIns := [], harness := (true, "450ba948ecbf3a109228e2ad668fca588cf0f085637ca94c1d866a357d2a8a3b"), looks := false }, kinds := [], alts := [], laidByText := true, laidKinds := [.data], laidTests := true, laidLooks := .later }
def SegmentTellsCardSaid : Prop := Claim7.holds Tryd.pinned (.plain (OpenSpec.ofChange segmentTellsSpec)) segmentTellsCard

/-- THE TIED CARD OF 'caesuralaw09.SegmentWhole'. -/
def segmentWholeCard : Claim7 := { stood := { row := segmentWholeRow, standIns := [], harness := (true, "450ba948ecbf3a109228e2ad668fca588cf0f085637ca94c1d866a357d2a8a3b"), looks := false }, kinds := [], alts := [], laidByText := true, laidKinds := [.data], laidTests := true, laidLooks := .later }
def SegmentWholeCardSaid : Prop := Claim7.holds Tryd.pinned (.plain (OpenSpec.ofChange segmentWholeSpec)) segmentWholeCard

/-- THE TIED CARD OF 'caesuralaw10.SeekAround'. -/
def seekAroundCard : Claim7 := { stood := { row := seekAroundRow, standIns := [], harness := (true, "450ba948ecbf3a109228e2ad668fca588cf0f085637ca94c1d866a357d2a8a3b"), looks := false }, kinds := [], alts := [], laidByText := true, laidKinds := [.data], laidTests := true, laidLooks := .later }
def SeekAroundCardSaid : Prop := Claim7.holds Tryd.pinned (.plain (OpenSpec.ofChange seekAroundSpec)) seekAroundCard

/-- THE TIED CARD OF 'caesuralaw10.SeekErrors'. -/
def seekErrorsCard : Claim7 := { stood := { row := seekErrorsRow, standIns := [], harness := (true, "450ba948ecbf3a109228e2ad668fca588cf0f085637ca94c1d866a357d2a8a3b"), looks := false }, kinds := [], alts := [], laidByText := true, laidKinds := [.data], laidTests := true, laidLooks := .later }
def SeekErrorsCardSaid : Prop := Claim7.holds Tryd.pinned (.plain (OpenSpec.ofChange seekErrorsSpec)) seekErrorsCard

/-- THE TIED CARD OF 'caesuralaw10.SeekGoes'. -/
def seekGoesCard : Claim7 := { stood := { row := seekGoesRow, standIns := [], harness := (true, "450ba948ecbf3a109228e2ad668fca588cf0f085637ca94c1d866a357d2a8a3b"), looks := false }, kinds := [], alts := [], laidByText := true, laidKinds := [.data], laidTests := true, laidLooks := .later }
def SeekGoesCardSaid : Prop := Claim7.holds Tryd.pinned (.plain (OpenSpec.ofChange seekGoesSpec)) seekGoesCard

/-- THE TIED CARD OF 'caesuralaw10.SeekTells'. -/
def seekTellsCard : Claim7 := { stood := { row := seekTellsRow, standIns := [], harness := (true, "450ba948ecbf3a109228e2ad668fca588cf0f085637ca94c1d866a357d2a8a3b"), looks := false }, kinds := [], alts := [], laidByText := true, laidKinds := [.data], laidTests := true, laidLooks := .later }
def SeekTellsCardSaid : Prop := Claim7.holds Tryd.pinned (.plain (OpenSpec.ofChange seekTellsSpec)) seekTellsCard

/-- THE TIED CARD OF 'caesuralaw10.SeekWithin'. -/
def seekWithinCard : Claim7 := { stood := { row := seekWithinRow, standIns := [], harness := (true, "450ba948ecbf3a109228e2ad668fca588cf0f085637ca94c1d866a357d2a8a3b"), looks := false }, kinds := [], alts := [], laidByText := true, laidKinds := [.data], laidTests := true, laidLooks := .later }
def SeekWithinCardSaid : Prop := Claim7.holds Tryd.pinned (.plain (OpenSpec.ofChange seekWithinSpec)) seekWithinCard

/-- THE SECOND FORM's CARD OF 'caesuralaw02.UtfBack'. -/
def utfBackUptoCard : Claim7 := { stood := { row := utfBackUptoRow, standIns := [], harness := (true, "450ba948ecbf3a109228e2ad668fca588cf0f085637ca94c1d866a357d2a8a3b"), looks := false }, kinds := [], alts := [], laidByText := true, laidKinds := [.data], laidTests := true, laidLooks := .later }
def UtfBackUptoCardSaid : Prop := Claim7.holds Tryd.pinned (.plain (OpenSpec.upto utfBackSpec)) utfBackUptoCard

/-- THE SECOND FORM's CARD OF 'caesuralaw02.UtfForms'. -/
def utfFormsUptoCard : Claim7 := { stood := { row := utfFormsUptoRow, standIns := [], harness := (true, "450ba948ecbf3a109228e2ad668fca588cf0f085637ca94c1d866a357d2a8a3b"), looks := false }, kinds := [], alts := [], laidByText := true, laidKinds := [.data], laidTests := true, laidLooks := .later }
def UtfFormsUptoCardSaid : Prop := Claim7.holds Tryd.pinned (.plain (OpenSpec.upto utfFormsSpec)) utfFormsUptoCard

/-- THE SECOND FORM's CARD OF 'caesuralaw02.UtfOdd'. -/
def utfOddUptoCard : Claim7 := { stood := { row := utfOddUptoRow, standIns := [], harness := (true, "450ba948ecbf3a109228e2ad668fca588cf0f085637ca94c1d866a357d2a8a3b"), looks := false }, kinds := [], alts := [], laidByText := true, laidKinds := [.data], laidTests := true, laidLooks := .later }
def UtfOddUptoCardSaid : Prop := Claim7.holds Tryd.pinned (.plain (OpenSpec.upto utfOddSpec)) utfOddUptoCard

/-- THE SECOND FORM's CARD OF 'caesuralaw02.UtfRows'. -/
def utfRowsUptoCard : Claim7 := { stood := { row := utfRowsUptoRow, standIns := [], harness := (true, "450ba948ecbf3a109228e2ad668fca588cf0f085637ca94c1d866a357d2a8a3b"), looks := false }, kinds := [], alts := [], laidByText := true, laidKinds := [.data], laidTests := true, laidLooks := .later }
def UtfRowsUptoCardSaid : Prop := Claim7.holds Tryd.pinned (.plain (OpenSpec.upto utfRowsSpec)) utfRowsUptoCard

/-- THE SECOND FORM's CARD OF 'caesuralaw02.UtfTells'. -/
def utfTellsUptoCard : Claim7 := { stood := { row := utfTellsUptoRow, standIns := [], harness := (true, "450ba948ecbf3a109228e2ad668fca588cf0f085637ca94c1d866a357d2a8a3b"), looks := false }, kinds := [], alts := [], laidByText := true, laidKinds := [.data], laidTests := true, laidLooks := .later }
def UtfTellsUptoCardSaid : Prop := Claim7.holds Tryd.pinned (.plain (OpenSpec.upto utfTellsSpec)) utfTellsUptoCard

/-- THE SECOND FORM's CARD OF 'caesuralaw09.SegmentAhead'. -/
def segmentAheadUptoCard : Claim7 := { stood := { row := segmentAheadUptoRow, standIns := [], harness := (true, "450ba948ecbf3a109228e2ad668fca588cf0f085637ca94c1d866a357d2a8a3b"), looks := false }, kinds := [], alts := [], laidByText := true, laidKinds := [.data], laidTests := true, laidLooks := .later }
def SegmentAheadUptoCardSaid : Prop := Claim7.holds Tryd.pinned (.plain (OpenSpec.upto segmentAheadSpec)) segmentAheadUptoCard

/-- THE SECOND FORM's CARD OF 'caesuralaw09.SegmentIll'. -/
def segmentIllUptoCard : Claim7 := { stood := { row := segmentIllUptoRow, standIns := [], harness := (true, "450ba948ecbf3a109228e2ad668fca588cf0f085637ca94c1d866a357d2a8a3b"), looks := false }, kinds := [], alts := [], laidByText := true, laidKinds := [.data], laidTests := true, laidLooks := .later }
def SegmentIllUptoCardSaid : Prop := Claim7.holds Tryd.pinned (.plain (OpenSpec.upto segmentIllSpec)) segmentIllUptoCard

/-- THE SECOND FORM's CARD OF 'caesuralaw09.SegmentTells'. -/
def segmentTellsUptoCard : Claim7 := { stood := { row := segmentTellsUptoRow, standIns := [], harness := (true, "450ba948ecbf3a109228e2ad668fca588cf0f085637ca94c1d866a357d2a8a3b"), looks := false }, kinds := [], alts := [], laidByText := true, laidKinds := [.data], laidTests := true, laidLooks := .later }
def SegmentTellsUptoCardSaid : Prop := Claim7.holds Tryd.pinned (.plain (OpenSpec.upto segmentTellsSpec)) segmentTellsUptoCard

/-- THE SECOND FORM's CARD OF 'caesuralaw09.SegmentWhole'. -/
def segmentWholeUptoCard : Claim7 := { stood := { row := segmentWholeUptoRow, standIns := [], harness := (true, "450ba948ecbf3a109228e2ad668fca588cf0f085637ca94c1d866a357d2a8a3b"), looks := false }, kinds := [], alts := [], laidByText := true, laidKinds := [.data], laidTests := true, laidLooks := .later }
def SegmentWholeUptoCardSaid : Prop := Claim7.holds Tryd.pinned (.plain (OpenSpec.upto segmentWholeSpec)) segmentWholeUptoCard

/-- THE SECOND FORM's CARD OF 'caesuralaw10.SeekAround'. -/
def seekAroundUptoCard : Claim7 := { stood := { row := seekAroundUptoRow, standIns := [], harness := (true, "450ba948ecbf3a109228e2ad668fca588cf0f085637ca94c1d866a357d2a8a3b"), looks := false }, kinds := [], alts := [], laidByText := true, laidKinds := [.data], laidTests := true, laidLooks := .later }
def SeekAroundUptoCardSaid : Prop := Claim7.holds Tryd.pinned (.plain (OpenSpec.upto seekAroundSpec)) seekAroundUptoCard

/-- THE SECOND FORM's CARD OF 'caesuralaw10.SeekErrors'. -/
def seekErrorsUptoCard : Claim7 := { stood := { row := seekErrorsUptoRow, standIns := [], harness := (true, "450ba948ecbf3a109228e2ad668fca588cf0f085637ca94c1d866a357d2a8a3b"), looks := false }, kinds := [], alts := [], laidByText := true, laidKinds := [.data], laidTests := true, laidLooks := .later }
def SeekErrorsUptoCardSaid : Prop := Claim7.holds Tryd.pinned (.plain (OpenSpec.upto seekErrorsSpec)) seekErrorsUptoCard

/-- THE SECOND FORM's CARD OF 'caesuralaw10.SeekGoes'. -/
def seekGoesUptoCard : Claim7 := { stood := { row := seekGoesUptoRow, standIns := [], harness := (true, "450ba948ecbf3a109228e2ad668fca588cf0f085637ca94c1d866a357d2a8a3b"), looks := false }, kinds := [], alts := [], laidByText := true, laidKinds := [.data], laidTests := true, laidLooks := .later }
def SeekGoesUptoCardSaid : Prop := Claim7.holds Tryd.pinned (.plain (OpenSpec.upto seekGoesSpec)) seekGoesUptoCard

/-- THE SECOND FORM's CARD OF 'caesuralaw10.SeekTells'. -/
def seekTellsUptoCard : Claim7 := { stood := { row := seekTellsUptoRow, standIns := [], harness := (true, "450ba948ecbf3a109228e2ad668fca588cf0f085637ca94c1d866a357d2a8a3b"), looks := false }, kinds := [], alts := [], laidByText := true, laidKinds := [.data], laidTests := true, laidLooks := .later }
def SeekTellsUptoCardSaid : Prop := Claim7.holds Tryd.pinned (.plain (OpenSpec.upto seekTellsSpec)) seekTellsUptoCard

/-- THE SECOND FORM's CARD OF 'caesuralaw10.SeekWithin'. -/
def seekWithinUptoCard : Claim7 := { stood := { row := seekWithinUptoRow, standIns := [], harness := (true, "450ba948ecbf3a109228e2ad668fca588cf0f085637ca94c1d866a357d2a8a3b"), looks := false }, kinds := [], alts := [], laidByText := true, laidKinds := [.data], laidTests := true, laidLooks := .later }
def SeekWithinUptoCardSaid : Prop := Claim7.holds Tryd.pinned (.plain (OpenSpec.upto seekWithinSpec)) seekWithinUptoCard
end Rows
end Go.Proofs.YtldoffdakikaeaaDoor
