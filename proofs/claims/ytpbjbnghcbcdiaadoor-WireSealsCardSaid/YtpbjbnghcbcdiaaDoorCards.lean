/-
  DERIVED. GIVEN WITH THE SEED: THE CARDS: each row of YtpbjbnghcbcdiaaDoorRows.lean that lists a variable, with what it lists TIED to the program's text (the seventh form; the later family's looks); each row that meets fmt, with fmt's text TOLD by the authors' own Lean function (tested against real Go, not proved from fmt's source: count such statements apart). THE CARD IS WHAT COUNTS. Prove the row's statement (the work); the ties are given (YtpbjbnghcbcdiaaDoorTie.lean); close each card by the builder's one call (the guide's Derived/Test/ToyasCard.lean, 'card_holds'). Laid BY PROGRAM, IN A SANDBOX (cutbox-door.mjs). By AI agents, Wed Nov 11 2026. No macro, syntax, notation, axiom, sorry.
-/
import Derived.Test.YtpbjbnghcbcdiaaDoorRows
import GoSem.ClaimSeven
namespace Go.Proofs.YtpbjbnghcbcdiaaDoor
namespace Rows

/-- THE TIED CARD OF 'tidingslaw03.WireSeals'. -/
def wireSealsCard : Claim7 := { stood := { row := wireSealsRow, standIns := [], harness := (true, "e2816d4c77ebd2db646aa2a12a9aeb28aeb12d5f87d13012d826cc8640d71b90"), looks := true }, kinds := [], alts := [], laidByText := true, laidKinds := [.handle], laidTests := true, laidLooks := .later }
def WireSealsCardSaid : Prop := Claim7.holds Tryd.pinned (.plain (OpenSpec.ofChange wireSealsSpec)) wireSealsCard

/-- THE TIED CARD OF 'tidingslaw03.WireBack'. -/
def wireBackCard : Claim7 := { stood := { row := wireBackRow, standIns := [], harness := (true, "e2816d4c77ebd2db646aa2a12a9aeb28aeb12d5f87d13012d826cc8640d71b90"), looks := true }, kinds := [], alts := [], laidByText := true, laidKinds := [.handle], laidTests := true, laidLooks := .later }
def WireBackCardSaid : Prop := Claim7.holds Tryd.pinned (.plain (OpenSpec.ofChange wireBackSpec)) wireBackCard

/-- THE TIED CARD OF 'tidingslaw04.NoteWrites'. -/
def noteWritesCard : Claim7 := { stood := { row := noteWritesRow, standIns := [], harness := (true, "e2816d4c77ebd2db646aa2a12a9aeb28aeb12d5f87d13012d826cc8640d71b90"), looks := true }, kinds := [], alts := [], laidByText := true, laidKinds := [.handle], laidTests := true, laidLooks := .later }
def NoteWritesCardSaid : Prop := Claim7.holds Tryd.pinned (.plain (OpenSpec.ofChange noteWritesSpec)) noteWritesCard

/-- THE TIED CARD OF 'tidingslaw04.NoteReads'. -/
def noteReadsCard : Claim7 := { stood := { row := noteReadsRow, standIns := [], harness := (true, "e2816d4c77ebd2db646aa2a12a9aeb28aeb12d5f87d13012d826cc8640d71b90"), looks := true }, kinds := [], alts := [], laidByText := true, laidKinds := [.handle], laidTests := true, laidLooks := .later }
def NoteReadsCardSaid : Prop := Claim7.holds Tryd.pinned (.plain (OpenSpec.ofChange noteReadsSpec)) noteReadsCard

/-- THE TIED CARD OF 'tidingslaw04.NoteParts'. -/
def notePartsCard : Claim7 := { stood := { row := notePartsRow, standIns := [], harness := (true, "e2816d4c77ebd2db646aa2a12a9aeb28aeb12d5f87d13012d826cc8640d71b90"), looks := true }, kinds := [], alts := [], laidByText := true, laidKinds := [.handle], laidTests := true, laidLooks := .later }
def NotePartsCardSaid : Prop := Claim7.holds Tryd.pinned (.plain (OpenSpec.ofChange notePartsSpec)) notePartsCard

/-- THE SECOND FORM's CARD OF 'tidingslaw03.WireSeals'. -/
def wireSealsUptoCard : Claim7 := { stood := { row := wireSealsUptoRow, standIns := [], harness := (true, "e2816d4c77ebd2db646aa2a12a9aeb28aeb12d5f87d13012d826cc8640d71b90"), looks := true }, kinds := [], alts := [], laidByText := true, laidKinds := [.handle], laidTests := true, laidLooks := .later }
def WireSealsUptoCardSaid : Prop := Claim7.holds Tryd.pinned (.plain (OpenSpec.upto wireSealsSpec)) wireSealsUptoCard

/-- THE SECOND FORM's CARD OF 'tidingslaw03.WireBack'. -/
def wireBackUptoCard : Claim7 := { stood := { row := wireBackUptoRow, standIns := [], harness := (true, "e2816d4c77ebd2db646aa2a12a9aeb28aeb12d5f87d13012d826cc8640d71b90"), looks := true }, kinds := [], alts := [], laidByText := true, laidKinds := [.handle], laidTests := true, laidLooks := .later }
def WireBackUptoCardSaid : Prop := Claim7.holds Tryd.pinned (.plain (OpenSpec.upto wireBackSpec)) wireBackUptoCard

/-- THE SECOND FORM's CARD OF 'tidingslaw04.NoteWrites'. -/
def noteWritesUptoCard : Claim7 := { stood := { row := noteWritesUptoRow, standIns := [], harness := (true, "e2816d4c77ebd2db646aa2a12a9aeb28aeb12d5f87d13012d826cc8640d71b90"), looks := true }, kinds := [], alts := [], laidByText := true, laidKinds := [.handle], laidTests := true, laidLooks := .later }
def NoteWritesUptoCardSaid : Prop := Claim7.holds Tryd.pinned (.plain (OpenSpec.upto noteWritesSpec)) noteWritesUptoCard

/-- THE SECOND FORM's CARD OF 'tidingslaw04.NoteReads'. -/
def noteReadsUptoCard : Claim7 := { stood := { row := noteReadsUptoRow, standIns := [], harness := (true, "e2816d4c77ebd2db646aa2a12a9aeb28aeb12d5f87d13012d826cc8640d71b90"), looks := true }, kinds := [], alts := [], laidByText := true, laidKinds := [.handle], laidTests := true, laidLooks := .later }
def NoteReadsUptoCardSaid : Prop := Claim7.holds Tryd.pinned (.plain (OpenSpec.upto noteReadsSpec)) noteReadsUptoCard

/-- THE SECOND FORM's CARD OF 'tidingslaw04.NoteParts'. -/
def notePartsUptoCard : Claim7 := { stood := { row := notePartsUptoRow, standIns := [], harness := (true, "e2816d4c77ebd2db646aa2a12a9aeb28aeb12d5f87d13012d826cc8640d71b90"), looks := true }, kinds := [], alts := [], laidByText := true, laidKinds := [.handle], laidTests := true, laidLooks := .later }
def NotePartsUptoCardSaid : Prop := Claim7.holds Tryd.pinned (.plain (OpenSpec.upto notePartsSpec)) notePartsUptoCard
end Rows
end Go.Proofs.YtpbjbnghcbcdiaaDoor
