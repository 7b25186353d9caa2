/-
  DERIVED. GIVEN WITH THE SEED: THE CARDS: each row of YtpfmenepgejgdaaDoorRows.lean that lists a variable, with what it lists TIED to the program's text (the seventh form; the later family's looks); each row that meets fmt, with fmt's text TOLD by the authors' own Lean function (tested against real Go, not proved from fmt's source: count such statements apart). THE CARD IS WHAT COUNTS. Prove the row's statement (the work); the ties are given (YtpfmenepgejgdaaDoorTie.lean); close each card by the builder's one call (the guide's Derived/Test/ToyasCard.lean, 'card_holds'). Laid BY PROGRAM, IN A SANDBOX (cutbox-door.mjs). By AI agents, Wed Nov 11 2026. No macro, syntax, notation, axiom, sorry.
-/
import Derived.Test.YtpfmenepgejgdaaDoorRows
import GoSem.ClaimSeven
namespace Go.Proofs.YtpfmenepgejgdaaDoor
namespace Rows

/-- THE TIED CARD OF 'tallymanlaw8.TreeMoves'. -/
def treeMovesCard : Claim7 := { stood := { row := treeMovesRow, standIns := [], harness := (true, "412bb2695a7f31e3772e88dafe872685a21915f38108ff2f1f169f2bd2d780b5"), looks := false }, kinds := [], alts := [], laidByText := true, laidKinds := [.data, .pinned], laidTests := true, laidLooks := .later }
def TreeMovesCardSaid : Prop := Claim7.holds Tryd.pinned (.plain (OpenSpec.ofChange treeMovesSpec)) treeMovesCard

/-- THE TIED CARD OF 'tallymanlaw8.TreeSays'. -/
def treeSaysCard : Claim7 := { stood := { row := treeSaysRow, standIns := [], harness := (true, "412bb2695a7f31e3772e88dafe872685a21915f38108ff2f1f169f2bd2d780b5"), looks := false }, kinds := [], alts := [], laidByText := true, laidKinds := [.data, .pinned], laidTests := true, laidLooks := .later }
def TreeSaysCardSaid : Prop := Claim7.holds Tryd.pinned (.plain (OpenSpec.ofChange treeSaysSpec)) treeSaysCard

/-- THE TIED CARD OF 'tallymanlaw8.TreeKnown'. -/
def treeKnownCard : Claim7 := { stood := { row := treeKnownRow, standIns := [], harness := (true, "412bb2695a7f31e3772e88dafe872685a21915f38108ff2f1f169f2bd2d780b5"), looks := false }, kinds := [], alts := [], laidByText := true, laidKinds := [.data, .pinned], laidTests := true, laidLooks := .later }
def TreeKnownCardSaid : Prop := Claim7.holds Tryd.pinned (.plain (OpenSpec.ofChange treeKnownSpec)) treeKnownCard

/-- THE TIED CARD OF 'tallymanlaw9.DiskQuota'. -/
def diskQuotaCard : Claim7 := { stood := { row := diskQuotaRow, standIns := [], harness := (true, "412bb2695a7f31e3772e88dafe872685a21915f38108ff2f1f169f2bd2d780b5"), looks := false }, kinds := [], alts := [], laidByText := true, laidKinds := [.data, .pinned], laidTests := true, laidLooks := .later }
def DiskQuotaCardSaid : Prop := Claim7.holds Tryd.pinned (.plain (OpenSpec.ofChange diskQuotaSpec)) diskQuotaCard

/-- THE TIED CARD OF 'tallymanlaw9.DiskKnown'. -/
def diskKnownCard : Claim7 := { stood := { row := diskKnownRow, standIns := [], harness := (true, "412bb2695a7f31e3772e88dafe872685a21915f38108ff2f1f169f2bd2d780b5"), looks := false }, kinds := [], alts := [], laidByText := true, laidKinds := [.data, .pinned], laidTests := true, laidLooks := .later }
def DiskKnownCardSaid : Prop := Claim7.holds Tryd.pinned (.plain (OpenSpec.ofChange diskKnownSpec)) diskKnownCard

/-- THE SECOND FORM's CARD OF 'tallymanlaw8.TreeMoves'. -/
def treeMovesUptoCard : Claim7 := { stood := { row := treeMovesUptoRow, standIns := [], harness := (true, "412bb2695a7f31e3772e88dafe872685a21915f38108ff2f1f169f2bd2d780b5"), looks := false }, kinds := [], alts := [], laidByText := true, laidKinds := [.data, .pinned], laidTests := true, laidLooks := .later }
def TreeMovesUptoCardSaid : Prop := Claim7.holds Tryd.pinned (.plain (OpenSpec.upto treeMovesSpec)) treeMovesUptoCard

/-- THE SECOND FORM's CARD OF 'tallymanlaw8.TreeSays'. -/
def treeSaysUptoCard : Claim7 := { stood := { row := treeSaysUptoRow, standIns := [], harness := (true, "412bb2695a7f31e3772e88dafe872685a21915f38108ff2f1f169f2bd2d780b5"), looks := false }, kinds := [], alts := [], laidByText := true, laidKinds := [.data, .pinned], laidTests := true, laidLooks := .later }
def TreeSaysUptoCardSaid : Prop := Claim7.holds Tryd.pinned (.plain (OpenSpec.upto treeSaysSpec)) treeSaysUptoCard

/-- THE SECOND FORM's CARD OF 'tallymanlaw8.TreeKnown'. -/
def treeKnownUptoCard : Claim7 := { stood := { row := treeKnownUptoRow, standIns := [], harness := (true, "412bb2695a7f31e3772e88dafe872685a21915f38108ff2f1f169f2bd2d780b5"), looks := false }, kinds := [], alts := [], laidByText := true, laidKinds := [.data, .pinned], laidTests := true, laidLooks := .later }
def TreeKnownUptoCardSaid : Prop := Claim7.holds Tryd.pinned (.plain (OpenSpec.upto treeKnownSpec)) treeKnownUptoCard

/-- THE SECOND FORM's CARD OF 'tallymanlaw9.DiskQuota'. -/
def diskQuotaUptoCard : Claim7 := { stood := { row := diskQuotaUptoRow, standIns := [], harness := (true, "412bb2695a7f31e3772e88dafe872685a21915f38108ff2f1f169f2bd2d780b5"), looks := false }, kinds := [], alts := [], laidByText := true, laidKinds := [.data, .pinned], laidTests := true, laidLooks := .later }
def DiskQuotaUptoCardSaid : Prop := Claim7.holds Tryd.pinned (.plain (OpenSpec.upto diskQuotaSpec)) diskQuotaUptoCard

/-- THE SECOND FORM's CARD OF 'tallymanlaw9.DiskKnown'. -/
def diskKnownUptoCard : Claim7 := { stood := { row := diskKnownUptoRow, standIns := [], harness := (true, "412bb2695a7f31e3772e88dafe872685a21915f38108ff2f1f169f2bd2d780b5"), looks := false }, kinds := [], alts := [], laidByText := true, laidKinds := [.data, .pinned], laidTests := true, laidLooks := .later }
def DiskKnownUptoCardSaid : Prop := Claim7.holds Tryd.pinned (.plain (OpenSpec.upto diskKnownSpec)) diskKnownUptoCard
end Rows
end Go.Proofs.YtpfmenepgejgdaaDoor
