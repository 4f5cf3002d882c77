/-
  DERIVED. GIVEN WITH THE SEED: THE CARDS: each row of YtaccppchhljnkaaDoorRows.lean that lists a variable, with what it lists TIED to the program's text (the seventh form; the later family's looks); each row that meets fmt, with fmt's text TOLD by the authors' own Lean function (tested against real Go, not proved from fmt's source: count such statements apart). THE CARD IS WHAT COUNTS. Prove the row's statement (the work); the ties are given (YtaccppchhljnkaaDoorTie.lean); close each card by the builder's one call (the guide's Derived/Test/ToyasCard.lean, 'card_holds'). Laid BY PROGRAM, IN A SANDBOX (cutbox-door.mjs). By AI agents, Wed Nov 11 2026. No macro, syntax, notation, axiom, sorry.
-/
import Derived.Test.YtaccppchhljnkaaDoorRows
import GoSem.ClaimSeven
namespace Go.Proofs.YtaccppchhljnkaaDoor
namespace Rows

/-- THE TIED CARD OF 'punchcutlaw23.ViewShades'. -/
def viewShadesCard : Claim7 := { stood := { row := viewShadesRow, standIns := [], harness := (true, "9f61736623f24a406a096889e4604567b643a8a2236ce8bbd74d46cd243b27bf"), looks := false }, kinds := [], alts := [], laidByText := true, laidKinds := [.data, .data, .data], laidTests := true, laidLooks := .later }
def ViewShadesCardSaid : Prop := Claim7.holds Tryd.pinned (.plain (OpenSpec.ofChange viewShadesSpec)) viewShadesCard

/-- THE TIED CARD OF 'punchcutlaw23.ViewTable'. -/
def viewTableCard : Claim7 := { stood := { row := viewTableRow, standIns := [], harness := (true, "9f61736623f24a406a096889e4604567b643a8a2236ce8bbd74d46cd243b27bf"), looks := false }, kinds := [], alts := [], laidByText := true, laidKinds := [.data, .data, .data], laidTests := true, laidLooks := .later }
def ViewTableCardSaid : Prop := Claim7.holds Tryd.pinned (.plain (OpenSpec.ofChange viewTableSpec)) viewTableCard

/-- THE TIED CARD OF 'punchcutlaw23.ViewSize'. -/
def viewSizeCard : Claim7 := { stood := { row := viewSizeRow, standIns := [], harness := (true, "9f61736623f24a406a096889e4604567b643a8a2236ce8bbd74d46cd243b27bf"), looks := false }, kinds := [], alts := [], laidByText := true, laidKinds := [.data, .data, .data], laidTests := true, laidLooks := .later }
def ViewSizeCardSaid : Prop := Claim7.holds Tryd.pinned (.plain (OpenSpec.ofChange viewSizeSpec)) viewSizeCard

/-- THE TIED CARD OF 'punchcutlaw23.ViewDark'. -/
def viewDarkCard : Claim7 := { stood := { row := viewDarkRow, standIns := [], harness := (true, "9f61736623f24a406a096889e4604567b643a8a2236ce8bbd74d46cd243b27bf"), looks := false }, kinds := [], alts := [], laidByText := true, laidKinds := [.data, .data, .data], laidTests := true, laidLooks := .later }
def ViewDarkCardSaid : Prop := Claim7.holds Tryd.pinned (.plain (OpenSpec.ofChange viewDarkSpec)) viewDarkCard

/-- THE TIED CARD OF 'punchcutlaw23.ViewKeys'. -/
def viewKeysCard : Claim7 := { stood := { row := viewKeysRow, standIns := [], harness := (true, "9f61736623f24a406a096889e4604567b643a8a2236ce8bbd74d46cd243b27bf"), looks := false }, kinds := [], alts := [], laidByText := true, laidKinds := [.data, .data, .data], laidTests := true, laidLooks := .later }
def ViewKeysCardSaid : Prop := Claim7.holds Tryd.pinned (.plain (OpenSpec.ofChange viewKeysSpec)) viewKeysCard

/-- THE TIED CARD OF 'punchcutlaw23.ViewEmpty'. -/
def viewEmptyCard : Claim7 := { stood := { row := viewEmptyRow, standIns := [], harness := (true, "9f61736623f24a406a096889e4604567b643a8a2236ce8bbd74d46cd243b27bf"), looks := false }, kinds := [], alts := [], laidByText := true, laidKinds := [.data, .data, .data], laidTests := true, laidLooks := .later }
def ViewEmptyCardSaid : Prop := Claim7.holds Tryd.pinned (.plain (OpenSpec.ofChange viewEmptySpec)) viewEmptyCard

/-- THE SECOND FORM's CARD OF 'punchcutlaw23.ViewShades'. -/
def viewShadesUptoCard : Claim7 := { stood := { row := viewShadesUptoRow, standIns := [], harness := (true, "9f61736623f24a406a096889e4604567b643a8a2236ce8bbd74d46cd243b27bf"), looks := false }, kinds := [], alts := [], laidByText := true, laidKinds := [.data, .data, .data], laidTests := true, laidLooks := .later }
def ViewShadesUptoCardSaid : Prop := Claim7.holds Tryd.pinned (.plain (OpenSpec.upto viewShadesSpec)) viewShadesUptoCard

/-- THE SECOND FORM's CARD OF 'punchcutlaw23.ViewTable'. -/
def viewTableUptoCard : Claim7 := { stood := { row := viewTableUptoRow, standIns := [], harness := (true, "9f61736623f24a406a096889e4604567b643a8a2236ce8bbd74d46cd243b27bf"), looks := false }, kinds := [], alts := [], laidByText := true, laidKinds := [.data, .data, .data], laidTests := true, laidLooks := .later }
def ViewTableUptoCardSaid : Prop := Claim7.holds Tryd.pinned (.plain (OpenSpec.upto viewTableSpec)) viewTableUptoCard

/-- THE SECOND FORM's CARD OF 'punchcutlaw23.ViewSize'. -/
def viewSizeUptoCard : Claim7 := { stood := { row := viewSizeUptoRow, standIns := [], harness := (true, "9f61736623f24a406a096889e4604567b643a8a2236ce8bbd74d46cd243b27bf"), looks := false }, kinds := [], alts := [], laidByText := true, laidKinds := [.data, .data, .data], laidTests := true, laidLooks := .later }
def ViewSizeUptoCardSaid : Prop := Claim7.holds Tryd.pinned (.plain (OpenSpec.upto viewSizeSpec)) viewSizeUptoCard

/-- THE SECOND FORM's CARD OF 'punchcutlaw23.ViewDark'. -/
def viewDarkUptoCard : Claim7 := { stood := { row := viewDarkUptoRow, standIns := [], harness := (true, "9f61736623f24a406a096889e4604567b643a8a2236ce8bbd74d46cd243b27bf"), looks := false }, kinds := [], alts := [], laidByText := true, laidKinds := [.data, .data, .data], laidTests := true, laidLooks := .later }
def ViewDarkUptoCardSaid : Prop := Claim7.holds Tryd.pinned (.plain (OpenSpec.upto viewDarkSpec)) viewDarkUptoCard

/-- THE SECOND FORM's CARD OF 'punchcutlaw23.ViewKeys'. -/
def viewKeysUptoCard : Claim7 := { stood := { row := viewKeysUptoRow, standIns := [], harness := (true, "9f61736623f24a406a096889e4604567b643a8a2236ce8bbd74d46cd243b27bf"), looks := false }, kinds := [], alts := [], laidByText := true, laidKinds := [.data, .data, .data], laidTests := true, laidLooks := .later }
def ViewKeysUptoCardSaid : Prop := Claim7.holds Tryd.pinned (.plain (OpenSpec.upto viewKeysSpec)) viewKeysUptoCard

/-- THE SECOND FORM's CARD OF 'punchcutlaw23.ViewEmpty'. -/
def viewEmptyUptoCard : Claim7 := { stood := { row := viewEmptyUptoRow, standIns := [], harness := (true, "9f61736623f24a406a096889e4604567b643a8a2236ce8bbd74d46cd243b27bf"), looks := false }, kinds := [], alts := [], laidByText := true, laidKinds := [.data, .data, .data], laidTests := true, laidLooks := .later }
def ViewEmptyUptoCardSaid : Prop := Claim7.holds Tryd.pinned (.plain (OpenSpec.upto viewEmptySpec)) viewEmptyUptoCard
end Rows
end Go.Proofs.YtaccppchhljnkaaDoor
