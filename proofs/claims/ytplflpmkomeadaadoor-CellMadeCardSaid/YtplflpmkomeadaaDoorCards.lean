/-
  DERIVED. GIVEN WITH THE SEED: THE CARDS: each row of YtplflpmkomeadaaDoorRows.lean that lists a variable, with what it lists TIED to the program's text (the seventh form; the later family's looks); each row that meets fmt, with fmt's text TOLD by the authors' own Lean function (tested against real Go, not proved from fmt's source: count such statements apart). THE CARD IS WHAT COUNTS. Prove the row's statement (the work); the ties are given (YtplflpmkomeadaaDoorTie.lean); close each card by the builder's one call (the guide's Derived/Test/ToyasCard.lean, 'card_holds'). Laid BY PROGRAM, IN A SANDBOX (cutbox-door.mjs). By AI agents, Wed Nov 11 2026. No macro, syntax, notation, axiom, sorry.
-/
import Derived.Test.YtplflpmkomeadaaDoorRows
import GoSem.ClaimSeven
namespace Go.Proofs.YtplflpmkomeadaaDoor
namespace Rows

/-- THE TIED CARD OF 'memfaultlaw13.CellFlips'. -/
def cellFlipsCard : Claim7 := { stood := { row := cellFlipsRow, standIns := [], harness := (true, "6c0b36256e1acd563722582fb3615c7ac2c4a7994b47c7192e3e695905271f93"), looks := false }, kinds := [], alts := [], laidByText := true, laidKinds := [.data], laidTests := true, laidLooks := .later }
def CellFlipsCardSaid : Prop := Claim7.holds Tryd.pinned (.plain (OpenSpec.ofChange cellFlipsSpec)) cellFlipsCard

/-- THE TIED CARD OF 'memfaultlaw13.CellSticks'. -/
def cellSticksCard : Claim7 := { stood := { row := cellSticksRow, standIns := [], harness := (true, "6c0b36256e1acd563722582fb3615c7ac2c4a7994b47c7192e3e695905271f93"), looks := false }, kinds := [], alts := [], laidByText := true, laidKinds := [.data], laidTests := true, laidLooks := .later }
def CellSticksCardSaid : Prop := Claim7.holds Tryd.pinned (.plain (OpenSpec.ofChange cellSticksSpec)) cellSticksCard

/-- THE TIED CARD OF 'memfaultlaw13.CellOrder'. -/
def cellOrderCard : Claim7 := { stood := { row := cellOrderRow, standIns := [], harness := (true, "6c0b36256e1acd563722582fb3615c7ac2c4a7994b47c7192e3e695905271f93"), looks := false }, kinds := [], alts := [], laidByText := true, laidKinds := [.data], laidTests := true, laidLooks := .later }
def CellOrderCardSaid : Prop := Claim7.holds Tryd.pinned (.plain (OpenSpec.ofChange cellOrderSpec)) cellOrderCard

/-- THE TIED CARD OF 'memfaultlaw13.CellStays'. -/
def cellStaysCard : Claim7 := { stood := { row := cellStaysRow, standIns := [], harness := (true, "6c0b36256e1acd563722582fb3615c7ac2c4a7994b47c7192e3e695905271f93"), looks := false }, kinds := [], alts := [], laidByText := true, laidKinds := [.data], laidTests := true, laidLooks := .later }
def CellStaysCardSaid : Prop := Claim7.holds Tryd.pinned (.plain (OpenSpec.ofChange cellStaysSpec)) cellStaysCard

/-- THE TIED CARD OF 'memfaultlaw13.CellRaw'. -/
def cellRawCard : Claim7 := { stood := { row := cellRawRow, standIns := [], harness := (true, "6c0b36256e1acd563722582fb3615c7ac2c4a7994b47c7192e3e695905271f93"), looks := false }, kinds := [], alts := [], laidByText := true, laidKinds := [.data], laidTests := true, laidLooks := .later }
def CellRawCardSaid : Prop := Claim7.holds Tryd.pinned (.plain (OpenSpec.ofChange cellRawSpec)) cellRawCard

/-- THE TIED CARD OF 'memfaultlaw13.CellMade'. -/
def cellMadeCard : Claim7 := { stood := { row := cellMadeRow, standIns := [], harness := (true, "6c0b36256e1acd563722582fb3615c7ac2c4a7994b47c7192e3e695905271f93"), looks := false }, kinds := [], alts := [], laidByText := true, laidKinds := [.data], laidTests := true, laidLooks := .later }
def CellMadeCardSaid : Prop := Claim7.holds Tryd.pinned (.plain (OpenSpec.ofChange cellMadeSpec)) cellMadeCard

/-- THE SECOND FORM's CARD OF 'memfaultlaw13.CellFlips'. -/
def cellFlipsUptoCard : Claim7 := { stood := { row := cellFlipsUptoRow, standIns := [], harness := (true, "6c0b36256e1acd563722582fb3615c7ac2c4a7994b47c7192e3e695905271f93"), looks := false }, kinds := [], alts := [], laidByText := true, laidKinds := [.data], laidTests := true, laidLooks := .later }
def CellFlipsUptoCardSaid : Prop := Claim7.holds Tryd.pinned (.plain (OpenSpec.upto cellFlipsSpec)) cellFlipsUptoCard

/-- THE SECOND FORM's CARD OF 'memfaultlaw13.CellSticks'. -/
def cellSticksUptoCard : Claim7 := { stood := { row := cellSticksUptoRow, standIns := [], harness := (true, "6c0b36256e1acd563722582fb3615c7ac2c4a7994b47c7192e3e695905271f93"), looks := false }, kinds := [], alts := [], laidByText := true, laidKinds := [.data], laidTests := true, laidLooks := .later }
def CellSticksUptoCardSaid : Prop := Claim7.holds Tryd.pinned (.plain (OpenSpec.upto cellSticksSpec)) cellSticksUptoCard

/-- THE SECOND FORM's CARD OF 'memfaultlaw13.CellOrder'. -/
def cellOrderUptoCard : Claim7 := { stood := { row := cellOrderUptoRow, standIns := [], harness := (true, "6c0b36256e1acd563722582fb3615c7ac2c4a7994b47c7192e3e695905271f93"), looks := false }, kinds := [], alts := [], laidByText := true, laidKinds := [.data], laidTests := true, laidLooks := .later }
def CellOrderUptoCardSaid : Prop := Claim7.holds Tryd.pinned (.plain (OpenSpec.upto cellOrderSpec)) cellOrderUptoCard

/-- THE SECOND FORM's CARD OF 'memfaultlaw13.CellStays'. -/
def cellStaysUptoCard : Claim7 := { stood := { row := cellStaysUptoRow, standIns := [], harness := (true, "6c0b36256e1acd563722582fb3615c7ac2c4a7994b47c7192e3e695905271f93"), looks := false }, kinds := [], alts := [], laidByText := true, laidKinds := [.data], laidTests := true, laidLooks := .later }
def CellStaysUptoCardSaid : Prop := Claim7.holds Tryd.pinned (.plain (OpenSpec.upto cellStaysSpec)) cellStaysUptoCard

/-- THE SECOND FORM's CARD OF 'memfaultlaw13.CellRaw'. -/
def cellRawUptoCard : Claim7 := { stood := { row := cellRawUptoRow, standIns := [], harness := (true, "6c0b36256e1acd563722582fb3615c7ac2c4a7994b47c7192e3e695905271f93"), looks := false }, kinds := [], alts := [], laidByText := true, laidKinds := [.data], laidTests := true, laidLooks := .later }
def CellRawUptoCardSaid : Prop := Claim7.holds Tryd.pinned (.plain (OpenSpec.upto cellRawSpec)) cellRawUptoCard

/-- THE SECOND FORM's CARD OF 'memfaultlaw13.CellMade'. -/
def cellMadeUptoCard : Claim7 := { stood := { row := cellMadeUptoRow, standIns := [], harness := (true, "6c0b36256e1acd563722582fb3615c7ac2c4a7994b47c7192e3e695905271f93"), looks := false }, kinds := [], alts := [], laidByText := true, laidKinds := [.data], laidTests := true, laidLooks := .later }
def CellMadeUptoCardSaid : Prop := Claim7.holds Tryd.pinned (.plain (OpenSpec.upto cellMadeSpec)) cellMadeUptoCard
end Rows
end Go.Proofs.YtplflpmkomeadaaDoor
