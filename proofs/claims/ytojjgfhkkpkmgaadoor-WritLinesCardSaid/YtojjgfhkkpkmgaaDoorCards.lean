/-
  DERIVED. GIVEN WITH THE SEED: THE CARDS: each row of YtojjgfhkkpkmgaaDoorRows.lean that lists a variable, with what it lists TIED to the program's text (the seventh form; the later family's looks); each row that meets fmt, with fmt's text TOLD by the authors' own Lean function (tested against real Go, not proved from fmt's source: count such statements apart). THE CARD IS WHAT COUNTS. Prove the row's statement (the work); the ties are given (YtojjgfhkkpkmgaaDoorTie.lean); close each card by the builder's one call (the guide's Derived/Test/ToyasCard.lean, 'card_holds'). Laid BY PROGRAM, IN A SANDBOX (cutbox-door.mjs). By AI agents, Wed Nov 11 2026. No macro, syntax, notation, axiom, sorry.
-/
import Derived.Test.YtojjgfhkkpkmgaaDoorRows
import GoSem.ClaimSeven
namespace Go.Proofs.YtojjgfhkkpkmgaaDoor
namespace Rows

/-- THE TIED CARD OF 'bailifflaw19.WritParses'. -/
def writParsesCard : Claim7 := { stood := { row := writParsesRow, standIns := [], harness := (true, "62e3480deb5a81365a1c9fce8ac4391ace42553b3237545ed48360b96debea85"), looks := true }, kinds := [], alts := [], laidByText := true, laidKinds := [.handle], laidTests := true, laidLooks := .later }
def WritParsesCardSaid : Prop := Claim7.holds Tryd.pinned (.plain (OpenSpec.ofChange writParsesSpec)) writParsesCard

/-- THE TIED CARD OF 'bailifflaw19.WritPrints'. -/
def writPrintsCard : Claim7 := { stood := { row := writPrintsRow, standIns := [], harness := (true, "62e3480deb5a81365a1c9fce8ac4391ace42553b3237545ed48360b96debea85"), looks := true }, kinds := [], alts := [], laidByText := true, laidKinds := [.data, .data, .data], laidTests := true, laidLooks := .later }
def WritPrintsCardSaid : Prop := Claim7.holds Tryd.pinned (.plain (OpenSpec.ofChange writPrintsSpec)) writPrintsCard

/-- THE TIED CARD OF 'bailifflaw19.WritLines'. -/
def writLinesCard : Claim7 := { stood := { row := writLinesRow, standIns := [], harness := (true, "62e3480deb5a81365a1c9fce8ac4391ace42553b3237545ed48360b96debea85"), looks := true }, kinds := [], alts := [], laidByText := true, laidKinds := [.data, .data, .data], laidTests := true, laidLooks := .later }
def WritLinesCardSaid : Prop := Claim7.holds Tryd.pinned (.plain (OpenSpec.ofChange writLinesSpec)) writLinesCard

/-- THE TIED CARD OF 'bailifflaw19.WritBack'. -/
def writBackCard : Claim7 := { stood := { row := writBackRow, standIns := [], harness := (true, "62e3480deb5a81365a1c9fce8ac4391ace42553b3237545ed48360b96debea85"), looks := true }, kinds := [], alts := [], laidByText := true, laidKinds := [.data, .data, .data, .handle], laidTests := true, laidLooks := .later }
def WritBackCardSaid : Prop := Claim7.holds Tryd.pinned (.plain (OpenSpec.ofChange writBackSpec)) writBackCard

/-- THE SECOND FORM's CARD OF 'bailifflaw19.WritParses'. -/
def writParsesUptoCard : Claim7 := { stood := { row := writParsesUptoRow, standIns := [], harness := (true, "62e3480deb5a81365a1c9fce8ac4391ace42553b3237545ed48360b96debea85"), looks := true }, kinds := [], alts := [], laidByText := true, laidKinds := [.handle], laidTests := true, laidLooks := .later }
def WritParsesUptoCardSaid : Prop := Claim7.holds Tryd.pinned (.plain (OpenSpec.upto writParsesSpec)) writParsesUptoCard

/-- THE SECOND FORM's CARD OF 'bailifflaw19.WritPrints'. -/
def writPrintsUptoCard : Claim7 := { stood := { row := writPrintsUptoRow, standIns := [], harness := (true, "62e3480deb5a81365a1c9fce8ac4391ace42553b3237545ed48360b96debea85"), looks := true }, kinds := [], alts := [], laidByText := true, laidKinds := [.data, .data, .data], laidTests := true, laidLooks := .later }
def WritPrintsUptoCardSaid : Prop := Claim7.holds Tryd.pinned (.plain (OpenSpec.upto writPrintsSpec)) writPrintsUptoCard

/-- THE SECOND FORM's CARD OF 'bailifflaw19.WritLines'. -/
def writLinesUptoCard : Claim7 := { stood := { row := writLinesUptoRow, standIns := [], harness := (true, "62e3480deb5a81365a1c9fce8ac4391ace42553b3237545ed48360b96debea85"), looks := true }, kinds := [], alts := [], laidByText := true, laidKinds := [.data, .data, .data], laidTests := true, laidLooks := .later }
def WritLinesUptoCardSaid : Prop := Claim7.holds Tryd.pinned (.plain (OpenSpec.upto writLinesSpec)) writLinesUptoCard

/-- THE SECOND FORM's CARD OF 'bailifflaw19.WritBack'. -/
def writBackUptoCard : Claim7 := { stood := { row := writBackUptoRow, standIns := [], harness := (true, "62e3480deb5a81365a1c9fce8ac4391ace42553b3237545ed48360b96debea85"), looks := true }, kinds := [], alts := [], laidByText := true, laidKinds := [.data, .data, .data, .handle], laidTests := true, laidLooks := .later }
def WritBackUptoCardSaid : Prop := Claim7.holds Tryd.pinned (.plain (OpenSpec.upto writBackSpec)) writBackUptoCard
end Rows
end Go.Proofs.YtojjgfhkkpkmgaaDoor
