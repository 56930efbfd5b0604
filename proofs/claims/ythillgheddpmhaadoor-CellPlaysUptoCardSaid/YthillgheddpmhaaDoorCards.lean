/-
  DERIVED. GIVEN WITH THE SEED: THE CARDS: each row of YthillgheddpmhaaDoorRows.lean that lists a variable, with what it lists TIED to the program's text (the seventh form; the later family's looks); each row that meets fmt, with fmt's text TOLD by the authors' own Lean function (tested against real Go, not proved from fmt's source: count such statements apart). THE CARD IS WHAT COUNTS. Prove the row's statement (the work); the ties are given (YthillgheddpmhaaDoorTie.lean); close each card by the builder's one call (the guide's Derived/Test/ToyasCard.lean, 'card_holds'). Laid BY PROGRAM, IN A SANDBOX (cutbox-door.mjs). By AI agents, Wed Nov 11 2026. No macro, syntax, notation, axiom, sorry.
-/
import Derived.Test.YthillgheddpmhaaDoorRows
import GoSem.ClaimSeven
namespace Go.Proofs.YthillgheddpmhaaDoor
namespace Rows

/-- THE TIED CARD OF 'treadlelaw04.PagesFirst'. -/
def pagesFirstCard : Claim7 := { stood := { row := pagesFirstRow, standIns := [], harness := (true, "e82d44980a5214c7c5e2d7cfb47ac0adc0f90f57c40785cffd2d51d451459c4f"), looks := false }, kinds := [], alts := [], laidByText := true, laidKinds := [.data], laidTests := true, laidLooks := .later }
def PagesFirstCardSaid : Prop := Claim7.holds Tryd.pinned (.plain (OpenSpec.ofChange pagesFirstSpec)) pagesFirstCard

/-- THE TIED CARD OF 'treadlelaw04.PagesBack'. -/
def pagesBackCard : Claim7 := { stood := { row := pagesBackRow, standIns := [], harness := (true, "e82d44980a5214c7c5e2d7cfb47ac0adc0f90f57c40785cffd2d51d451459c4f"), looks := false }, kinds := [], alts := [], laidByText := true, laidKinds := [.data], laidTests := true, laidLooks := .later }
def PagesBackCardSaid : Prop := Claim7.holds Tryd.pinned (.plain (OpenSpec.ofChange pagesBackSpec)) pagesBackCard

/-- THE TIED CARD OF 'treadlelaw04.PagesPlays'. -/
def pagesPlaysCard : Claim7 := { stood := { row := pagesPlaysRow, standIns := [], harness := (true, "e82d44980a5214c7c5e2d7cfb47ac0adc0f90f57c40785cffd2d51d451459c4f"), looks := false }, kinds := [], alts := [], laidByText := true, laidKinds := [.data], laidTests := true, laidLooks := .later }
def PagesPlaysCardSaid : Prop := Claim7.holds Tryd.pinned (.plain (OpenSpec.ofChange pagesPlaysSpec)) pagesPlaysCard

/-- THE TIED CARD OF 'treadlelaw04.PagesFixed'. -/
def pagesFixedCard : Claim7 := { stood := { row := pagesFixedRow, standIns := [], harness := (true, "e82d44980a5214c7c5e2d7cfb47ac0adc0f90f57c40785cffd2d51d451459c4f"), looks := false }, kinds := [], alts := [], laidByText := true, laidKinds := [.data], laidTests := true, laidLooks := .later }
def PagesFixedCardSaid : Prop := Claim7.holds Tryd.pinned (.plain (OpenSpec.ofChange pagesFixedSpec)) pagesFixedCard

/-- THE TIED CARD OF 'treadlelaw05.SpanFixed'. -/
def spanFixedCard : Claim7 := { stood := { row := spanFixedRow, standIns := [], harness := (true, "e82d44980a5214c7c5e2d7cfb47ac0adc0f90f57c40785cffd2d51d451459c4f"), looks := false }, kinds := [], alts := [], laidByText := true, laidKinds := [.data], laidTests := true, laidLooks := .later }
def SpanFixedCardSaid : Prop := Claim7.holds Tryd.pinned (.plain (OpenSpec.ofChange spanFixedSpec)) spanFixedCard

/-- THE TIED CARD OF 'treadlelaw05.SpanPlays'. -/
def spanPlaysCard : Claim7 := { stood := { row := spanPlaysRow, standIns := [], harness := (true, "e82d44980a5214c7c5e2d7cfb47ac0adc0f90f57c40785cffd2d51d451459c4f"), looks := false }, kinds := [], alts := [], laidByText := true, laidKinds := [.data], laidTests := true, laidLooks := .later }
def SpanPlaysCardSaid : Prop := Claim7.holds Tryd.pinned (.plain (OpenSpec.ofChange spanPlaysSpec)) spanPlaysCard

/-- THE TIED CARD OF 'treadlelaw05.SpanBack'. -/
def spanBackCard : Claim7 := { stood := { row := spanBackRow, standIns := [], harness := (true, "e82d44980a5214c7c5e2d7cfb47ac0adc0f90f57c40785cffd2d51d451459c4f"), looks := false }, kinds := [], alts := [], laidByText := true, laidKinds := [.data], laidTests := true, laidLooks := .later }
def SpanBackCardSaid : Prop := Claim7.holds Tryd.pinned (.plain (OpenSpec.ofChange spanBackSpec)) spanBackCard

/-- THE TIED CARD OF 'treadlelaw07.CellApart'. -/
def cellApartCard : Claim7 := { stood := { row := cellApartRow, standIns := [], harness := (true, "e82d44980a5214c7c5e2d7cfb47ac0adc0f90f57c40785cffd2d51d451459c4f"), looks := false }, kinds := [], alts := [], laidByText := true, laidKinds := [.data], laidTests := true, laidLooks := .later }
def CellApartCardSaid : Prop := Claim7.holds Tryd.pinned (.plain (OpenSpec.ofChange cellApartSpec)) cellApartCard

/-- THE TIED CARD OF 'treadlelaw07.CellOwn'. -/
def cellOwnCard : Claim7 := { stood := { row := cellOwnRow, standIns := [], harness := (true, "e82d44980a5214c7c5e2d7cfb47ac0adc0f90f57c40785cffd2d51d451459c4f"), looks := false }, kinds := [], alts := [], laidByText := true, laidKinds := [.data], laidTests := true, laidLooks := .later }
def CellOwnCardSaid : Prop := Claim7.holds Tryd.pinned (.plain (OpenSpec.ofChange cellOwnSpec)) cellOwnCard

/-- THE TIED CARD OF 'treadlelaw07.CellFixed'. -/
def cellFixedCard : Claim7 := { stood := { row := cellFixedRow, standIns := [], harness := (true, "e82d44980a5214c7c5e2d7cfb47ac0adc0f90f57c40785cffd2d51d451459c4f"), looks := false }, kinds := [], alts := [], laidByText := true, laidKinds := [.data], laidTests := true, laidLooks := .later }
def CellFixedCardSaid : Prop := Claim7.holds Tryd.pinned (.plain (OpenSpec.ofChange cellFixedSpec)) cellFixedCard

/-- THE TIED CARD OF 'treadlelaw07.CellPlays'. -/
def cellPlaysCard : Claim7 := { stood := { row := cellPlaysRow, standIns := [], harness := (true, "e82d44980a5214c7c5e2d7cfb47ac0adc0f90f57c40785cffd2d51d451459c4f"), looks := false }, kinds := [], alts := [], laidByText := true, laidKinds := [.data], laidTests := true, laidLooks := .later }
def CellPlaysCardSaid : Prop := Claim7.holds Tryd.pinned (.plain (OpenSpec.ofChange cellPlaysSpec)) cellPlaysCard

/-- THE TIED CARD OF 'treadlelaw07.CellBack'. -/
def cellBackCard : Claim7 := { stood := { row := cellBackRow, standIns := [], harness := (true, "e82d44980a5214c7c5e2d7cfb47ac0adc0f90f57c40785cffd2d51d451459c4f"), looks := false }, kinds := [], alts := [], laidByText := true, laidKinds := [.data], laidTests := true, laidLooks := .later }
def CellBackCardSaid : Prop := Claim7.holds Tryd.pinned (.plain (OpenSpec.ofChange cellBackSpec)) cellBackCard

/-- THE SECOND FORM's CARD OF 'treadlelaw04.PagesFirst'. -/
def pagesFirstUptoCard : Claim7 := { stood := { row := pagesFirstUptoRow, standIns := [], harness := (true, "e82d44980a5214c7c5e2d7cfb47ac0adc0f90f57c40785cffd2d51d451459c4f"), looks := false }, kinds := [], alts := [], laidByText := true, laidKinds := [.data], laidTests := true, laidLooks := .later }
def PagesFirstUptoCardSaid : Prop := Claim7.holds Tryd.pinned (.plain (OpenSpec.upto pagesFirstSpec)) pagesFirstUptoCard

/-- THE SECOND FORM's CARD OF 'treadlelaw04.PagesBack'. -/
def pagesBackUptoCard : Claim7 := { stood := { row := pagesBackUptoRow, standIns := [], harness := (true, "e82d44980a5214c7c5e2d7cfb47ac0adc0f90f57c40785cffd2d51d451459c4f"), looks := false }, kinds := [], alts := [], laidByText := true, laidKinds := [.data], laidTests := true, laidLooks := .later }
def PagesBackUptoCardSaid : Prop := Claim7.holds Tryd.pinned (.plain (OpenSpec.upto pagesBackSpec)) pagesBackUptoCard

/-- THE SECOND FORM's CARD OF 'treadlelaw04.PagesPlays'. -/
def pagesPlaysUptoCard : Claim7 := { stood := { row := pagesPlaysUptoRow, standIns := [], harness := (true, "e82d44980a5214c7c5e2d7cfb47ac0adc0f90f57c40785cffd2d51d451459c4f"), looks := false }, kinds := [], alts := [], laidByText := true, laidKinds := [.data], laidTests := true, laidLooks := .later }
def PagesPlaysUptoCardSaid : Prop := Claim7.holds Tryd.pinned (.plain (OpenSpec.upto pagesPlaysSpec)) pagesPlaysUptoCard

/-- THE SECOND FORM's CARD OF 'treadlelaw04.PagesFixed'. -/
def pagesFixedUptoCard : Claim7 := { stood := { row := pagesFixedUptoRow, standIns := [], harness := (true, "e82d44980a5214c7c5e2d7cfb47ac0adc0f90f57c40785cffd2d51d451459c4f"), looks := false }, kinds := [], alts := [], laidByText := true, laidKinds := [.data], laidTests := true, laidLooks := .later }
def PagesFixedUptoCardSaid : Prop := Claim7.holds Tryd.pinned (.plain (OpenSpec.upto pagesFixedSpec)) pagesFixedUptoCard

/-- THE SECOND FORM's CARD OF 'treadlelaw05.SpanFixed'. -/
def spanFixedUptoCard : Claim7 := { stood := { row := spanFixedUptoRow, standIns := [], harness := (true, "e82d44980a5214c7c5e2d7cfb47ac0adc0f90f57c40785cffd2d51d451459c4f"), looks := false }, kinds := [], alts := [], laidByText := true, laidKinds := [.data], laidTests := true, laidLooks := .later }
def SpanFixedUptoCardSaid : Prop := Claim7.holds Tryd.pinned (.plain (OpenSpec.upto spanFixedSpec)) spanFixedUptoCard

/-- THE SECOND FORM's CARD OF 'treadlelaw05.SpanPlays'. -/
def spanPlaysUptoCard : Claim7 := { stood := { row := spanPlaysUptoRow, standIns := [], harness := (true, "e82d44980a5214c7c5e2d7cfb47ac0adc0f90f57c40785cffd2d51d451459c4f"), looks := false }, kinds := [], alts := [], laidByText := true, laidKinds := [.data], laidTests := true, laidLooks := .later }
def SpanPlaysUptoCardSaid : Prop := Claim7.holds Tryd.pinned (.plain (OpenSpec.upto spanPlaysSpec)) spanPlaysUptoCard

/-- THE SECOND FORM's CARD OF 'treadlelaw05.SpanBack'. -/
def spanBackUptoCard : Claim7 := { stood := { row := spanBackUptoRow, standIns := [], harness := (true, "e82d44980a5214c7c5e2d7cfb47ac0adc0f90f57c40785cffd2d51d451459c4f"), looks := false }, kinds := [], alts := [], laidByText := true, laidKinds := [.data], laidTests := true, laidLooks := .later }
def SpanBackUptoCardSaid : Prop := Claim7.holds Tryd.pinned (.plain (OpenSpec.upto spanBackSpec)) spanBackUptoCard

/-- THE SECOND FORM's CARD OF 'treadlelaw07.CellApart'. -/
def cellApartUptoCard : Claim7 := { stood := { row := cellApartUptoRow, standIns := [], harness := (true, "e82d44980a5214c7c5e2d7cfb47ac0adc0f90f57c40785cffd2d51d451459c4f"), looks := false }, kinds := [], alts := [], laidByText := true, laidKinds := [.data], laidTests := true, laidLooks := .later }
def CellApartUptoCardSaid : Prop := Claim7.holds Tryd.pinned (.plain (OpenSpec.upto cellApartSpec)) cellApartUptoCard

/-- THE SECOND FORM's CARD OF 'treadlelaw07.CellOwn'. -/
def cellOwnUptoCard : Claim7 := { stood := { row := cellOwnUptoRow, standIns := [], harness := (true, "e82d44980a5214c7c5e2d7cfb47ac0adc0f90f57c40785cffd2d51d451459c4f"), looks := false }, kinds := [], alts := [], laidByText := true, laidKinds := [.data], laidTests := true, laidLooks := .later }
def CellOwnUptoCardSaid : Prop := Claim7.holds Tryd.pinned (.plain (OpenSpec.upto cellOwnSpec)) cellOwnUptoCard

/-- THE SECOND FORM's CARD OF 'treadlelaw07.CellFixed'. -/
def cellFixedUptoCard : Claim7 := { stood := { row := cellFixedUptoRow, standIns := [], harness := (true, "e82d44980a5214c7c5e2d7cfb47ac0adc0f90f57c40785cffd2d51d451459c4f"), looks := false }, kinds := [], alts := [], laidByText := true, laidKinds := [.data], laidTests := true, laidLooks := .later }
def CellFixedUptoCardSaid : Prop := Claim7.holds Tryd.pinned (.plain (OpenSpec.upto cellFixedSpec)) cellFixedUptoCard

/-- THE SECOND FORM's CARD OF 'treadlelaw07.CellPlays'. -/
def cellPlaysUptoCard : Claim7 := { stood := { row := cellPlaysUptoRow, standIns := [], harness := (true, "e82d44980a5214c7c5e2d7cfb47ac0adc0f90f57c40785cffd2d51d451459c4f"), looks := false }, kinds := [], alts := [], laidByText := true, laidKinds := [.data], laidTests := true, laidLooks := .later }
def CellPlaysUptoCardSaid : Prop := Claim7.holds Tryd.pinned (.plain (OpenSpec.upto cellPlaysSpec)) cellPlaysUptoCard

/-- THE SECOND FORM's CARD OF 'treadlelaw07.CellBack'. -/
def cellBackUptoCard : Claim7 := { stood := { row := cellBackUptoRow, standIns := [], harness := (true, "e82d44980a5214c7c5e2d7cfb47ac0adc0f90f57c40785cffd2d51d451459c4f"), looks := false }, kinds := [], alts := [], laidByText := true, laidKinds := [.data], laidTests := true, laidLooks := .later }
def CellBackUptoCardSaid : Prop := Claim7.holds Tryd.pinned (.plain (OpenSpec.upto cellBackSpec)) cellBackUptoCard
end Rows
end Go.Proofs.YthillgheddpmhaaDoor
