/-
  DERIVED. GIVEN WITH THE SEED: THE CARDS: each row of YtnehmcpkeamghaaDoorRows.lean that lists a variable, with what it lists TIED to the program's text (the seventh form; the later family's looks); each row that meets fmt, with fmt's text TOLD by the authors' own Lean function (tested against real Go, not proved from fmt's source: count such statements apart). THE CARD IS WHAT COUNTS. Prove the row's statement (the work); the ties are given (YtnehmcpkeamghaaDoorTie.lean); close each card by the builder's one call (the guide's Derived/Test/ToyasCard.lean, 'card_holds'). Laid BY PROGRAM, IN A SANDBOX (cutbox-door.mjs). By AI agents, Wed Nov 11 2026. No macro, syntax, notation, axiom, sorry.
-/
import Derived.Test.YtnehmcpkeamghaaDoorRows
import GoSem.ClaimSeven
namespace Go.Proofs.YtnehmcpkeamghaaDoor
namespace Rows

/-- THE TIED CARD OF 'binnaclelaw27.QjsonOrder'. -/
def qjsonOrderCard : Claim7 := { stood := { row := qjsonOrderRow, standIns := [], harness := (true, "2f2b7db2177223d0d2ef7eda3a20b344ff21f018efd14127c9e59ea153da7048"), looks := false }, kinds := [], alts := [], laidByText := true, laidKinds := [.data, .data, .data, .data, .pinned], laidTests := true, laidLooks := .later }
def QjsonOrderCardSaid : Prop := Claim7.holds Tryd.pinned (.plain (OpenSpec.ofChange qjsonOrderSpec)) qjsonOrderCard

/-- THE TIED CARD OF 'binnaclelaw26.JsonErrors'. -/
def jsonErrorsCard : Claim7 := { stood := { row := jsonErrorsRow, standIns := [], harness := (true, "2f2b7db2177223d0d2ef7eda3a20b344ff21f018efd14127c9e59ea153da7048"), looks := false }, kinds := [], alts := [], laidByText := true, laidKinds := [.data, .data, .data, .data, .pinned], laidTests := true, laidLooks := .later }
def JsonErrorsCardSaid : Prop := Claim7.holds Tryd.pinned (.plain (OpenSpec.ofChange jsonErrorsSpec)) jsonErrorsCard

/-- THE TIED CARD OF 'binnaclelaw26.JsonAny'. -/
def jsonAnyCard : Claim7 := { stood := { row := jsonAnyRow, standIns := [], harness := (true, "2f2b7db2177223d0d2ef7eda3a20b344ff21f018efd14127c9e59ea153da7048"), looks := false }, kinds := [], alts := [], laidByText := true, laidKinds := [.data, .data, .data, .data, .pinned], laidTests := true, laidLooks := .later }
def JsonAnyCardSaid : Prop := Claim7.holds Tryd.pinned (.plain (OpenSpec.ofChange jsonAnySpec)) jsonAnyCard

/-- THE TIED CARD OF 'binnaclelaw27.QjsonErrors'. -/
def qjsonErrorsCard : Claim7 := { stood := { row := qjsonErrorsRow, standIns := [], harness := (true, "2f2b7db2177223d0d2ef7eda3a20b344ff21f018efd14127c9e59ea153da7048"), looks := false }, kinds := [], alts := [], laidByText := true, laidKinds := [.data, .data, .data, .data, .pinned], laidTests := true, laidLooks := .later }
def QjsonErrorsCardSaid : Prop := Claim7.holds Tryd.pinned (.plain (OpenSpec.ofChange qjsonErrorsSpec)) qjsonErrorsCard

/-- THE TIED CARD OF 'binnaclelaw27.QjsonBack'. -/
def qjsonBackCard : Claim7 := { stood := { row := qjsonBackRow, standIns := [], harness := (true, "2f2b7db2177223d0d2ef7eda3a20b344ff21f018efd14127c9e59ea153da7048"), looks := false }, kinds := [], alts := [], laidByText := true, laidKinds := [.data, .data, .data, .data, .pinned], laidTests := true, laidLooks := .later }
def QjsonBackCardSaid : Prop := Claim7.holds Tryd.pinned (.plain (OpenSpec.ofChange qjsonBackSpec)) qjsonBackCard

/-- THE TIED CARD OF 'binnaclelaw27.QjsonAny'. -/
def qjsonAnyCard : Claim7 := { stood := { row := qjsonAnyRow, standIns := [], harness := (true, "2f2b7db2177223d0d2ef7eda3a20b344ff21f018efd14127c9e59ea153da7048"), looks := false }, kinds := [], alts := [], laidByText := true, laidKinds := [.data, .data, .data, .data, .pinned], laidTests := true, laidLooks := .later }
def QjsonAnyCardSaid : Prop := Claim7.holds Tryd.pinned (.plain (OpenSpec.ofChange qjsonAnySpec)) qjsonAnyCard

/-- THE SECOND FORM's CARD OF 'binnaclelaw27.QjsonOrder'. -/
def qjsonOrderUptoCard : Claim7 := { stood := { row := qjsonOrderUptoRow, standIns := [], harness := (true, "2f2b7db2177223d0d2ef7eda3a20b344ff21f018efd14127c9e59ea153da7048"), looks := false }, kinds := [], alts := [], laidByText := true, laidKinds := [.data, .data, .data, .data, .pinned], laidTests := true, laidLooks := .later }
def QjsonOrderUptoCardSaid : Prop := Claim7.holds Tryd.pinned (.plain (OpenSpec.upto qjsonOrderSpec)) qjsonOrderUptoCard

/-- THE SECOND FORM's CARD OF 'binnaclelaw26.JsonErrors'. -/
def jsonErrorsUptoCard : Claim7 := { stood := { row := jsonErrorsUptoRow, standIns := [], harness := (true, "2f2b7db2177223d0d2ef7eda3a20b344ff21f018efd14127c9e59ea153da7048"), looks := false }, kinds := [], alts := [], laidByText := true, laidKinds := [.data, .data, .data, .data, .pinned], laidTests := true, laidLooks := .later }
def JsonErrorsUptoCardSaid : Prop := Claim7.holds Tryd.pinned (.plain (OpenSpec.upto jsonErrorsSpec)) jsonErrorsUptoCard

/-- THE SECOND FORM's CARD OF 'binnaclelaw26.JsonAny'. -/
def jsonAnyUptoCard : Claim7 := { stood := { row := jsonAnyUptoRow, standIns := [], harness := (true, "2f2b7db2177223d0d2ef7eda3a20b344ff21f018efd14127c9e59ea153da7048"), looks := false }, kinds := [], alts := [], laidByText := true, laidKinds := [.data, .data, .data, .data, .pinned], laidTests := true, laidLooks := .later }
def JsonAnyUptoCardSaid : Prop := Claim7.holds Tryd.pinned (.plain (OpenSpec.upto jsonAnySpec)) jsonAnyUptoCard

/-- THE SECOND FORM's CARD OF 'binnaclelaw27.QjsonErrors'. -/
def qjsonErrorsUptoCard : Claim7 := { stood := { row := qjsonErrorsUptoRow, standIns := [], harness := (true, "2f2b7db2177223d0d2ef7eda3a20b344ff21f018efd14127c9e59ea153da7048"), looks := false }, kinds := [], alts := [], laidByText := true, laidKinds := [.data, .data, .data, .data, .pinned], laidTests := true, laidLooks := .later }
def QjsonErrorsUptoCardSaid : Prop := Claim7.holds Tryd.pinned (.plain (OpenSpec.upto qjsonErrorsSpec)) qjsonErrorsUptoCard

/-- THE SECOND FORM's CARD OF 'binnaclelaw27.QjsonBack'. -/
def qjsonBackUptoCard : Claim7 := { stood := { row := qjsonBackUptoRow, standIns := [], harness := (true, "2f2b7db2177223d0d2ef7eda3a20b344ff21f018efd14127c9e59ea153da7048"), looks := false }, kinds := [], alts := [], laidByText := true, laidKinds := [.data, .data, .data, .data, .pinned], laidTests := true, laidLooks := .later }
def QjsonBackUptoCardSaid : Prop := Claim7.holds Tryd.pinned (.plain (OpenSpec.upto qjsonBackSpec)) qjsonBackUptoCard

/-- THE SECOND FORM's CARD OF 'binnaclelaw27.QjsonAny'. -/
def qjsonAnyUptoCard : Claim7 := { stood := { row := qjsonAnyUptoRow, standIns := [], harness := (true, "2f2b7db2177223d0d2ef7eda3a20b344ff21f018efd14127c9e59ea153da7048"), looks := false }, kinds := [], alts := [], laidByText := true, laidKinds := [.data, .data, .data, .data, .pinned], laidTests := true, laidLooks := .later }
def QjsonAnyUptoCardSaid : Prop := Claim7.holds Tryd.pinned (.plain (OpenSpec.upto qjsonAnySpec)) qjsonAnyUptoCard
end Rows
end Go.Proofs.YtnehmcpkeamghaaDoor
