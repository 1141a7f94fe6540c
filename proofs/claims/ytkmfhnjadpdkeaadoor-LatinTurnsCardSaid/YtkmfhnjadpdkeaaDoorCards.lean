/-
  DERIVED. GIVEN WITH THE SEED: THE CARDS: each row of YtkmfhnjadpdkeaaDoorRows.lean that lists a variable, with what it lists TIED to the program's text (the seventh form; the later family's looks); each row that meets fmt, with fmt's text TOLD by the authors' own Lean function (tested against real Go, not proved from fmt's source: count such statements apart). THE CARD IS WHAT COUNTS. Prove the row's statement (the work); the ties are given (YtkmfhnjadpdkeaaDoorTie.lean); close each card by the builder's one call (the guide's Derived/Test/ToyasCard.lean, 'card_holds'). Laid BY PROGRAM, IN A SANDBOX (cutbox-door.mjs). By AI agents, Wed Nov 11 2026. No macro, syntax, notation, axiom, sorry.
-/
import Derived.Test.YtkmfhnjadpdkeaaDoorRows
import GoSem.ClaimSeven
namespace Go.Proofs.YtkmfhnjadpdkeaaDoor
namespace Rows

/-- THE TIED CARD OF 'parterrelaw2.LatinChecks'. -/
def latinChecksCard : Claim7 := { stood := { row := latinChecksRow, standIns := [], harness := (true, "2168822fe0b89b76ffd4ec3f7b780e9b1787a97e3b3bda682b8b5258243d6cdb"), looks := false }, kinds := [], alts := [], laidByText := true, laidKinds := [.data], laidTests := true, laidLooks := .later }
def LatinChecksCardSaid : Prop := Claim7.holds Tryd.pinned (.plain (OpenSpec.ofChange latinChecksSpec)) latinChecksCard

/-- THE TIED CARD OF 'parterrelaw2.LatinTurns'. -/
def latinTurnsCard : Claim7 := { stood := { row := latinTurnsRow, standIns := [], harness := (true, "2168822fe0b89b76ffd4ec3f7b780e9b1787a97e3b3bda682b8b5258243d6cdb"), looks := false }, kinds := [], alts := [], laidByText := true, laidKinds := [.data], laidTests := true, laidLooks := .later }
def LatinTurnsCardSaid : Prop := Claim7.holds Tryd.pinned (.plain (OpenSpec.ofChange latinTurnsSpec)) latinTurnsCard

/-- THE TIED CARD OF 'parterrelaw2.QuasiParastrophes'. -/
def quasiParastrophesCard : Claim7 := { stood := { row := quasiParastrophesRow, standIns := [], harness := (true, "2168822fe0b89b76ffd4ec3f7b780e9b1787a97e3b3bda682b8b5258243d6cdb"), looks := false }, kinds := [], alts := [], laidByText := true, laidKinds := [.data], laidTests := true, laidLooks := .later }
def QuasiParastrophesCardSaid : Prop := Claim7.holds Tryd.pinned (.plain (OpenSpec.ofChange quasiParastrophesSpec)) quasiParastrophesCard

/-- THE TIED CARD OF 'parterrelaw2.LatinMakes'. -/
def latinMakesCard : Claim7 := { stood := { row := latinMakesRow, standIns := [], harness := (true, "2168822fe0b89b76ffd4ec3f7b780e9b1787a97e3b3bda682b8b5258243d6cdb"), looks := false }, kinds := [], alts := [], laidByText := true, laidKinds := [.data], laidTests := true, laidLooks := .later }
def LatinMakesCardSaid : Prop := Claim7.holds Tryd.pinned (.plain (OpenSpec.ofChange latinMakesSpec)) latinMakesCard

/-- THE TIED CARD OF 'parterrelaw2.LatinBose'. -/
def latinBoseCard : Claim7 := { stood := { row := latinBoseRow, standIns := [], harness := (true, "2168822fe0b89b76ffd4ec3f7b780e9b1787a97e3b3bda682b8b5258243d6cdb"), looks := false }, kinds := [], alts := [], laidByText := true, laidKinds := [.data], laidTests := true, laidLooks := .later }
def LatinBoseCardSaid : Prop := Claim7.holds Tryd.pinned (.plain (OpenSpec.ofChange latinBoseSpec)) latinBoseCard

/-- THE SECOND FORM's CARD OF 'parterrelaw2.LatinChecks'. -/
def latinChecksUptoCard : Claim7 := { stood := { row := latinChecksUptoRow, standIns := [], harness := (true, "2168822fe0b89b76ffd4ec3f7b780e9b1787a97e3b3bda682b8b5258243d6cdb"), looks := false }, kinds := [], alts := [], laidByText := true, laidKinds := [.data], laidTests := true, laidLooks := .later }
def LatinChecksUptoCardSaid : Prop := Claim7.holds Tryd.pinned (.plain (OpenSpec.upto latinChecksSpec)) latinChecksUptoCard

/-- THE SECOND FORM's CARD OF 'parterrelaw2.LatinTurns'. -/
def latinTurnsUptoCard : Claim7 := { stood := { row := latinTurnsUptoRow, standIns := [], harness := (true, "2168822fe0b89b76ffd4ec3f7b780e9b1787a97e3b3bda682b8b5258243d6cdb"), looks := false }, kinds := [], alts := [], laidByText := true, laidKinds := [.data], laidTests := true, laidLooks := .later }
def LatinTurnsUptoCardSaid : Prop := Claim7.holds Tryd.pinned (.plain (OpenSpec.upto latinTurnsSpec)) latinTurnsUptoCard

/-- THE SECOND FORM's CARD OF 'parterrelaw2.QuasiParastrophes'. -/
def quasiParastrophesUptoCard : Claim7 := { stood := { row := quasiParastrophesUptoRow, standIns := [], harness := (true, "2168822fe0b89b76ffd4ec3f7b780e9b1787a97e3b3bda682b8b5258243d6cdb"), looks := false }, kinds := [], alts := [], laidByText := true, laidKinds := [.data], laidTests := true, laidLooks := .later }
def QuasiParastrophesUptoCardSaid : Prop := Claim7.holds Tryd.pinned (.plain (OpenSpec.upto quasiParastrophesSpec)) quasiParastrophesUptoCard

/-- THE SECOND FORM's CARD OF 'parterrelaw2.LatinMakes'. -/
def latinMakesUptoCard : Claim7 := { stood := { row := latinMakesUptoRow, standIns := [], harness := (true, "2168822fe0b89b76ffd4ec3f7b780e9b1787a97e3b3bda682b8b5258243d6cdb"), looks := false }, kinds := [], alts := [], laidByText := true, laidKinds := [.data], laidTests := true, laidLooks := .later }
def LatinMakesUptoCardSaid : Prop := Claim7.holds Tryd.pinned (.plain (OpenSpec.upto latinMakesSpec)) latinMakesUptoCard

/-- THE SECOND FORM's CARD OF 'parterrelaw2.LatinBose'. -/
def latinBoseUptoCard : Claim7 := { stood := { row := latinBoseUptoRow, standIns := [], harness := (true, "2168822fe0b89b76ffd4ec3f7b780e9b1787a97e3b3bda682b8b5258243d6cdb"), looks := false }, kinds := [], alts := [], laidByText := true, laidKinds := [.data], laidTests := true, laidLooks := .later }
def LatinBoseUptoCardSaid : Prop := Claim7.holds Tryd.pinned (.plain (OpenSpec.upto latinBoseSpec)) latinBoseUptoCard
end Rows
end Go.Proofs.YtkmfhnjadpdkeaaDoor
