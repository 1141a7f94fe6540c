/-
  DERIVED. GIVEN WITH THE SEED: THE CARDS: each row of YtdbfpdhcaiiiaaaDoorRows.lean that lists a variable, with what it lists TIED to the program's text (the seventh form; the later family's looks); each row that meets fmt, with fmt's text TOLD by the authors' own Lean function (tested against real Go, not proved from fmt's source: count such statements apart). THE CARD IS WHAT COUNTS. Prove the row's statement (the work); the ties are given (YtdbfpdhcaiiiaaaDoorTie.lean); close each card by the builder's one call (the guide's Derived/Test/ToyasCard.lean, 'card_holds'). Laid BY PROGRAM, IN A SANDBOX (cutbox-door.mjs). By AI agents, Wed Nov 11 2026. No macro, syntax, notation, axiom, sorry.
-/
import Derived.Test.YtdbfpdhcaiiiaaaDoorRows
import GoSem.ClaimSeven
namespace Go.Proofs.YtdbfpdhcaiiiaaaDoor
namespace Rows

/-- THE TIED CARD OF 'parterrelaw2.LatinMakes'. -/
def latinMakesCard : Claim7 := { stood := { row := latinMakesRow, standIns := [], harness := (true, "2a710f90e2b98b70dba9a6795695e07e2b65b0e41bcbadc038b688c5fedc0aba"), looks := false }, kinds := [], alts := [], laidByText := true, laidKinds := [.data], laidTests := true, laidLooks := .later }
def LatinMakesCardSaid : Prop := Claim7.holds Tryd.pinned (.plain (OpenSpec.ofChange latinMakesSpec)) latinMakesCard

/-- THE TIED CARD OF 'parterrelaw2.LatinBose'. -/
def latinBoseCard : Claim7 := { stood := { row := latinBoseRow, standIns := [], harness := (true, "2a710f90e2b98b70dba9a6795695e07e2b65b0e41bcbadc038b688c5fedc0aba"), looks := false }, kinds := [], alts := [], laidByText := true, laidKinds := [.data], laidTests := true, laidLooks := .later }
def LatinBoseCardSaid : Prop := Claim7.holds Tryd.pinned (.plain (OpenSpec.ofChange latinBoseSpec)) latinBoseCard

/-- THE TIED CARD OF 'parterrelaw2.DifferMade'. -/
def differMadeCard : Claim7 := { stood := { row := differMadeRow, standIns := [], harness := (true, "2a710f90e2b98b70dba9a6795695e07e2b65b0e41bcbadc038b688c5fedc0aba"), looks := false }, kinds := [], alts := [], laidByText := true, laidKinds := [.data], laidTests := true, laidLooks := .later }
def DifferMadeCardSaid : Prop := Claim7.holds Tryd.pinned (.plain (OpenSpec.ofChange differMadeSpec)) differMadeCard

/-- THE TIED CARD OF 'parterrelaw2.DifferMakes'. -/
def differMakesCard : Claim7 := { stood := { row := differMakesRow, standIns := [], harness := (true, "2a710f90e2b98b70dba9a6795695e07e2b65b0e41bcbadc038b688c5fedc0aba"), looks := false }, kinds := [], alts := [], laidByText := true, laidKinds := [.data], laidTests := true, laidLooks := .later }
def DifferMakesCardSaid : Prop := Claim7.holds Tryd.pinned (.plain (OpenSpec.ofChange differMakesSpec)) differMakesCard

/-- THE SECOND FORM's CARD OF 'parterrelaw2.LatinMakes'. -/
def latinMakesUptoCard : Claim7 := { stood := { row := latinMakesUptoRow, standIns := [], harness := (true, "2a710f90e2b98b70dba9a6795695e07e2b65b0e41bcbadc038b688c5fedc0aba"), looks := false }, kinds := [], alts := [], laidByText := true, laidKinds := [.data], laidTests := true, laidLooks := .later }
def LatinMakesUptoCardSaid : Prop := Claim7.holds Tryd.pinned (.plain (OpenSpec.upto latinMakesSpec)) latinMakesUptoCard

/-- THE SECOND FORM's CARD OF 'parterrelaw2.LatinBose'. -/
def latinBoseUptoCard : Claim7 := { stood := { row := latinBoseUptoRow, standIns := [], harness := (true, "2a710f90e2b98b70dba9a6795695e07e2b65b0e41bcbadc038b688c5fedc0aba"), looks := false }, kinds := [], alts := [], laidByText := true, laidKinds := [.data], laidTests := true, laidLooks := .later }
def LatinBoseUptoCardSaid : Prop := Claim7.holds Tryd.pinned (.plain (OpenSpec.upto latinBoseSpec)) latinBoseUptoCard

/-- THE SECOND FORM's CARD OF 'parterrelaw2.DifferMade'. -/
def differMadeUptoCard : Claim7 := { stood := { row := differMadeUptoRow, standIns := [], harness := (true, "2a710f90e2b98b70dba9a6795695e07e2b65b0e41bcbadc038b688c5fedc0aba"), looks := false }, kinds := [], alts := [], laidByText := true, laidKinds := [.data], laidTests := true, laidLooks := .later }
def DifferMadeUptoCardSaid : Prop := Claim7.holds Tryd.pinned (.plain (OpenSpec.upto differMadeSpec)) differMadeUptoCard

/-- THE SECOND FORM's CARD OF 'parterrelaw2.DifferMakes'. -/
def differMakesUptoCard : Claim7 := { stood := { row := differMakesUptoRow, standIns := [], harness := (true, "2a710f90e2b98b70dba9a6795695e07e2b65b0e41bcbadc038b688c5fedc0aba"), looks := false }, kinds := [], alts := [], laidByText := true, laidKinds := [.data], laidTests := true, laidLooks := .later }
def DifferMakesUptoCardSaid : Prop := Claim7.holds Tryd.pinned (.plain (OpenSpec.upto differMakesSpec)) differMakesUptoCard
end Rows
end Go.Proofs.YtdbfpdhcaiiiaaaDoor
