/-
  NARROWER THAN 'FOR EVERY INPUT', by the rows' own cells (each row's printed sentence says how): LatinMakes: laid · LatinBose: laid · DifferMade: laid · DifferMakes: laid.
  DERIVED. THE GIVEN ROWS OF THIS SEAT. 4 by the template 'for every input the law returns true; each argument reads behind the call as it read before'; 0 by the template 'total and deterministic' (their statements: YtdbfpdhcaiiiaaaDoorTotals.lean).
  GIVEN WITH THE SEED: the statements are not yours to turn. If you find one false, say at which input.
  Laid BY PROGRAM, IN A SANDBOX (cutbox-rows.mjs): the forced cells as the released guide's own fill.sh prints them over the translation 0dcb19175c968d92… (all of the seat's roots in one cut). By AI agents, Wed Nov 11 2026. No macro, syntax, notation, axiom, sorry.
-/
import Derived.Test.YtdbfpdhcaiiiaaaDoorChecked
import GoSem.Claim
import GoSem.ClaimJoined
import GoSem.ClaimMapViews
import Derived.JoinedTies
import Derived.KernelRfl
namespace Go.Proofs.YtdbfpdhcaiiiaaaDoor
/- THE CELL 'sum', in the pinned program and in every row, IS THE sha256 OF THE DUMP (.gsa) THAT YtdbfpdhcaiiiaaaDoorProg.lean LOADS. Nothing in Lean hashes anything: it is a label: what it is worth is what the hold of that sum in a sandbox is worth. -/
noncomputable def Tryd.pinned : Pinned := { name := "ytdbfpdhcaiiiaaadoor", sum := "0dcb19175c968d92d15ed36f2924d8866a258edb4e86436c701bedf3b57db47a", checked := Tryd.checked }
namespace Rows
def none {H : Type} : Left H := { results := [], args := [] }

/- WHAT THE LISTED PACKAGE-LEVEL VARIABLES READ AS WHEN THE CALL BEGINS. Each datum BY PROGRAM (the guide's laid-datum.mjs) off the statement by which the dump's own 'gosem.cut.vars' lays the variable. In a bare row this is a premise. The card (YtdbfpdhcaiiiaaaDoorCards.lean) ties it to the program's text. -/
def laid_parterre_field_primes {H : Type} : DataW H := .agg [.lit (.int .i64 2), .lit (.int .i64 3), .lit (.int .i64 5), .lit (.int .i64 7), .lit (.int .i64 11), .lit (.int .i64 13), .lit (.int .i64 17), .lit (.int .i64 19), .lit (.int .i64 23), .lit (.int .i64 29), .lit (.int .i64 31), .lit (.int .i64 37), .lit (.int .i64 41), .lit (.int .i64 43), .lit (.int .i64 47), .lit (.int .i64 53), .lit (.int .i64 59), .lit (.int .i64 61)]

/-- 'parterrelaw2.LatinMakes': WHATEVER THE INPUT: true; the input reads as it did. -/
def latinMakesSpec : ChangeSpec := { name := "latinMakes", fn := fun _ => fun
  | [d1, d2, d3] => { results := [.lit (.bool true)], args := [d1, d2, d3] }
  | _ => none }
def latinMakesRow : OpenClaim := { program := "ytdbfpdhcaiiiaaadoor", sum := "0dcb19175c968d92d15ed36f2924d8866a258edb4e86436c701bedf3b57db47a", func := "parterre/parterrelaw2.LatinMakes", spec := "latinMakes", unfollowed := true, recurses := true, named := ["parterre/field.primes"], apart := false, laid := [("parterre/field.primes", laid_parterre_field_primes)] }
def LatinMakesSaid : Prop := latinMakesRow.holds Tryd.pinned (OpenSpec.ofChange latinMakesSpec)

/-- ITS FALSE NEIGHBOUR: 'it returns false'. Refute it at one input. -/
def latinMakesWrong : ChangeSpec := { name := "latinMakes", fn := fun _ => fun
  | [d1, d2, d3] => { results := [.lit (.bool false)], args := [d1, d2, d3] }
  | _ => none }
def LatinMakesWrongFalsely : Prop := latinMakesRow.holds Tryd.pinned (OpenSpec.ofChange latinMakesWrong)

/-- 'parterrelaw2.LatinBose': WHATEVER THE INPUT: true; the input reads as it did. -/
def latinBoseSpec : ChangeSpec := { name := "latinBose", fn := fun _ => fun
  | [d1, d2, d3] => { results := [.lit (.bool true)], args := [d1, d2, d3] }
  | _ => none }
def latinBoseRow : OpenClaim := { program := "ytdbfpdhcaiiiaaadoor", sum := "0dcb19175c968d92d15ed36f2924d8866a258edb4e86436c701bedf3b57db47a", func := "parterre/parterrelaw2.LatinBose", spec := "latinBose", unfollowed := true, recurses := true, named := ["parterre/field.primes"], apart := false, laid := [("parterre/field.primes", laid_parterre_field_primes)] }
def LatinBoseSaid : Prop := latinBoseRow.holds Tryd.pinned (OpenSpec.ofChange latinBoseSpec)

/-- ITS FALSE NEIGHBOUR: 'it returns false'. Refute it at one input. -/
def latinBoseWrong : ChangeSpec := { name := "latinBose", fn := fun _ => fun
  | [d1, d2, d3] => { results := [.lit (.bool false)], args := [d1, d2, d3] }
  | _ => none }
def LatinBoseWrongFalsely : Prop := latinBoseRow.holds Tryd.pinned (OpenSpec.ofChange latinBoseWrong)

/-- 'parterrelaw2.DifferMade': WHATEVER THE INPUT: true; the input reads as it did. -/
def differMadeSpec : ChangeSpec := { name := "differMade", fn := fun _ => fun
  | [d1, d2] => { results := [.lit (.bool true)], args := [d1, d2] }
  | _ => none }
def differMadeRow : OpenClaim := { program := "ytdbfpdhcaiiiaaadoor", sum := "0dcb19175c968d92d15ed36f2924d8866a258edb4e86436c701bedf3b57db47a", func := "parterre/parterrelaw2.DifferMade", spec := "differMade", unfollowed := true, recurses := true, named := ["parterre/field.primes"], apart := false, laid := [("parterre/field.primes", laid_parterre_field_primes)] }
def DifferMadeSaid : Prop := differMadeRow.holds Tryd.pinned (OpenSpec.ofChange differMadeSpec)

/-- ITS FALSE NEIGHBOUR: 'it returns false'. Refute it at one input. -/
def differMadeWrong : ChangeSpec := { name := "differMade", fn := fun _ => fun
  | [d1, d2] => { results := [.lit (.bool false)], args := [d1, d2] }
  | _ => none }
def DifferMadeWrongFalsely : Prop := differMadeRow.holds Tryd.pinned (OpenSpec.ofChange differMadeWrong)

/-- 'parterrelaw2.DifferMakes': WHATEVER THE INPUT: true; the input reads as it did. -/
def differMakesSpec : ChangeSpec := { name := "differMakes", fn := fun _ => fun
  | [d1, d2, d3, d4] => { results := [.lit (.bool true)], args := [d1, d2, d3, d4] }
  | _ => none }
def differMakesRow : OpenClaim := { program := "ytdbfpdhcaiiiaaadoor", sum := "0dcb19175c968d92d15ed36f2924d8866a258edb4e86436c701bedf3b57db47a", func := "parterre/parterrelaw2.DifferMakes", spec := "differMakes", unfollowed := true, recurses := true, named := ["parterre/field.primes"], apart := false, laid := [("parterre/field.primes", laid_parterre_field_primes)] }
def DifferMakesSaid : Prop := differMakesRow.holds Tryd.pinned (OpenSpec.ofChange differMakesSpec)

/-- ITS FALSE NEIGHBOUR: 'it returns false'. Refute it at one input. -/
def differMakesWrong : ChangeSpec := { name := "differMakes", fn := fun _ => fun
  | [d1, d2, d3, d4] => { results := [.lit (.bool false)], args := [d1, d2, d3, d4] }
  | _ => none }
def DifferMakesWrongFalsely : Prop := differMakesRow.holds Tryd.pinned (OpenSpec.ofChange differMakesWrong)

/- THE SECOND FORM. 'bulk': how many values and letters a reading holds, each counted each time it is reached (what is shared counts as often as it is met; a slice's spare places count too). A statement '..UptoSaid' is the law's where the arguments, and the package variables that the reading takes, are together of bulk at most 1048576: NARROWER than '..Said'. Prove '..Said' where nothing that the law and all that it calls make is longer than what came in: it says more and counts as full. Else prove '..UptoSaid'. A law counts once. -/
mutual
def uptoBulk {H : Type} : DataW H → Nat
  | .lit (.string bytes) => bytes.length + 1
  | .lit _ => 1
  | .nil => 1
  | .ptr d => uptoBulk d + 1
  | .slice elems spare => uptoBulkAll elems + uptoBulkAll spare + 1
  | .agg parts => uptoBulkAll parts + 1
  | .iface _ d => uptoBulk d + 1
  | .map entries => uptoBulkEntries entries + 1
  | .held _ => 1
def uptoBulkAll {H : Type} : List (DataW H) → Nat
  | [] => 0
  | d :: r => uptoBulk d + uptoBulkAll r
def uptoBulkEntries {H : Type} : List (Lit × DataW H) → Nat
  | [] => 0
  | x :: r => uptoBulkEntry x + uptoBulkEntries r
def uptoBulkEntry {H : Type} : Lit × DataW H → Nat
  | (.string bytes, d) => bytes.length + uptoBulk d + 1
  | (_, d) => uptoBulk d + 1
 end
def uptoSmall : (H : Type) → List (DataW H) → Bool := fun _ ds => decide (uptoBulkAll ds ≤ 1048576)
def OpenSpec.upto (s : _root_.Go.ChangeSpec) : _root_.Go.OpenSpec := { _root_.Go.OpenSpec.ofChange s with cond := some uptoSmall }

/-- 'parterrelaw2.LatinMakes', WHERE WHAT IT READS IS OF BULK AT MOST 1048576: true; the input reads as it did. -/
def latinMakesUptoRow : OpenClaim := { program := "ytdbfpdhcaiiiaaadoor", sum := "0dcb19175c968d92d15ed36f2924d8866a258edb4e86436c701bedf3b57db47a", func := "parterre/parterrelaw2.LatinMakes", spec := "latinMakes", unfollowed := true, recurses := true, named := ["parterre/field.primes"], apart := false, laid := [("parterre/field.primes", laid_parterre_field_primes)], narrowed := true }
def LatinMakesUptoSaid : Prop := latinMakesUptoRow.holds Tryd.pinned (OpenSpec.upto latinMakesSpec)

/-- 'parterrelaw2.LatinBose', WHERE WHAT IT READS IS OF BULK AT MOST 1048576: true; the input reads as it did. -/
def latinBoseUptoRow : OpenClaim := { program := "ytdbfpdhcaiiiaaadoor", sum := "0dcb19175c968d92d15ed36f2924d8866a258edb4e86436c701bedf3b57db47a", func := "parterre/parterrelaw2.LatinBose", spec := "latinBose", unfollowed := true, recurses := true, named := ["parterre/field.primes"], apart := false, laid := [("parterre/field.primes", laid_parterre_field_primes)], narrowed := true }
def LatinBoseUptoSaid : Prop := latinBoseUptoRow.holds Tryd.pinned (OpenSpec.upto latinBoseSpec)

/-- 'parterrelaw2.DifferMade', WHERE WHAT IT READS IS OF BULK AT MOST 1048576: true; the input reads as it did. -/
def differMadeUptoRow : OpenClaim := { program := "ytdbfpdhcaiiiaaadoor", sum := "0dcb19175c968d92d15ed36f2924d8866a258edb4e86436c701bedf3b57db47a", func := "parterre/parterrelaw2.DifferMade", spec := "differMade", unfollowed := true, recurses := true, named := ["parterre/field.primes"], apart := false, laid := [("parterre/field.primes", laid_parterre_field_primes)], narrowed := true }
def DifferMadeUptoSaid : Prop := differMadeUptoRow.holds Tryd.pinned (OpenSpec.upto differMadeSpec)

/-- 'parterrelaw2.DifferMakes', WHERE WHAT IT READS IS OF BULK AT MOST 1048576: true; the input reads as it did. -/
def differMakesUptoRow : OpenClaim := { program := "ytdbfpdhcaiiiaaadoor", sum := "0dcb19175c968d92d15ed36f2924d8866a258edb4e86436c701bedf3b57db47a", func := "parterre/parterrelaw2.DifferMakes", spec := "differMakes", unfollowed := true, recurses := true, named := ["parterre/field.primes"], apart := false, laid := [("parterre/field.primes", laid_parterre_field_primes)], narrowed := true }
def DifferMakesUptoSaid : Prop := differMakesUptoRow.holds Tryd.pinned (OpenSpec.upto differMakesSpec)

end Rows
end Go.Proofs.YtdbfpdhcaiiiaaaDoor
