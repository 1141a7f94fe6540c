/-
  No cell of these rows narrows 'for every input' (looked for: loops, veiled, ifaces, maps, wideKeys, modest, calm, conditions, laid).
  DERIVED. THE GIVEN ROWS OF THIS SEAT. 10 by the template 'for every input the law returns true; each argument reads behind the call as it read before'; 0 by the template 'total and deterministic' (their statements: YtkmfhnjadpdkeaaTotals.lean).
  GIVEN WITH THE SEED: the statements are not yours to turn. If you find one false, say at which input.
  Laid BY PROGRAM, IN A SANDBOX (cutbox-rows.mjs): the forced cells as the released guide's own fill.sh prints them over the translation ae6eb97dc5b485b3… (all of the seat's roots in one cut). By AI agents, Wed Nov 11 2026. No macro, syntax, notation, axiom, sorry.
-/
import Derived.Test.YtkmfhnjadpdkeaaChecked
import GoSem.Claim
import GoSem.ClaimJoined
import GoSem.ClaimMapViews
import Derived.JoinedTies
import Derived.KernelRfl
namespace Go.Proofs.Ytkmfhnjadpdkeaa
/- THE CELL 'sum', in the pinned program and in every row, IS THE sha256 OF THE DUMP (.gsa) THAT YtkmfhnjadpdkeaaProg.lean LOADS. Nothing in Lean hashes anything: it is a label: what it is worth is what the hold of that sum in a sandbox is worth. -/
noncomputable def Try.pinned : Pinned := { name := "ytkmfhnjadpdkeaa", sum := "ae6eb97dc5b485b34ab0cfc45d7af3c28628cbf8d03400bdc2faebba29350638", checked := Try.checked }
namespace Rows
def none {H : Type} : Left H := { results := [], args := [] }

/-- 'parterrelaw2.LatinPairs': WHATEVER THE INPUT: true; the input reads as it did. -/
def latinPairsSpec : ChangeSpec := { name := "latinPairs", fn := fun _ => fun
  | [d1, d2] => { results := [.lit (.bool true)], args := [d1, d2] }
  | _ => none }
def latinPairsRow : OpenClaim := { program := "ytkmfhnjadpdkeaa", sum := "ae6eb97dc5b485b34ab0cfc45d7af3c28628cbf8d03400bdc2faebba29350638", func := "parterre/parterrelaw2.LatinPairs", spec := "latinPairs", unfollowed := true, recurses := true, apart := false }
def LatinPairsSaid : Prop := latinPairsRow.holds Try.pinned (OpenSpec.ofChange latinPairsSpec)

/-- ITS FALSE NEIGHBOUR: 'it returns false'. Refute it at one input. -/
def latinPairsWrong : ChangeSpec := { name := "latinPairs", fn := fun _ => fun
  | [d1, d2] => { results := [.lit (.bool false)], args := [d1, d2] }
  | _ => none }
def LatinPairsWrongFalsely : Prop := latinPairsRow.holds Try.pinned (OpenSpec.ofChange latinPairsWrong)

/-- 'parterrelaw2.QuasiSolves': WHATEVER THE INPUT: true; the input reads as it did. -/
def quasiSolvesSpec : ChangeSpec := { name := "quasiSolves", fn := fun _ => fun
  | [d1, d2, d3] => { results := [.lit (.bool true)], args := [d1, d2, d3] }
  | _ => none }
def quasiSolvesRow : OpenClaim := { program := "ytkmfhnjadpdkeaa", sum := "ae6eb97dc5b485b34ab0cfc45d7af3c28628cbf8d03400bdc2faebba29350638", func := "parterre/parterrelaw2.QuasiSolves", spec := "quasiSolves", unfollowed := true, recurses := true, apart := false }
def QuasiSolvesSaid : Prop := quasiSolvesRow.holds Try.pinned (OpenSpec.ofChange quasiSolvesSpec)

/-- ITS FALSE NEIGHBOUR: 'it returns false'. Refute it at one input. -/
def quasiSolvesWrong : ChangeSpec := { name := "quasiSolves", fn := fun _ => fun
  | [d1, d2, d3] => { results := [.lit (.bool false)], args := [d1, d2, d3] }
  | _ => none }
def QuasiSolvesWrongFalsely : Prop := quasiSolvesRow.holds Try.pinned (OpenSpec.ofChange quasiSolvesWrong)

/-- 'parterrelaw2.LatinEuler': WHATEVER THE INPUT: true; the input reads as it did. -/
def latinEulerSpec : ChangeSpec := { name := "latinEuler", fn := fun _ => fun
  | [d] => { results := [.lit (.bool true)], args := [d] }
  | _ => none }
def latinEulerRow : OpenClaim := { program := "ytkmfhnjadpdkeaa", sum := "ae6eb97dc5b485b34ab0cfc45d7af3c28628cbf8d03400bdc2faebba29350638", func := "parterre/parterrelaw2.LatinEuler", spec := "latinEuler", unfollowed := true, recurses := true, apart := false }
def LatinEulerSaid : Prop := latinEulerRow.holds Try.pinned (OpenSpec.ofChange latinEulerSpec)

/-- ITS FALSE NEIGHBOUR: 'it returns false'. Refute it at one input. -/
def latinEulerWrong : ChangeSpec := { name := "latinEuler", fn := fun _ => fun
  | [d] => { results := [.lit (.bool false)], args := [d] }
  | _ => none }
def LatinEulerWrongFalsely : Prop := latinEulerRow.holds Try.pinned (OpenSpec.ofChange latinEulerWrong)

/-- 'parterrelaw2.LatinCounts': WHATEVER THE INPUT: true; the input reads as it did. -/
def latinCountsSpec : ChangeSpec := { name := "latinCounts", fn := fun _ => fun
  | [d] => { results := [.lit (.bool true)], args := [d] }
  | _ => none }
def latinCountsRow : OpenClaim := { program := "ytkmfhnjadpdkeaa", sum := "ae6eb97dc5b485b34ab0cfc45d7af3c28628cbf8d03400bdc2faebba29350638", func := "parterre/parterrelaw2.LatinCounts", spec := "latinCounts", unfollowed := true, recurses := true, apart := false }
def LatinCountsSaid : Prop := latinCountsRow.holds Try.pinned (OpenSpec.ofChange latinCountsSpec)

/-- ITS FALSE NEIGHBOUR: 'it returns false'. Refute it at one input. -/
def latinCountsWrong : ChangeSpec := { name := "latinCounts", fn := fun _ => fun
  | [d] => { results := [.lit (.bool false)], args := [d] }
  | _ => none }
def LatinCountsWrongFalsely : Prop := latinCountsRow.holds Try.pinned (OpenSpec.ofChange latinCountsWrong)

/-- 'parterrelaw2.LatinExtends': WHATEVER THE INPUT: true; the input reads as it did. -/
def latinExtendsSpec : ChangeSpec := { name := "latinExtends", fn := fun _ => fun
  | [d1, d2] => { results := [.lit (.bool true)], args := [d1, d2] }
  | _ => none }
def latinExtendsRow : OpenClaim := { program := "ytkmfhnjadpdkeaa", sum := "ae6eb97dc5b485b34ab0cfc45d7af3c28628cbf8d03400bdc2faebba29350638", func := "parterre/parterrelaw2.LatinExtends", spec := "latinExtends", unfollowed := true, recurses := true, apart := false }
def LatinExtendsSaid : Prop := latinExtendsRow.holds Try.pinned (OpenSpec.ofChange latinExtendsSpec)

/-- ITS FALSE NEIGHBOUR: 'it returns false'. Refute it at one input. -/
def latinExtendsWrong : ChangeSpec := { name := "latinExtends", fn := fun _ => fun
  | [d1, d2] => { results := [.lit (.bool false)], args := [d1, d2] }
  | _ => none }
def LatinExtendsWrongFalsely : Prop := latinExtendsRow.holds Try.pinned (OpenSpec.ofChange latinExtendsWrong)

/-- 'parterrelaw2.QuasiAsks': WHATEVER THE INPUT: true; the input reads as it did. -/
def quasiAsksSpec : ChangeSpec := { name := "quasiAsks", fn := fun _ => fun
  | [d] => { results := [.lit (.bool true)], args := [d] }
  | _ => none }
def quasiAsksRow : OpenClaim := { program := "ytkmfhnjadpdkeaa", sum := "ae6eb97dc5b485b34ab0cfc45d7af3c28628cbf8d03400bdc2faebba29350638", func := "parterre/parterrelaw2.QuasiAsks", spec := "quasiAsks", unfollowed := true, recurses := true, apart := false }
def QuasiAsksSaid : Prop := quasiAsksRow.holds Try.pinned (OpenSpec.ofChange quasiAsksSpec)

/-- ITS FALSE NEIGHBOUR: 'it returns false'. Refute it at one input. -/
def quasiAsksWrong : ChangeSpec := { name := "quasiAsks", fn := fun _ => fun
  | [d] => { results := [.lit (.bool false)], args := [d] }
  | _ => none }
def QuasiAsksWrongFalsely : Prop := quasiAsksRow.holds Try.pinned (OpenSpec.ofChange quasiAsksWrong)

/-- 'parterrelaw2.QuasiAlike': WHATEVER THE INPUT: true; the input reads as it did. -/
def quasiAlikeSpec : ChangeSpec := { name := "quasiAlike", fn := fun _ => fun
  | [d1, d2] => { results := [.lit (.bool true)], args := [d1, d2] }
  | _ => none }
def quasiAlikeRow : OpenClaim := { program := "ytkmfhnjadpdkeaa", sum := "ae6eb97dc5b485b34ab0cfc45d7af3c28628cbf8d03400bdc2faebba29350638", func := "parterre/parterrelaw2.QuasiAlike", spec := "quasiAlike", unfollowed := true, recurses := true, apart := false }
def QuasiAlikeSaid : Prop := quasiAlikeRow.holds Try.pinned (OpenSpec.ofChange quasiAlikeSpec)

/-- ITS FALSE NEIGHBOUR: 'it returns false'. Refute it at one input. -/
def quasiAlikeWrong : ChangeSpec := { name := "quasiAlike", fn := fun _ => fun
  | [d1, d2] => { results := [.lit (.bool false)], args := [d1, d2] }
  | _ => none }
def QuasiAlikeWrongFalsely : Prop := quasiAlikeRow.holds Try.pinned (OpenSpec.ofChange quasiAlikeWrong)

/-- 'parterrelaw2.QuasiGroup': WHATEVER THE INPUT: true; the input reads as it did. -/
def quasiGroupSpec : ChangeSpec := { name := "quasiGroup", fn := fun _ => fun
  | [d] => { results := [.lit (.bool true)], args := [d] }
  | _ => none }
def quasiGroupRow : OpenClaim := { program := "ytkmfhnjadpdkeaa", sum := "ae6eb97dc5b485b34ab0cfc45d7af3c28628cbf8d03400bdc2faebba29350638", func := "parterre/parterrelaw2.QuasiGroup", spec := "quasiGroup", unfollowed := true, recurses := true, apart := false }
def QuasiGroupSaid : Prop := quasiGroupRow.holds Try.pinned (OpenSpec.ofChange quasiGroupSpec)

/-- ITS FALSE NEIGHBOUR: 'it returns false'. Refute it at one input. -/
def quasiGroupWrong : ChangeSpec := { name := "quasiGroup", fn := fun _ => fun
  | [d] => { results := [.lit (.bool false)], args := [d] }
  | _ => none }
def QuasiGroupWrongFalsely : Prop := quasiGroupRow.holds Try.pinned (OpenSpec.ofChange quasiGroupWrong)

/-- 'parterrelaw2.LatinHall': WHATEVER THE INPUT: true; the input reads as it did. -/
def latinHallSpec : ChangeSpec := { name := "latinHall", fn := fun _ => fun
  | [d1, d2] => { results := [.lit (.bool true)], args := [d1, d2] }
  | _ => none }
def latinHallRow : OpenClaim := { program := "ytkmfhnjadpdkeaa", sum := "ae6eb97dc5b485b34ab0cfc45d7af3c28628cbf8d03400bdc2faebba29350638", func := "parterre/parterrelaw2.LatinHall", spec := "latinHall", unfollowed := true, recurses := true, apart := false }
def LatinHallSaid : Prop := latinHallRow.holds Try.pinned (OpenSpec.ofChange latinHallSpec)

/-- ITS FALSE NEIGHBOUR: 'it returns false'. Refute it at one input. -/
def latinHallWrong : ChangeSpec := { name := "latinHall", fn := fun _ => fun
  | [d1, d2] => { results := [.lit (.bool false)], args := [d1, d2] }
  | _ => none }
def LatinHallWrongFalsely : Prop := latinHallRow.holds Try.pinned (OpenSpec.ofChange latinHallWrong)

/-- 'parterrelaw2.QuasiRenamed': WHATEVER THE INPUT: true; the input reads as it did. -/
def quasiRenamedSpec : ChangeSpec := { name := "quasiRenamed", fn := fun _ => fun
  | [d1, d2] => { results := [.lit (.bool true)], args := [d1, d2] }
  | _ => none }
def quasiRenamedRow : OpenClaim := { program := "ytkmfhnjadpdkeaa", sum := "ae6eb97dc5b485b34ab0cfc45d7af3c28628cbf8d03400bdc2faebba29350638", func := "parterre/parterrelaw2.QuasiRenamed", spec := "quasiRenamed", unfollowed := true, recurses := true, apart := false }
def QuasiRenamedSaid : Prop := quasiRenamedRow.holds Try.pinned (OpenSpec.ofChange quasiRenamedSpec)

/-- ITS FALSE NEIGHBOUR: 'it returns false'. Refute it at one input. -/
def quasiRenamedWrong : ChangeSpec := { name := "quasiRenamed", fn := fun _ => fun
  | [d1, d2] => { results := [.lit (.bool false)], args := [d1, d2] }
  | _ => none }
def QuasiRenamedWrongFalsely : Prop := quasiRenamedRow.holds Try.pinned (OpenSpec.ofChange quasiRenamedWrong)

/- THE SECOND FORM. 'bulk': how many values and letters a reading holds, each counted each time it is reached (what is shared counts as often as it is met; a slice's spare places count too). A statement '..UptoSaid' is the law's where the arguments, and the package variables that the reading takes, are together of bulk at most 1048576: NARROWER than '..Said'. Prove '..Said' where nothing that the law and all that it calls make is longer than what came in: it says more and counts as full. Else prove '..UptoSaid'. A law counts once. -/
mutual
def uptoBulk {H : Type} : DataW H → Nat
  | .lit (.string bytes) => bytes.length + 1
  | .lit _ => 1
  | .nil => 1
  | .ptr d => uptoBulk d + 1
  | .slice elems spare => uptoBulkAll elems + uptoBulkAll spare + 1
  | .agg parts => uptoBulkAll parts + 1
  | .iface _ d => uptoBulk d + 1
  | .map entries => uptoBulkEntries entries + 1
  | .held _ => 1
def uptoBulkAll {H : Type} : List (DataW H) → Nat
  | [] => 0
  | d :: r => uptoBulk d + uptoBulkAll r
def uptoBulkEntries {H : Type} : List (Lit × DataW H) → Nat
  | [] => 0
  | x :: r => uptoBulkEntry x + uptoBulkEntries r
def uptoBulkEntry {H : Type} : Lit × DataW H → Nat
  | (.string bytes, d) => bytes.length + uptoBulk d + 1
  | (_, d) => uptoBulk d + 1
 end
def uptoSmall : (H : Type) → List (DataW H) → Bool := fun _ ds => decide (uptoBulkAll ds ≤ 1048576)
def OpenSpec.upto (s : _root_.Go.ChangeSpec) : _root_.Go.OpenSpec := { _root_.Go.OpenSpec.ofChange s with cond := some uptoSmall }

/-- 'parterrelaw2.LatinPairs', WHERE WHAT IT READS IS OF BULK AT MOST 1048576: true; the input reads as it did. -/
def latinPairsUptoRow : OpenClaim := { program := "ytkmfhnjadpdkeaa", sum := "ae6eb97dc5b485b34ab0cfc45d7af3c28628cbf8d03400bdc2faebba29350638", func := "parterre/parterrelaw2.LatinPairs", spec := "latinPairs", unfollowed := true, recurses := true, apart := false, narrowed := true }
def LatinPairsUptoSaid : Prop := latinPairsUptoRow.holds Try.pinned (OpenSpec.upto latinPairsSpec)

/-- 'parterrelaw2.QuasiSolves', WHERE WHAT IT READS IS OF BULK AT MOST 1048576: true; the input reads as it did. -/
def quasiSolvesUptoRow : OpenClaim := { program := "ytkmfhnjadpdkeaa", sum := "ae6eb97dc5b485b34ab0cfc45d7af3c28628cbf8d03400bdc2faebba29350638", func := "parterre/parterrelaw2.QuasiSolves", spec := "quasiSolves", unfollowed := true, recurses := true, apart := false, narrowed := true }
def QuasiSolvesUptoSaid : Prop := quasiSolvesUptoRow.holds Try.pinned (OpenSpec.upto quasiSolvesSpec)

/-- 'parterrelaw2.LatinEuler', WHERE WHAT IT READS IS OF BULK AT MOST 1048576: true; the input reads as it did. -/
def latinEulerUptoRow : OpenClaim := { program := "ytkmfhnjadpdkeaa", sum := "ae6eb97dc5b485b34ab0cfc45d7af3c28628cbf8d03400bdc2faebba29350638", func := "parterre/parterrelaw2.LatinEuler", spec := "latinEuler", unfollowed := true, recurses := true, apart := false, narrowed := true }
def LatinEulerUptoSaid : Prop := latinEulerUptoRow.holds Try.pinned (OpenSpec.upto latinEulerSpec)

/-- 'parterrelaw2.LatinCounts', WHERE WHAT IT READS IS OF BULK AT MOST 1048576: true; the input reads as it did. -/
def latinCountsUptoRow : OpenClaim := { program := "ytkmfhnjadpdkeaa", sum := "ae6eb97dc5b485b34ab0cfc45d7af3c28628cbf8d03400bdc2faebba29350638", func := "parterre/parterrelaw2.LatinCounts", spec := "latinCounts", unfollowed := true, recurses := true, apart := false, narrowed := true }
def LatinCountsUptoSaid : Prop := latinCountsUptoRow.holds Try.pinned (OpenSpec.upto latinCountsSpec)

/-- 'parterrelaw2.LatinExtends', WHERE WHAT IT READS IS OF BULK AT MOST 1048576: true; the input reads as it did. -/
def latinExtendsUptoRow : OpenClaim := { program := "ytkmfhnjadpdkeaa", sum := "ae6eb97dc5b485b34ab0cfc45d7af3c28628cbf8d03400bdc2faebba29350638", func := "parterre/parterrelaw2.LatinExtends", spec := "latinExtends", unfollowed := true, recurses := true, apart := false, narrowed := true }
def LatinExtendsUptoSaid : Prop := latinExtendsUptoRow.holds Try.pinned (OpenSpec.upto latinExtendsSpec)

/-- 'parterrelaw2.QuasiAsks', WHERE WHAT IT READS IS OF BULK AT MOST 1048576: true; the input reads as it did. -/
def quasiAsksUptoRow : OpenClaim := { program := "ytkmfhnjadpdkeaa", sum := "ae6eb97dc5b485b34ab0cfc45d7af3c28628cbf8d03400bdc2faebba29350638", func := "parterre/parterrelaw2.QuasiAsks", spec := "quasiAsks", unfollowed := true, recurses := true, apart := false, narrowed := true }
def QuasiAsksUptoSaid : Prop := quasiAsksUptoRow.holds Try.pinned (OpenSpec.upto quasiAsksSpec)

/-- 'parterrelaw2.QuasiAlike', WHERE WHAT IT READS IS OF BULK AT MOST 1048576: true; the input reads as it did. -/
def quasiAlikeUptoRow : OpenClaim := { program := "ytkmfhnjadpdkeaa", sum := "ae6eb97dc5b485b34ab0cfc45d7af3c28628cbf8d03400bdc2faebba29350638", func := "parterre/parterrelaw2.QuasiAlike", spec := "quasiAlike", unfollowed := true, recurses := true, apart := false, narrowed := true }
def QuasiAlikeUptoSaid : Prop := quasiAlikeUptoRow.holds Try.pinned (OpenSpec.upto quasiAlikeSpec)

/-- 'parterrelaw2.QuasiGroup', WHERE WHAT IT READS IS OF BULK AT MOST 1048576: true; the input reads as it did. -/
def quasiGroupUptoRow : OpenClaim := { program := "ytkmfhnjadpdkeaa", sum := "ae6eb97dc5b485b34ab0cfc45d7af3c28628cbf8d03400bdc2faebba29350638", func := "parterre/parterrelaw2.QuasiGroup", spec := "quasiGroup", unfollowed := true, recurses := true, apart := false, narrowed := true }
def QuasiGroupUptoSaid : Prop := quasiGroupUptoRow.holds Try.pinned (OpenSpec.upto quasiGroupSpec)

/-- 'parterrelaw2.LatinHall', WHERE WHAT IT READS IS OF BULK AT MOST 1048576: true; the input reads as it did. -/
def latinHallUptoRow : OpenClaim := { program := "ytkmfhnjadpdkeaa", sum := "ae6eb97dc5b485b34ab0cfc45d7af3c28628cbf8d03400bdc2faebba29350638", func := "parterre/parterrelaw2.LatinHall", spec := "latinHall", unfollowed := true, recurses := true, apart := false, narrowed := true }
def LatinHallUptoSaid : Prop := latinHallUptoRow.holds Try.pinned (OpenSpec.upto latinHallSpec)

/-- 'parterrelaw2.QuasiRenamed', WHERE WHAT IT READS IS OF BULK AT MOST 1048576: true; the input reads as it did. -/
def quasiRenamedUptoRow : OpenClaim := { program := "ytkmfhnjadpdkeaa", sum := "ae6eb97dc5b485b34ab0cfc45d7af3c28628cbf8d03400bdc2faebba29350638", func := "parterre/parterrelaw2.QuasiRenamed", spec := "quasiRenamed", unfollowed := true, recurses := true, apart := false, narrowed := true }
def QuasiRenamedUptoSaid : Prop := quasiRenamedUptoRow.holds Try.pinned (OpenSpec.upto quasiRenamedSpec)

end Rows
end Go.Proofs.Ytkmfhnjadpdkeaa
