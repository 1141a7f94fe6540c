/-
  No cell of these rows narrows 'for every input' (looked for: loops, veiled, ifaces, maps, wideKeys, modest, calm, conditions, laid).
  DERIVED. THE GIVEN ROWS OF THIS SEAT. 6 by the template 'for every input the law returns true; each argument reads behind the call as it read before'; 0 by the template 'total and deterministic' (their statements: YtnmgambilpoeiaaTotals.lean).
  GIVEN WITH THE SEED: the statements are not yours to turn. If you find one false, say at which input.
  Laid BY PROGRAM, IN A SANDBOX (cutbox-rows.mjs): the forced cells as the released guide's own fill.sh prints them over the translation 1b57cab043ceaaca… (all of the seat's roots in one cut). By AI agents, Wed Nov 11 2026. No macro, syntax, notation, axiom, sorry.
-/
import Derived.Test.YtnmgambilpoeiaaChecked
import GoSem.Claim
import GoSem.ClaimJoined
import GoSem.ClaimMapViews
import Derived.JoinedTies
import Derived.KernelRfl
namespace Go.Proofs.Ytnmgambilpoeiaa
/- THE CELL 'sum', in the pinned program and in every row, IS THE sha256 OF THE DUMP (.gsa) THAT YtnmgambilpoeiaaProg.lean LOADS. Nothing in Lean hashes anything: it is a label: what it is worth is what the hold of that sum in a sandbox is worth. -/
noncomputable def Try.pinned : Pinned := { name := "ytnmgambilpoeiaa", sum := "1b57cab043ceaaca9f681078be0397925462df04956b83b7798e9fdb9f540ec6", checked := Try.checked }
namespace Rows
def none {H : Type} : Left H := { results := [], args := [] }

/-- 'parterrelaw2.DifferOther': WHATEVER THE INPUT: true; the input reads as it did. -/
def differOtherSpec : ChangeSpec := { name := "differOther", fn := fun _ => fun
  | [d1, d2, d3, d4] => { results := [.lit (.bool true)], args := [d1, d2, d3, d4] }
  | _ => none }
def differOtherRow : OpenClaim := { program := "ytnmgambilpoeiaa", sum := "1b57cab043ceaaca9f681078be0397925462df04956b83b7798e9fdb9f540ec6", func := "parterre/parterrelaw2.DifferOther", spec := "differOther", unfollowed := true, recurses := true, plainKeys := false, apart := false }
def DifferOtherSaid : Prop := differOtherRow.holds Try.pinned (OpenSpec.ofChange differOtherSpec)

/-- ITS FALSE NEIGHBOUR: 'it returns false'. Refute it at one input. -/
def differOtherWrong : ChangeSpec := { name := "differOther", fn := fun _ => fun
  | [d1, d2, d3, d4] => { results := [.lit (.bool false)], args := [d1, d2, d3, d4] }
  | _ => none }
def DifferOtherWrongFalsely : Prop := differOtherRow.holds Try.pinned (OpenSpec.ofChange differOtherWrong)

/-- 'parterrelaw2.RulerCostas': WHATEVER THE INPUT: true; the input reads as it did. -/
def rulerCostasSpec : ChangeSpec := { name := "rulerCostas", fn := fun _ => fun
  | [d1, d2, d3, d4] => { results := [.lit (.bool true)], args := [d1, d2, d3, d4] }
  | _ => none }
def rulerCostasRow : OpenClaim := { program := "ytnmgambilpoeiaa", sum := "1b57cab043ceaaca9f681078be0397925462df04956b83b7798e9fdb9f540ec6", func := "parterre/parterrelaw2.RulerCostas", spec := "rulerCostas", unfollowed := true, recurses := true, plainKeys := false, apart := false }
def RulerCostasSaid : Prop := rulerCostasRow.holds Try.pinned (OpenSpec.ofChange rulerCostasSpec)

/-- ITS FALSE NEIGHBOUR: 'it returns false'. Refute it at one input. -/
def rulerCostasWrong : ChangeSpec := { name := "rulerCostas", fn := fun _ => fun
  | [d1, d2, d3, d4] => { results := [.lit (.bool false)], args := [d1, d2, d3, d4] }
  | _ => none }
def RulerCostasWrongFalsely : Prop := rulerCostasRow.holds Try.pinned (OpenSpec.ofChange rulerCostasWrong)

/-- 'parterrelaw2.RulerWelch': WHATEVER THE INPUT: true; the input reads as it did. -/
def rulerWelchSpec : ChangeSpec := { name := "rulerWelch", fn := fun _ => fun
  | [d1, d2, d3] => { results := [.lit (.bool true)], args := [d1, d2, d3] }
  | _ => none }
def rulerWelchRow : OpenClaim := { program := "ytnmgambilpoeiaa", sum := "1b57cab043ceaaca9f681078be0397925462df04956b83b7798e9fdb9f540ec6", func := "parterre/parterrelaw2.RulerWelch", spec := "rulerWelch", unfollowed := true, recurses := true, plainKeys := false, apart := false }
def RulerWelchSaid : Prop := rulerWelchRow.holds Try.pinned (OpenSpec.ofChange rulerWelchSpec)

/-- ITS FALSE NEIGHBOUR: 'it returns false'. Refute it at one input. -/
def rulerWelchWrong : ChangeSpec := { name := "rulerWelch", fn := fun _ => fun
  | [d1, d2, d3] => { results := [.lit (.bool false)], args := [d1, d2, d3] }
  | _ => none }
def RulerWelchWrongFalsely : Prop := rulerWelchRow.holds Try.pinned (OpenSpec.ofChange rulerWelchWrong)

/-- 'parterrelaw2.DifferLevels': WHATEVER THE INPUT: true; the input reads as it did. -/
def differLevelsSpec : ChangeSpec := { name := "differLevels", fn := fun _ => fun
  | [d1, d2] => { results := [.lit (.bool true)], args := [d1, d2] }
  | _ => none }
def differLevelsRow : OpenClaim := { program := "ytnmgambilpoeiaa", sum := "1b57cab043ceaaca9f681078be0397925462df04956b83b7798e9fdb9f540ec6", func := "parterre/parterrelaw2.DifferLevels", spec := "differLevels", unfollowed := true, recurses := true, plainKeys := false, apart := false }
def DifferLevelsSaid : Prop := differLevelsRow.holds Try.pinned (OpenSpec.ofChange differLevelsSpec)

/-- ITS FALSE NEIGHBOUR: 'it returns false'. Refute it at one input. -/
def differLevelsWrong : ChangeSpec := { name := "differLevels", fn := fun _ => fun
  | [d1, d2] => { results := [.lit (.bool false)], args := [d1, d2] }
  | _ => none }
def DifferLevelsWrongFalsely : Prop := differLevelsRow.holds Try.pinned (OpenSpec.ofChange differLevelsWrong)

/-- 'parterrelaw2.DifferHall': WHATEVER THE INPUT: true; the input reads as it did. -/
def differHallSpec : ChangeSpec := { name := "differHall", fn := fun _ => fun
  | [d1, d2] => { results := [.lit (.bool true)], args := [d1, d2] }
  | _ => none }
def differHallRow : OpenClaim := { program := "ytnmgambilpoeiaa", sum := "1b57cab043ceaaca9f681078be0397925462df04956b83b7798e9fdb9f540ec6", func := "parterre/parterrelaw2.DifferHall", spec := "differHall", unfollowed := true, recurses := true, plainKeys := false, apart := false }
def DifferHallSaid : Prop := differHallRow.holds Try.pinned (OpenSpec.ofChange differHallSpec)

/-- ITS FALSE NEIGHBOUR: 'it returns false'. Refute it at one input. -/
def differHallWrong : ChangeSpec := { name := "differHall", fn := fun _ => fun
  | [d1, d2] => { results := [.lit (.bool false)], args := [d1, d2] }
  | _ => none }
def DifferHallWrongFalsely : Prop := differHallRow.holds Try.pinned (OpenSpec.ofChange differHallWrong)

/-- 'parterrelaw2.DifferDesigns': WHATEVER THE INPUT: true; the input reads as it did. -/
def differDesignsSpec : ChangeSpec := { name := "differDesigns", fn := fun _ => fun
  | [d1, d2] => { results := [.lit (.bool true)], args := [d1, d2] }
  | _ => none }
def differDesignsRow : OpenClaim := { program := "ytnmgambilpoeiaa", sum := "1b57cab043ceaaca9f681078be0397925462df04956b83b7798e9fdb9f540ec6", func := "parterre/parterrelaw2.DifferDesigns", spec := "differDesigns", unfollowed := true, recurses := true, plainKeys := false, apart := false }
def DifferDesignsSaid : Prop := differDesignsRow.holds Try.pinned (OpenSpec.ofChange differDesignsSpec)

/-- ITS FALSE NEIGHBOUR: 'it returns false'. Refute it at one input. -/
def differDesignsWrong : ChangeSpec := { name := "differDesigns", fn := fun _ => fun
  | [d1, d2] => { results := [.lit (.bool false)], args := [d1, d2] }
  | _ => none }
def DifferDesignsWrongFalsely : Prop := differDesignsRow.holds Try.pinned (OpenSpec.ofChange differDesignsWrong)

/- THE SECOND FORM. 'bulk': how many values and letters a reading holds, each counted each time it is reached (what is shared counts as often as it is met; a slice's spare places count too). A statement '..UptoSaid' is the law's where the arguments, and the package variables that the reading takes, are together of bulk at most 1048576: NARROWER than '..Said'. Prove '..Said' where nothing that the law and all that it calls make is longer than what came in: it says more and counts as full. Else prove '..UptoSaid'. A law counts once. -/
mutual
def uptoBulk {H : Type} : DataW H → Nat
  | .lit (.string bytes) => bytes.length + 1
  | .lit _ => 1
  | .nil => 1
  | .ptr d => uptoBulk d + 1
  | .slice elems spare => uptoBulkAll elems + uptoBulkAll spare + 1
  | .agg parts => uptoBulkAll parts + 1
  | .iface _ d => uptoBulk d + 1
  | .map entries => uptoBulkEntries entries + 1
  | .held _ => 1
def uptoBulkAll {H : Type} : List (DataW H) → Nat
  | [] => 0
  | d :: r => uptoBulk d + uptoBulkAll r
def uptoBulkEntries {H : Type} : List (Lit × DataW H) → Nat
  | [] => 0
  | x :: r => uptoBulkEntry x + uptoBulkEntries r
def uptoBulkEntry {H : Type} : Lit × DataW H → Nat
  | (.string bytes, d) => bytes.length + uptoBulk d + 1
  | (_, d) => uptoBulk d + 1
 end
def uptoSmall : (H : Type) → List (DataW H) → Bool := fun _ ds => decide (uptoBulkAll ds ≤ 1048576)
def OpenSpec.upto (s : _root_.Go.ChangeSpec) : _root_.Go.OpenSpec := { _root_.Go.OpenSpec.ofChange s with cond := some uptoSmall }

/-- 'parterrelaw2.DifferOther', WHERE WHAT IT READS IS OF BULK AT MOST 1048576: true; the input reads as it did. -/
def differOtherUptoRow : OpenClaim := { program := "ytnmgambilpoeiaa", sum := "1b57cab043ceaaca9f681078be0397925462df04956b83b7798e9fdb9f540ec6", func := "parterre/parterrelaw2.DifferOther", spec := "differOther", unfollowed := true, recurses := true, plainKeys := false, apart := false, narrowed := true }
def DifferOtherUptoSaid : Prop := differOtherUptoRow.holds Try.pinned (OpenSpec.upto differOtherSpec)

/-- 'parterrelaw2.RulerCostas', WHERE WHAT IT READS IS OF BULK AT MOST 1048576: true; the input reads as it did. -/
def rulerCostasUptoRow : OpenClaim := { program := "ytnmgambilpoeiaa", sum := "1b57cab043ceaaca9f681078be0397925462df04956b83b7798e9fdb9f540ec6", func := "parterre/parterrelaw2.RulerCostas", spec := "rulerCostas", unfollowed := true, recurses := true, plainKeys := false, apart := false, narrowed := true }
def RulerCostasUptoSaid : Prop := rulerCostasUptoRow.holds Try.pinned (OpenSpec.upto rulerCostasSpec)

/-- 'parterrelaw2.RulerWelch', WHERE WHAT IT READS IS OF BULK AT MOST 1048576: true; the input reads as it did. -/
def rulerWelchUptoRow : OpenClaim := { program := "ytnmgambilpoeiaa", sum := "1b57cab043ceaaca9f681078be0397925462df04956b83b7798e9fdb9f540ec6", func := "parterre/parterrelaw2.RulerWelch", spec := "rulerWelch", unfollowed := true, recurses := true, plainKeys := false, apart := false, narrowed := true }
def RulerWelchUptoSaid : Prop := rulerWelchUptoRow.holds Try.pinned (OpenSpec.upto rulerWelchSpec)

/-- 'parterrelaw2.DifferLevels', WHERE WHAT IT READS IS OF BULK AT MOST 1048576: true; the input reads as it did. -/
def differLevelsUptoRow : OpenClaim := { program := "ytnmgambilpoeiaa", sum := "1b57cab043ceaaca9f681078be0397925462df04956b83b7798e9fdb9f540ec6", func := "parterre/parterrelaw2.DifferLevels", spec := "differLevels", unfollowed := true, recurses := true, plainKeys := false, apart := false, narrowed := true }
def DifferLevelsUptoSaid : Prop := differLevelsUptoRow.holds Try.pinned (OpenSpec.upto differLevelsSpec)

/-- 'parterrelaw2.DifferHall', WHERE WHAT IT READS IS OF BULK AT MOST 1048576: true; the input reads as it did. -/
def differHallUptoRow : OpenClaim := { program := "ytnmgambilpoeiaa", sum := "1b57cab043ceaaca9f681078be0397925462df04956b83b7798e9fdb9f540ec6", func := "parterre/parterrelaw2.DifferHall", spec := "differHall", unfollowed := true, recurses := true, plainKeys := false, apart := false, narrowed := true }
def DifferHallUptoSaid : Prop := differHallUptoRow.holds Try.pinned (OpenSpec.upto differHallSpec)

/-- 'parterrelaw2.DifferDesigns', WHERE WHAT IT READS IS OF BULK AT MOST 1048576: true; the input reads as it did. -/
def differDesignsUptoRow : OpenClaim := { program := "ytnmgambilpoeiaa", sum := "1b57cab043ceaaca9f681078be0397925462df04956b83b7798e9fdb9f540ec6", func := "parterre/parterrelaw2.DifferDesigns", spec := "differDesigns", unfollowed := true, recurses := true, plainKeys := false, apart := false, narrowed := true }
def DifferDesignsUptoSaid : Prop := differDesignsUptoRow.holds Try.pinned (OpenSpec.upto differDesignsSpec)

end Rows
end Go.Proofs.Ytnmgambilpoeiaa
