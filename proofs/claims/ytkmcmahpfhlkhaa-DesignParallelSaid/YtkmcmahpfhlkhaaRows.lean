/-
  No cell of these rows narrows 'for every input' (looked for: loops, veiled, ifaces, maps, wideKeys, modest, calm, conditions, laid).
  DERIVED. THE GIVEN ROWS OF THIS SEAT. 9 by the template 'for every input the law returns true; each argument reads behind the call as it read before'; 0 by the template 'total and deterministic' (their statements: YtkmcmahpfhlkhaaTotals.lean).
  GIVEN WITH THE SEED: the statements are not yours to turn. If you find one false, say at which input.
  Laid BY PROGRAM, IN A SANDBOX (cutbox-rows.mjs): the forced cells as the released guide's own fill.sh prints them over the translation 683cdcce5b91c2f7… (all of the seat's roots in one cut). By AI agents, Wed Nov 11 2026. No macro, syntax, notation, axiom, sorry.
-/
import Derived.Test.YtkmcmahpfhlkhaaChecked
import GoSem.Claim
import GoSem.ClaimJoined
import GoSem.ClaimMapViews
import Derived.JoinedTies
import Derived.KernelRfl
namespace Go.Proofs.Ytkmcmahpfhlkhaa
/- THE CELL 'sum', in the pinned program and in every row, IS THE sha256 OF THE DUMP (.gsa) THAT YtkmcmahpfhlkhaaProg.lean LOADS. Nothing in Lean hashes anything: it is a label: what it is worth is what the hold of that sum in a sandbox is worth. -/
noncomputable def Try.pinned : Pinned := { name := "ytkmcmahpfhlkhaa", sum := "683cdcce5b91c2f75e6e2396384be302165882c1a654456399689b35c41fe8ef", checked := Try.checked }
namespace Rows
def none {H : Type} : Left H := { results := [], args := [] }

/-- 'parterrelaw2.DesignParallel': WHATEVER THE INPUT: true; the input reads as it did. -/
def designParallelSpec : ChangeSpec := { name := "designParallel", fn := fun _ => fun
  | [d] => { results := [.lit (.bool true)], args := [d] }
  | _ => none }
def designParallelRow : OpenClaim := { program := "ytkmcmahpfhlkhaa", sum := "683cdcce5b91c2f75e6e2396384be302165882c1a654456399689b35c41fe8ef", func := "parterre/parterrelaw2.DesignParallel", spec := "designParallel", unfollowed := true, recurses := true, plainKeys := false, apart := false }
def DesignParallelSaid : Prop := designParallelRow.holds Try.pinned (OpenSpec.ofChange designParallelSpec)

/-- ITS FALSE NEIGHBOUR: 'it returns false'. Refute it at one input. -/
def designParallelWrong : ChangeSpec := { name := "designParallel", fn := fun _ => fun
  | [d] => { results := [.lit (.bool false)], args := [d] }
  | _ => none }
def DesignParallelWrongFalsely : Prop := designParallelRow.holds Try.pinned (OpenSpec.ofChange designParallelWrong)

/-- 'parterrelaw2.DesignLevels': WHATEVER THE INPUT: true; the input reads as it did. -/
def designLevelsSpec : ChangeSpec := { name := "designLevels", fn := fun _ => fun
  | [d1, d2] => { results := [.lit (.bool true)], args := [d1, d2] }
  | _ => none }
def designLevelsRow : OpenClaim := { program := "ytkmcmahpfhlkhaa", sum := "683cdcce5b91c2f75e6e2396384be302165882c1a654456399689b35c41fe8ef", func := "parterre/parterrelaw2.DesignLevels", spec := "designLevels", unfollowed := true, recurses := true, plainKeys := false, apart := false }
def DesignLevelsSaid : Prop := designLevelsRow.holds Try.pinned (OpenSpec.ofChange designLevelsSpec)

/-- ITS FALSE NEIGHBOUR: 'it returns false'. Refute it at one input. -/
def designLevelsWrong : ChangeSpec := { name := "designLevels", fn := fun _ => fun
  | [d1, d2] => { results := [.lit (.bool false)], args := [d1, d2] }
  | _ => none }
def DesignLevelsWrongFalsely : Prop := designLevelsRow.holds Try.pinned (OpenSpec.ofChange designLevelsWrong)

/-- 'parterrelaw2.DesignFisher': WHATEVER THE INPUT: true; the input reads as it did. -/
def designFisherSpec : ChangeSpec := { name := "designFisher", fn := fun _ => fun
  | [d] => { results := [.lit (.bool true)], args := [d] }
  | _ => none }
def designFisherRow : OpenClaim := { program := "ytkmcmahpfhlkhaa", sum := "683cdcce5b91c2f75e6e2396384be302165882c1a654456399689b35c41fe8ef", func := "parterre/parterrelaw2.DesignFisher", spec := "designFisher", unfollowed := true, recurses := true, plainKeys := false, apart := false }
def DesignFisherSaid : Prop := designFisherRow.holds Try.pinned (OpenSpec.ofChange designFisherSpec)

/-- ITS FALSE NEIGHBOUR: 'it returns false'. Refute it at one input. -/
def designFisherWrong : ChangeSpec := { name := "designFisher", fn := fun _ => fun
  | [d] => { results := [.lit (.bool false)], args := [d] }
  | _ => none }
def DesignFisherWrongFalsely : Prop := designFisherRow.holds Try.pinned (OpenSpec.ofChange designFisherWrong)

/-- 'parterrelaw2.DesignDown': WHATEVER THE INPUT: true; the input reads as it did. -/
def designDownSpec : ChangeSpec := { name := "designDown", fn := fun _ => fun
  | [d1, d2] => { results := [.lit (.bool true)], args := [d1, d2] }
  | _ => none }
def designDownRow : OpenClaim := { program := "ytkmcmahpfhlkhaa", sum := "683cdcce5b91c2f75e6e2396384be302165882c1a654456399689b35c41fe8ef", func := "parterre/parterrelaw2.DesignDown", spec := "designDown", unfollowed := true, recurses := true, plainKeys := false, apart := false }
def DesignDownSaid : Prop := designDownRow.holds Try.pinned (OpenSpec.ofChange designDownSpec)

/-- ITS FALSE NEIGHBOUR: 'it returns false'. Refute it at one input. -/
def designDownWrong : ChangeSpec := { name := "designDown", fn := fun _ => fun
  | [d1, d2] => { results := [.lit (.bool false)], args := [d1, d2] }
  | _ => none }
def DesignDownWrongFalsely : Prop := designDownRow.holds Try.pinned (OpenSpec.ofChange designDownWrong)

/-- 'parterrelaw2.DesignOther': WHATEVER THE INPUT: true; the input reads as it did. -/
def designOtherSpec : ChangeSpec := { name := "designOther", fn := fun _ => fun
  | [d1, d2] => { results := [.lit (.bool true)], args := [d1, d2] }
  | _ => none }
def designOtherRow : OpenClaim := { program := "ytkmcmahpfhlkhaa", sum := "683cdcce5b91c2f75e6e2396384be302165882c1a654456399689b35c41fe8ef", func := "parterre/parterrelaw2.DesignOther", spec := "designOther", unfollowed := true, recurses := true, plainKeys := false, apart := false }
def DesignOtherSaid : Prop := designOtherRow.holds Try.pinned (OpenSpec.ofChange designOtherSpec)

/-- ITS FALSE NEIGHBOUR: 'it returns false'. Refute it at one input. -/
def designOtherWrong : ChangeSpec := { name := "designOther", fn := fun _ => fun
  | [d1, d2] => { results := [.lit (.bool false)], args := [d1, d2] }
  | _ => none }
def DesignOtherWrongFalsely : Prop := designOtherRow.holds Try.pinned (OpenSpec.ofChange designOtherWrong)

/-- 'parterrelaw2.DesignTurns': WHATEVER THE INPUT: true; the input reads as it did. -/
def designTurnsSpec : ChangeSpec := { name := "designTurns", fn := fun _ => fun
  | [d1, d2, d3] => { results := [.lit (.bool true)], args := [d1, d2, d3] }
  | _ => none }
def designTurnsRow : OpenClaim := { program := "ytkmcmahpfhlkhaa", sum := "683cdcce5b91c2f75e6e2396384be302165882c1a654456399689b35c41fe8ef", func := "parterre/parterrelaw2.DesignTurns", spec := "designTurns", unfollowed := true, recurses := true, plainKeys := false, apart := false }
def DesignTurnsSaid : Prop := designTurnsRow.holds Try.pinned (OpenSpec.ofChange designTurnsSpec)

/-- ITS FALSE NEIGHBOUR: 'it returns false'. Refute it at one input. -/
def designTurnsWrong : ChangeSpec := { name := "designTurns", fn := fun _ => fun
  | [d1, d2, d3] => { results := [.lit (.bool false)], args := [d1, d2, d3] }
  | _ => none }
def DesignTurnsWrongFalsely : Prop := designTurnsRow.holds Try.pinned (OpenSpec.ofChange designTurnsWrong)

/-- 'parterrelaw2.DesignParts': WHATEVER THE INPUT: true; the input reads as it did. -/
def designPartsSpec : ChangeSpec := { name := "designParts", fn := fun _ => fun
  | [d1, d2, d3] => { results := [.lit (.bool true)], args := [d1, d2, d3] }
  | _ => none }
def designPartsRow : OpenClaim := { program := "ytkmcmahpfhlkhaa", sum := "683cdcce5b91c2f75e6e2396384be302165882c1a654456399689b35c41fe8ef", func := "parterre/parterrelaw2.DesignParts", spec := "designParts", unfollowed := true, recurses := true, plainKeys := false, apart := false }
def DesignPartsSaid : Prop := designPartsRow.holds Try.pinned (OpenSpec.ofChange designPartsSpec)

/-- ITS FALSE NEIGHBOUR: 'it returns false'. Refute it at one input. -/
def designPartsWrong : ChangeSpec := { name := "designParts", fn := fun _ => fun
  | [d1, d2, d3] => { results := [.lit (.bool false)], args := [d1, d2, d3] }
  | _ => none }
def DesignPartsWrongFalsely : Prop := designPartsRow.holds Try.pinned (OpenSpec.ofChange designPartsWrong)

/-- 'parterrelaw2.DesignMeets': WHATEVER THE INPUT: true; the input reads as it did. -/
def designMeetsSpec : ChangeSpec := { name := "designMeets", fn := fun _ => fun
  | [d] => { results := [.lit (.bool true)], args := [d] }
  | _ => none }
def designMeetsRow : OpenClaim := { program := "ytkmcmahpfhlkhaa", sum := "683cdcce5b91c2f75e6e2396384be302165882c1a654456399689b35c41fe8ef", func := "parterre/parterrelaw2.DesignMeets", spec := "designMeets", unfollowed := true, recurses := true, plainKeys := false, apart := false }
def DesignMeetsSaid : Prop := designMeetsRow.holds Try.pinned (OpenSpec.ofChange designMeetsSpec)

/-- ITS FALSE NEIGHBOUR: 'it returns false'. Refute it at one input. -/
def designMeetsWrong : ChangeSpec := { name := "designMeets", fn := fun _ => fun
  | [d] => { results := [.lit (.bool false)], args := [d] }
  | _ => none }
def DesignMeetsWrongFalsely : Prop := designMeetsRow.holds Try.pinned (OpenSpec.ofChange designMeetsWrong)

/-- 'parterrelaw2.DesignRyser': WHATEVER THE INPUT: true; the input reads as it did. -/
def designRyserSpec : ChangeSpec := { name := "designRyser", fn := fun _ => fun
  | [d] => { results := [.lit (.bool true)], args := [d] }
  | _ => none }
def designRyserRow : OpenClaim := { program := "ytkmcmahpfhlkhaa", sum := "683cdcce5b91c2f75e6e2396384be302165882c1a654456399689b35c41fe8ef", func := "parterre/parterrelaw2.DesignRyser", spec := "designRyser", unfollowed := true, recurses := true, plainKeys := false, apart := false }
def DesignRyserSaid : Prop := designRyserRow.holds Try.pinned (OpenSpec.ofChange designRyserSpec)

/-- ITS FALSE NEIGHBOUR: 'it returns false'. Refute it at one input. -/
def designRyserWrong : ChangeSpec := { name := "designRyser", fn := fun _ => fun
  | [d] => { results := [.lit (.bool false)], args := [d] }
  | _ => none }
def DesignRyserWrongFalsely : Prop := designRyserRow.holds Try.pinned (OpenSpec.ofChange designRyserWrong)

/- THE SECOND FORM. 'bulk': how many values and letters a reading holds, each counted each time it is reached (what is shared counts as often as it is met; a slice's spare places count too). A statement '..UptoSaid' is the law's where the arguments, and the package variables that the reading takes, are together of bulk at most 1048576: NARROWER than '..Said'. Prove '..Said' where nothing that the law and all that it calls make is longer than what came in: it says more and counts as full. Else prove '..UptoSaid'. A law counts once. -/
mutual
def uptoBulk {H : Type} : DataW H → Nat
  | .lit (.string bytes) => bytes.length + 1
  | .lit _ => 1
  | .nil => 1
  | .ptr d => uptoBulk d + 1
  | .slice elems spare => uptoBulkAll elems + uptoBulkAll spare + 1
  | .agg parts => uptoBulkAll parts + 1
  | .iface _ d => uptoBulk d + 1
  | .map entries => uptoBulkEntries entries + 1
  | .held _ => 1
def uptoBulkAll {H : Type} : List (DataW H) → Nat
  | [] => 0
  | d :: r => uptoBulk d + uptoBulkAll r
def uptoBulkEntries {H : Type} : List (Lit × DataW H) → Nat
  | [] => 0
  | x :: r => uptoBulkEntry x + uptoBulkEntries r
def uptoBulkEntry {H : Type} : Lit × DataW H → Nat
  | (.string bytes, d) => bytes.length + uptoBulk d + 1
  | (_, d) => uptoBulk d + 1
 end
def uptoSmall : (H : Type) → List (DataW H) → Bool := fun _ ds => decide (uptoBulkAll ds ≤ 1048576)
def OpenSpec.upto (s : _root_.Go.ChangeSpec) : _root_.Go.OpenSpec := { _root_.Go.OpenSpec.ofChange s with cond := some uptoSmall }

/-- 'parterrelaw2.DesignParallel', WHERE WHAT IT READS IS OF BULK AT MOST 1048576: true; the input reads as it did. -/
def designParallelUptoRow : OpenClaim := { program := "ytkmcmahpfhlkhaa", sum := "683cdcce5b91c2f75e6e2396384be302165882c1a654456399689b35c41fe8ef", func := "parterre/parterrelaw2.DesignParallel", spec := "designParallel", unfollowed := true, recurses := true, plainKeys := false, apart := false, narrowed := true }
def DesignParallelUptoSaid : Prop := designParallelUptoRow.holds Try.pinned (OpenSpec.upto designParallelSpec)

/-- 'parterrelaw2.DesignLevels', WHERE WHAT IT READS IS OF BULK AT MOST 1048576: true; the input reads as it did. -/
def designLevelsUptoRow : OpenClaim := { program := "ytkmcmahpfhlkhaa", sum := "683cdcce5b91c2f75e6e2396384be302165882c1a654456399689b35c41fe8ef", func := "parterre/parterrelaw2.DesignLevels", spec := "designLevels", unfollowed := true, recurses := true, plainKeys := false, apart := false, narrowed := true }
def DesignLevelsUptoSaid : Prop := designLevelsUptoRow.holds Try.pinned (OpenSpec.upto designLevelsSpec)

/-- 'parterrelaw2.DesignFisher', WHERE WHAT IT READS IS OF BULK AT MOST 1048576: true; the input reads as it did. -/
def designFisherUptoRow : OpenClaim := { program := "ytkmcmahpfhlkhaa", sum := "683cdcce5b91c2f75e6e2396384be302165882c1a654456399689b35c41fe8ef", func := "parterre/parterrelaw2.DesignFisher", spec := "designFisher", unfollowed := true, recurses := true, plainKeys := false, apart := false, narrowed := true }
def DesignFisherUptoSaid : Prop := designFisherUptoRow.holds Try.pinned (OpenSpec.upto designFisherSpec)

/-- 'parterrelaw2.DesignDown', WHERE WHAT IT READS IS OF BULK AT MOST 1048576: true; the input reads as it did. -/
def designDownUptoRow : OpenClaim := { program := "ytkmcmahpfhlkhaa", sum := "683cdcce5b91c2f75e6e2396384be302165882c1a654456399689b35c41fe8ef", func := "parterre/parterrelaw2.DesignDown", spec := "designDown", unfollowed := true, recurses := true, plainKeys := false, apart := false, narrowed := true }
def DesignDownUptoSaid : Prop := designDownUptoRow.holds Try.pinned (OpenSpec.upto designDownSpec)

/-- 'parterrelaw2.DesignOther', WHERE WHAT IT READS IS OF BULK AT MOST 1048576: true; the input reads as it did. -/
def designOtherUptoRow : OpenClaim := { program := "ytkmcmahpfhlkhaa", sum := "683cdcce5b91c2f75e6e2396384be302165882c1a654456399689b35c41fe8ef", func := "parterre/parterrelaw2.DesignOther", spec := "designOther", unfollowed := true, recurses := true, plainKeys := false, apart := false, narrowed := true }
def DesignOtherUptoSaid : Prop := designOtherUptoRow.holds Try.pinned (OpenSpec.upto designOtherSpec)

/-- 'parterrelaw2.DesignTurns', WHERE WHAT IT READS IS OF BULK AT MOST 1048576: true; the input reads as it did. -/
def designTurnsUptoRow : OpenClaim := { program := "ytkmcmahpfhlkhaa", sum := "683cdcce5b91c2f75e6e2396384be302165882c1a654456399689b35c41fe8ef", func := "parterre/parterrelaw2.DesignTurns", spec := "designTurns", unfollowed := true, recurses := true, plainKeys := false, apart := false, narrowed := true }
def DesignTurnsUptoSaid : Prop := designTurnsUptoRow.holds Try.pinned (OpenSpec.upto designTurnsSpec)

/-- 'parterrelaw2.DesignParts', WHERE WHAT IT READS IS OF BULK AT MOST 1048576: true; the input reads as it did. -/
def designPartsUptoRow : OpenClaim := { program := "ytkmcmahpfhlkhaa", sum := "683cdcce5b91c2f75e6e2396384be302165882c1a654456399689b35c41fe8ef", func := "parterre/parterrelaw2.DesignParts", spec := "designParts", unfollowed := true, recurses := true, plainKeys := false, apart := false, narrowed := true }
def DesignPartsUptoSaid : Prop := designPartsUptoRow.holds Try.pinned (OpenSpec.upto designPartsSpec)

/-- 'parterrelaw2.DesignMeets', WHERE WHAT IT READS IS OF BULK AT MOST 1048576: true; the input reads as it did. -/
def designMeetsUptoRow : OpenClaim := { program := "ytkmcmahpfhlkhaa", sum := "683cdcce5b91c2f75e6e2396384be302165882c1a654456399689b35c41fe8ef", func := "parterre/parterrelaw2.DesignMeets", spec := "designMeets", unfollowed := true, recurses := true, plainKeys := false, apart := false, narrowed := true }
def DesignMeetsUptoSaid : Prop := designMeetsUptoRow.holds Try.pinned (OpenSpec.upto designMeetsSpec)

/-- 'parterrelaw2.DesignRyser', WHERE WHAT IT READS IS OF BULK AT MOST 1048576: true; the input reads as it did. -/
def designRyserUptoRow : OpenClaim := { program := "ytkmcmahpfhlkhaa", sum := "683cdcce5b91c2f75e6e2396384be302165882c1a654456399689b35c41fe8ef", func := "parterre/parterrelaw2.DesignRyser", spec := "designRyser", unfollowed := true, recurses := true, plainKeys := false, apart := false, narrowed := true }
def DesignRyserUptoSaid : Prop := designRyserUptoRow.holds Try.pinned (OpenSpec.upto designRyserSpec)

end Rows
end Go.Proofs.Ytkmcmahpfhlkhaa
