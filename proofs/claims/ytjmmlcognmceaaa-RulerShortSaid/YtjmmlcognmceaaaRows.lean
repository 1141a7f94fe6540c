/-
  No cell of these rows narrows 'for every input' (looked for: loops, veiled, ifaces, maps, wideKeys, modest, calm, conditions, laid).
  DERIVED. THE GIVEN ROWS OF THIS SEAT. 10 by the template 'for every input the law returns true; each argument reads behind the call as it read before'; 0 by the template 'total and deterministic' (their statements: YtjmmlcognmceaaaTotals.lean).
  GIVEN WITH THE SEED: the statements are not yours to turn. If you find one false, say at which input.
  Laid BY PROGRAM, IN A SANDBOX (cutbox-rows.mjs): the forced cells as the released guide's own fill.sh prints them over the translation 1477b632602eff10… (all of the seat's roots in one cut). By AI agents, Wed Nov 11 2026. No macro, syntax, notation, axiom, sorry.
-/
import Derived.Test.YtjmmlcognmceaaaChecked
import GoSem.Claim
import GoSem.ClaimJoined
import GoSem.ClaimMapViews
import Derived.JoinedTies
import Derived.KernelRfl
namespace Go.Proofs.Ytjmmlcognmceaaa
/- THE CELL 'sum', in the pinned program and in every row, IS THE sha256 OF THE DUMP (.gsa) THAT YtjmmlcognmceaaaProg.lean LOADS. Nothing in Lean hashes anything: it is a label: what it is worth is what the hold of that sum in a sandbox is worth. -/
noncomputable def Try.pinned : Pinned := { name := "ytjmmlcognmceaaa", sum := "1477b632602eff108d8945e3519b307c062101c0c308628f6843505fb3f0aece", checked := Try.checked }
namespace Rows
def none {H : Type} : Left H := { results := [], args := [] }

/-- 'parterrelaw2.DifferOther': WHATEVER THE INPUT: true; the input reads as it did. -/
def differOtherSpec : ChangeSpec := { name := "differOther", fn := fun _ => fun
  | [d1, d2, d3, d4] => { results := [.lit (.bool true)], args := [d1, d2, d3, d4] }
  | _ => none }
def differOtherRow : OpenClaim := { program := "ytjmmlcognmceaaa", sum := "1477b632602eff108d8945e3519b307c062101c0c308628f6843505fb3f0aece", func := "parterre/parterrelaw2.DifferOther", spec := "differOther", unfollowed := true, recurses := true, plainKeys := false, apart := false }
def DifferOtherSaid : Prop := differOtherRow.holds Try.pinned (OpenSpec.ofChange differOtherSpec)

/-- ITS FALSE NEIGHBOUR: 'it returns false'. Refute it at one input. -/
def differOtherWrong : ChangeSpec := { name := "differOther", fn := fun _ => fun
  | [d1, d2, d3, d4] => { results := [.lit (.bool false)], args := [d1, d2, d3, d4] }
  | _ => none }
def DifferOtherWrongFalsely : Prop := differOtherRow.holds Try.pinned (OpenSpec.ofChange differOtherWrong)

/-- 'parterrelaw2.RulerBest': WHATEVER THE INPUT: true; the input reads as it did. -/
def rulerBestSpec : ChangeSpec := { name := "rulerBest", fn := fun _ => fun
  | [d] => { results := [.lit (.bool true)], args := [d] }
  | _ => none }
def rulerBestRow : OpenClaim := { program := "ytjmmlcognmceaaa", sum := "1477b632602eff108d8945e3519b307c062101c0c308628f6843505fb3f0aece", func := "parterre/parterrelaw2.RulerBest", spec := "rulerBest", recurses := true, plainKeys := false, apart := false }
def RulerBestSaid : Prop := rulerBestRow.holds Try.pinned (OpenSpec.ofChange rulerBestSpec)

/-- ITS FALSE NEIGHBOUR: 'it returns false'. Refute it at one input. -/
def rulerBestWrong : ChangeSpec := { name := "rulerBest", fn := fun _ => fun
  | [d] => { results := [.lit (.bool false)], args := [d] }
  | _ => none }
def RulerBestWrongFalsely : Prop := rulerBestRow.holds Try.pinned (OpenSpec.ofChange rulerBestWrong)

/-- 'parterrelaw2.RulerChecks': WHATEVER THE INPUT: true; the input reads as it did. -/
def rulerChecksSpec : ChangeSpec := { name := "rulerChecks", fn := fun _ => fun
  | [d1, d2, d3] => { results := [.lit (.bool true)], args := [d1, d2, d3] }
  | _ => none }
def rulerChecksRow : OpenClaim := { program := "ytjmmlcognmceaaa", sum := "1477b632602eff108d8945e3519b307c062101c0c308628f6843505fb3f0aece", func := "parterre/parterrelaw2.RulerChecks", spec := "rulerChecks", unfollowed := true, recurses := true, plainKeys := false, apart := false }
def RulerChecksSaid : Prop := rulerChecksRow.holds Try.pinned (OpenSpec.ofChange rulerChecksSpec)

/-- ITS FALSE NEIGHBOUR: 'it returns false'. Refute it at one input. -/
def rulerChecksWrong : ChangeSpec := { name := "rulerChecks", fn := fun _ => fun
  | [d1, d2, d3] => { results := [.lit (.bool false)], args := [d1, d2, d3] }
  | _ => none }
def RulerChecksWrongFalsely : Prop := rulerChecksRow.holds Try.pinned (OpenSpec.ofChange rulerChecksWrong)

/-- 'parterrelaw2.RulerSidon': WHATEVER THE INPUT: true; the input reads as it did. -/
def rulerSidonSpec : ChangeSpec := { name := "rulerSidon", fn := fun _ => fun
  | [d1, d2] => { results := [.lit (.bool true)], args := [d1, d2] }
  | _ => none }
def rulerSidonRow : OpenClaim := { program := "ytjmmlcognmceaaa", sum := "1477b632602eff108d8945e3519b307c062101c0c308628f6843505fb3f0aece", func := "parterre/parterrelaw2.RulerSidon", spec := "rulerSidon", unfollowed := true, recurses := true, plainKeys := false, apart := false }
def RulerSidonSaid : Prop := rulerSidonRow.holds Try.pinned (OpenSpec.ofChange rulerSidonSpec)

/-- ITS FALSE NEIGHBOUR: 'it returns false'. Refute it at one input. -/
def rulerSidonWrong : ChangeSpec := { name := "rulerSidon", fn := fun _ => fun
  | [d1, d2] => { results := [.lit (.bool false)], args := [d1, d2] }
  | _ => none }
def RulerSidonWrongFalsely : Prop := rulerSidonRow.holds Try.pinned (OpenSpec.ofChange rulerSidonWrong)

/-- 'parterrelaw2.RulerCostas': WHATEVER THE INPUT: true; the input reads as it did. -/
def rulerCostasSpec : ChangeSpec := { name := "rulerCostas", fn := fun _ => fun
  | [d1, d2, d3, d4] => { results := [.lit (.bool true)], args := [d1, d2, d3, d4] }
  | _ => none }
def rulerCostasRow : OpenClaim := { program := "ytjmmlcognmceaaa", sum := "1477b632602eff108d8945e3519b307c062101c0c308628f6843505fb3f0aece", func := "parterre/parterrelaw2.RulerCostas", spec := "rulerCostas", unfollowed := true, recurses := true, plainKeys := false, apart := false }
def RulerCostasSaid : Prop := rulerCostasRow.holds Try.pinned (OpenSpec.ofChange rulerCostasSpec)

/-- ITS FALSE NEIGHBOUR: 'it returns false'. Refute it at one input. -/
def rulerCostasWrong : ChangeSpec := { name := "rulerCostas", fn := fun _ => fun
  | [d1, d2, d3, d4] => { results := [.lit (.bool false)], args := [d1, d2, d3, d4] }
  | _ => none }
def RulerCostasWrongFalsely : Prop := rulerCostasRow.holds Try.pinned (OpenSpec.ofChange rulerCostasWrong)

/-- 'parterrelaw2.RulerShort': WHATEVER THE INPUT: true; the input reads as it did. -/
def rulerShortSpec : ChangeSpec := { name := "rulerShort", fn := fun _ => fun
  | [d] => { results := [.lit (.bool true)], args := [d] }
  | _ => none }
def rulerShortRow : OpenClaim := { program := "ytjmmlcognmceaaa", sum := "1477b632602eff108d8945e3519b307c062101c0c308628f6843505fb3f0aece", func := "parterre/parterrelaw2.RulerShort", spec := "rulerShort", unfollowed := true, recurses := true, plainKeys := false, apart := false }
def RulerShortSaid : Prop := rulerShortRow.holds Try.pinned (OpenSpec.ofChange rulerShortSpec)

/-- ITS FALSE NEIGHBOUR: 'it returns false'. Refute it at one input. -/
def rulerShortWrong : ChangeSpec := { name := "rulerShort", fn := fun _ => fun
  | [d] => { results := [.lit (.bool false)], args := [d] }
  | _ => none }
def RulerShortWrongFalsely : Prop := rulerShortRow.holds Try.pinned (OpenSpec.ofChange rulerShortWrong)

/-- 'parterrelaw2.RulerWelch': WHATEVER THE INPUT: true; the input reads as it did. -/
def rulerWelchSpec : ChangeSpec := { name := "rulerWelch", fn := fun _ => fun
  | [d1, d2, d3] => { results := [.lit (.bool true)], args := [d1, d2, d3] }
  | _ => none }
def rulerWelchRow : OpenClaim := { program := "ytjmmlcognmceaaa", sum := "1477b632602eff108d8945e3519b307c062101c0c308628f6843505fb3f0aece", func := "parterre/parterrelaw2.RulerWelch", spec := "rulerWelch", unfollowed := true, recurses := true, plainKeys := false, apart := false }
def RulerWelchSaid : Prop := rulerWelchRow.holds Try.pinned (OpenSpec.ofChange rulerWelchSpec)

/-- ITS FALSE NEIGHBOUR: 'it returns false'. Refute it at one input. -/
def rulerWelchWrong : ChangeSpec := { name := "rulerWelch", fn := fun _ => fun
  | [d1, d2, d3] => { results := [.lit (.bool false)], args := [d1, d2, d3] }
  | _ => none }
def RulerWelchWrongFalsely : Prop := rulerWelchRow.holds Try.pinned (OpenSpec.ofChange rulerWelchWrong)

/-- 'parterrelaw2.DifferLevels': WHATEVER THE INPUT: true; the input reads as it did. -/
def differLevelsSpec : ChangeSpec := { name := "differLevels", fn := fun _ => fun
  | [d1, d2] => { results := [.lit (.bool true)], args := [d1, d2] }
  | _ => none }
def differLevelsRow : OpenClaim := { program := "ytjmmlcognmceaaa", sum := "1477b632602eff108d8945e3519b307c062101c0c308628f6843505fb3f0aece", func := "parterre/parterrelaw2.DifferLevels", spec := "differLevels", unfollowed := true, recurses := true, plainKeys := false, apart := false }
def DifferLevelsSaid : Prop := differLevelsRow.holds Try.pinned (OpenSpec.ofChange differLevelsSpec)

/-- ITS FALSE NEIGHBOUR: 'it returns false'. Refute it at one input. -/
def differLevelsWrong : ChangeSpec := { name := "differLevels", fn := fun _ => fun
  | [d1, d2] => { results := [.lit (.bool false)], args := [d1, d2] }
  | _ => none }
def DifferLevelsWrongFalsely : Prop := differLevelsRow.holds Try.pinned (OpenSpec.ofChange differLevelsWrong)

/-- 'parterrelaw2.DifferHall': WHATEVER THE INPUT: true; the input reads as it did. -/
def differHallSpec : ChangeSpec := { name := "differHall", fn := fun _ => fun
  | [d1, d2] => { results := [.lit (.bool true)], args := [d1, d2] }
  | _ => none }
def differHallRow : OpenClaim := { program := "ytjmmlcognmceaaa", sum := "1477b632602eff108d8945e3519b307c062101c0c308628f6843505fb3f0aece", func := "parterre/parterrelaw2.DifferHall", spec := "differHall", unfollowed := true, recurses := true, plainKeys := false, apart := false }
def DifferHallSaid : Prop := differHallRow.holds Try.pinned (OpenSpec.ofChange differHallSpec)

/-- ITS FALSE NEIGHBOUR: 'it returns false'. Refute it at one input. -/
def differHallWrong : ChangeSpec := { name := "differHall", fn := fun _ => fun
  | [d1, d2] => { results := [.lit (.bool false)], args := [d1, d2] }
  | _ => none }
def DifferHallWrongFalsely : Prop := differHallRow.holds Try.pinned (OpenSpec.ofChange differHallWrong)

/-- 'parterrelaw2.DifferDesigns': WHATEVER THE INPUT: true; the input reads as it did. -/
def differDesignsSpec : ChangeSpec := { name := "differDesigns", fn := fun _ => fun
  | [d1, d2] => { results := [.lit (.bool true)], args := [d1, d2] }
  | _ => none }
def differDesignsRow : OpenClaim := { program := "ytjmmlcognmceaaa", sum := "1477b632602eff108d8945e3519b307c062101c0c308628f6843505fb3f0aece", func := "parterre/parterrelaw2.DifferDesigns", spec := "differDesigns", unfollowed := true, recurses := true, plainKeys := false, apart := false }
def DifferDesignsSaid : Prop := differDesignsRow.holds Try.pinned (OpenSpec.ofChange differDesignsSpec)

/-- ITS FALSE NEIGHBOUR: 'it returns false'. Refute it at one input. -/
def differDesignsWrong : ChangeSpec := { name := "differDesigns", fn := fun _ => fun
  | [d1, d2] => { results := [.lit (.bool false)], args := [d1, d2] }
  | _ => none }
def DifferDesignsWrongFalsely : Prop := differDesignsRow.holds Try.pinned (OpenSpec.ofChange differDesignsWrong)

/- THE SECOND FORM. 'bulk': how many values and letters a reading holds, each counted each time it is reached (what is shared counts as often as it is met; a slice's spare places count too). A statement '..UptoSaid' is the law's where the arguments, and the package variables that the reading takes, are together of bulk at most 1048576: NARROWER than '..Said'. Prove '..Said' where nothing that the law and all that it calls make is longer than what came in: it says more and counts as full. Else prove '..UptoSaid'. A law counts once. -/
mutual
def uptoBulk {H : Type} : DataW H → Nat
  | .lit (.string bytes) => bytes.length + 1
  | .lit _ => 1
  | .nil => 1
  | .ptr d => uptoBulk d + 1
  | .slice elems spare => uptoBulkAll elems + uptoBulkAll spare + 1
  | .agg parts => uptoBulkAll parts + 1
  | .iface _ d => uptoBulk d + 1
  | .map entries => uptoBulkEntries entries + 1
  | .held _ => 1
def uptoBulkAll {H : Type} : List (DataW H) → Nat
  | [] => 0
  | d :: r => uptoBulk d + uptoBulkAll r
def uptoBulkEntries {H : Type} : List (Lit × DataW H) → Nat
  | [] => 0
  | x :: r => uptoBulkEntry x + uptoBulkEntries r
def uptoBulkEntry {H : Type} : Lit × DataW H → Nat
  | (.string bytes, d) => bytes.length + uptoBulk d + 1
  | (_, d) => uptoBulk d + 1
 end
def uptoSmall : (H : Type) → List (DataW H) → Bool := fun _ ds => decide (uptoBulkAll ds ≤ 1048576)
def OpenSpec.upto (s : _root_.Go.ChangeSpec) : _root_.Go.OpenSpec := { _root_.Go.OpenSpec.ofChange s with cond := some uptoSmall }

/-- 'parterrelaw2.DifferOther', WHERE WHAT IT READS IS OF BULK AT MOST 1048576: true; the input reads as it did. -/
def differOtherUptoRow : OpenClaim := { program := "ytjmmlcognmceaaa", sum := "1477b632602eff108d8945e3519b307c062101c0c308628f6843505fb3f0aece", func := "parterre/parterrelaw2.DifferOther", spec := "differOther", unfollowed := true, recurses := true, plainKeys := false, apart := false, narrowed := true }
def DifferOtherUptoSaid : Prop := differOtherUptoRow.holds Try.pinned (OpenSpec.upto differOtherSpec)

/-- 'parterrelaw2.RulerBest', WHERE WHAT IT READS IS OF BULK AT MOST 1048576: true; the input reads as it did. -/
def rulerBestUptoRow : OpenClaim := { program := "ytjmmlcognmceaaa", sum := "1477b632602eff108d8945e3519b307c062101c0c308628f6843505fb3f0aece", func := "parterre/parterrelaw2.RulerBest", spec := "rulerBest", recurses := true, plainKeys := false, apart := false, narrowed := true }
def RulerBestUptoSaid : Prop := rulerBestUptoRow.holds Try.pinned (OpenSpec.upto rulerBestSpec)

/-- 'parterrelaw2.RulerChecks', WHERE WHAT IT READS IS OF BULK AT MOST 1048576: true; the input reads as it did. -/
def rulerChecksUptoRow : OpenClaim := { program := "ytjmmlcognmceaaa", sum := "1477b632602eff108d8945e3519b307c062101c0c308628f6843505fb3f0aece", func := "parterre/parterrelaw2.RulerChecks", spec := "rulerChecks", unfollowed := true, recurses := true, plainKeys := false, apart := false, narrowed := true }
def RulerChecksUptoSaid : Prop := rulerChecksUptoRow.holds Try.pinned (OpenSpec.upto rulerChecksSpec)

/-- 'parterrelaw2.RulerSidon', WHERE WHAT IT READS IS OF BULK AT MOST 1048576: true; the input reads as it did. -/
def rulerSidonUptoRow : OpenClaim := { program := "ytjmmlcognmceaaa", sum := "1477b632602eff108d8945e3519b307c062101c0c308628f6843505fb3f0aece", func := "parterre/parterrelaw2.RulerSidon", spec := "rulerSidon", unfollowed := true, recurses := true, plainKeys := false, apart := false, narrowed := true }
def RulerSidonUptoSaid : Prop := rulerSidonUptoRow.holds Try.pinned (OpenSpec.upto rulerSidonSpec)

/-- 'parterrelaw2.RulerCostas', WHERE WHAT IT READS IS OF BULK AT MOST 1048576: true; the input reads as it did. -/
def rulerCostasUptoRow : OpenClaim := { program := "ytjmmlcognmceaaa", sum := "1477b632602eff108d8945e3519b307c062101c0c308628f6843505fb3f0aece", func := "parterre/parterrelaw2.RulerCostas", spec := "rulerCostas", unfollowed := true, recurses := true, plainKeys := false, apart := false, narrowed := true }
def RulerCostasUptoSaid : Prop := rulerCostasUptoRow.holds Try.pinned (OpenSpec.upto rulerCostasSpec)

/-- 'parterrelaw2.RulerShort', WHERE WHAT IT READS IS OF BULK AT MOST 1048576: true; the input reads as it did. -/
def rulerShortUptoRow : OpenClaim := { program := "ytjmmlcognmceaaa", sum := "1477b632602eff108d8945e3519b307c062101c0c308628f6843505fb3f0aece", func := "parterre/parterrelaw2.RulerShort", spec := "rulerShort", unfollowed := true, recurses := true, plainKeys := false, apart := false, narrowed := true }
def RulerShortUptoSaid : Prop := rulerShortUptoRow.holds Try.pinned (OpenSpec.upto rulerShortSpec)

/-- 'parterrelaw2.RulerWelch', WHERE WHAT IT READS IS OF BULK AT MOST 1048576: true; the input reads as it did. -/
def rulerWelchUptoRow : OpenClaim := { program := "ytjmmlcognmceaaa", sum := "1477b632602eff108d8945e3519b307c062101c0c308628f6843505fb3f0aece", func := "parterre/parterrelaw2.RulerWelch", spec := "rulerWelch", unfollowed := true, recurses := true, plainKeys := false, apart := false, narrowed := true }
def RulerWelchUptoSaid : Prop := rulerWelchUptoRow.holds Try.pinned (OpenSpec.upto rulerWelchSpec)

/-- 'parterrelaw2.DifferLevels', WHERE WHAT IT READS IS OF BULK AT MOST 1048576: true; the input reads as it did. -/
def differLevelsUptoRow : OpenClaim := { program := "ytjmmlcognmceaaa", sum := "1477b632602eff108d8945e3519b307c062101c0c308628f6843505fb3f0aece", func := "parterre/parterrelaw2.DifferLevels", spec := "differLevels", unfollowed := true, recurses := true, plainKeys := false, apart := false, narrowed := true }
def DifferLevelsUptoSaid : Prop := differLevelsUptoRow.holds Try.pinned (OpenSpec.upto differLevelsSpec)

/-- 'parterrelaw2.DifferHall', WHERE WHAT IT READS IS OF BULK AT MOST 1048576: true; the input reads as it did. -/
def differHallUptoRow : OpenClaim := { program := "ytjmmlcognmceaaa", sum := "1477b632602eff108d8945e3519b307c062101c0c308628f6843505fb3f0aece", func := "parterre/parterrelaw2.DifferHall", spec := "differHall", unfollowed := true, recurses := true, plainKeys := false, apart := false, narrowed := true }
def DifferHallUptoSaid : Prop := differHallUptoRow.holds Try.pinned (OpenSpec.upto differHallSpec)

/-- 'parterrelaw2.DifferDesigns', WHERE WHAT IT READS IS OF BULK AT MOST 1048576: true; the input reads as it did. -/
def differDesignsUptoRow : OpenClaim := { program := "ytjmmlcognmceaaa", sum := "1477b632602eff108d8945e3519b307c062101c0c308628f6843505fb3f0aece", func := "parterre/parterrelaw2.DifferDesigns", spec := "differDesigns", unfollowed := true, recurses := true, plainKeys := false, apart := false, narrowed := true }
def DifferDesignsUptoSaid : Prop := differDesignsUptoRow.holds Try.pinned (OpenSpec.upto differDesignsSpec)

end Rows
end Go.Proofs.Ytjmmlcognmceaaa
