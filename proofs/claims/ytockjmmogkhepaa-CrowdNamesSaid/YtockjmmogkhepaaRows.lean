/-
  No cell of these rows narrows 'for every input' (looked for: loops, veiled, ifaces, maps, wideKeys, modest, calm, conditions, laid).
  DERIVED. THE GIVEN ROWS OF THIS SEAT. 3 by the template 'for every input the law returns true; each argument reads behind the call as it read before'; 0 by the template 'total and deterministic' (their statements: YtockjmmogkhepaaTotals.lean).
  GIVEN WITH THE SEED: the statements are not yours to turn. If you find one false, say at which input.
  Laid BY PROGRAM, IN A SANDBOX (cutbox-rows.mjs): the forced cells as the released guide's own fill.sh prints them over the translation 289977f9edfdcae0… (all of the seat's roots in one cut). By AI agents, Wed Nov 11 2026. No macro, syntax, notation, axiom, sorry.
-/
import Derived.Test.YtockjmmogkhepaaChecked
import GoSem.Claim
import GoSem.ClaimJoined
import GoSem.ClaimMapViews
import Derived.JoinedTies
import Derived.KernelRfl
namespace Go.Proofs.Ytockjmmogkhepaa
/- THE CELL 'sum', in the pinned program and in every row, IS THE sha256 OF THE DUMP (.gsa) THAT YtockjmmogkhepaaProg.lean LOADS. Nothing in Lean hashes anything: it is a label: what it is worth is what the hold of that sum in a sandbox is worth. -/
noncomputable def Try.pinned : Pinned := { name := "ytockjmmogkhepaa", sum := "289977f9edfdcae0d168d2e7dbd91d3b2e322ab9b7b9693c9d102208b4054882", checked := Try.checked }
namespace Rows
def none {H : Type} : Left H := { results := [], args := [] }

/-- 'unbentlaw04.RuleDrawn': WHATEVER THE INPUT: true; the input reads as it did. -/
def ruleDrawnSpec : ChangeSpec := { name := "ruleDrawn", fn := fun _ => fun
  | [d1, d2] => { results := [.lit (.bool true)], args := [d1, d2] }
  | _ => none }
def ruleDrawnRow : OpenClaim := { program := "ytockjmmogkhepaa", sum := "289977f9edfdcae0d168d2e7dbd91d3b2e322ab9b7b9693c9d102208b4054882", func := "unbent/unbentlaw04.RuleDrawn", spec := "ruleDrawn", apart := false }
def RuleDrawnSaid : Prop := ruleDrawnRow.holds Try.pinned (OpenSpec.ofChange ruleDrawnSpec)

/-- ITS FALSE NEIGHBOUR: 'it returns false'. Refute it at one input. -/
def ruleDrawnWrong : ChangeSpec := { name := "ruleDrawn", fn := fun _ => fun
  | [d1, d2] => { results := [.lit (.bool false)], args := [d1, d2] }
  | _ => none }
def RuleDrawnWrongFalsely : Prop := ruleDrawnRow.holds Try.pinned (OpenSpec.ofChange ruleDrawnWrong)

/-- 'unbentlaw14.CrowdWeigh': WHATEVER THE INPUT: true; the input reads as it did. -/
def crowdWeighSpec : ChangeSpec := { name := "crowdWeigh", fn := fun _ => fun
  | [d] => { results := [.lit (.bool true)], args := [d] }
  | _ => none }
def crowdWeighRow : OpenClaim := { program := "ytockjmmogkhepaa", sum := "289977f9edfdcae0d168d2e7dbd91d3b2e322ab9b7b9693c9d102208b4054882", func := "unbent/unbentlaw14.CrowdWeigh", spec := "crowdWeigh", apart := false }
def CrowdWeighSaid : Prop := crowdWeighRow.holds Try.pinned (OpenSpec.ofChange crowdWeighSpec)

/-- ITS FALSE NEIGHBOUR: 'it returns false'. Refute it at one input. -/
def crowdWeighWrong : ChangeSpec := { name := "crowdWeigh", fn := fun _ => fun
  | [d] => { results := [.lit (.bool false)], args := [d] }
  | _ => none }
def CrowdWeighWrongFalsely : Prop := crowdWeighRow.holds Try.pinned (OpenSpec.ofChange crowdWeighWrong)

/-- 'unbentlaw14.CrowdNames': WHATEVER THE INPUT: true; the input reads as it did. -/
def crowdNamesSpec : ChangeSpec := { name := "crowdNames", fn := fun _ => fun
  | [d1, d2, d3] => { results := [.lit (.bool true)], args := [d1, d2, d3] }
  | _ => none }
def crowdNamesRow : OpenClaim := { program := "ytockjmmogkhepaa", sum := "289977f9edfdcae0d168d2e7dbd91d3b2e322ab9b7b9693c9d102208b4054882", func := "unbent/unbentlaw14.CrowdNames", spec := "crowdNames", apart := false }
def CrowdNamesSaid : Prop := crowdNamesRow.holds Try.pinned (OpenSpec.ofChange crowdNamesSpec)

/-- ITS FALSE NEIGHBOUR: 'it returns false'. Refute it at one input. -/
def crowdNamesWrong : ChangeSpec := { name := "crowdNames", fn := fun _ => fun
  | [d1, d2, d3] => { results := [.lit (.bool false)], args := [d1, d2, d3] }
  | _ => none }
def CrowdNamesWrongFalsely : Prop := crowdNamesRow.holds Try.pinned (OpenSpec.ofChange crowdNamesWrong)

/- THE SECOND FORM. 'bulk': how many values and letters a reading holds, each counted each time it is reached (what is shared counts as often as it is met; a slice's spare places count too). A statement '..UptoSaid' is the law's where the arguments, and the package variables that the reading takes, are together of bulk at most 1048576: NARROWER than '..Said'. Prove '..Said' where nothing that the law and all that it calls make is longer than what came in: it says more and counts as full. Else prove '..UptoSaid'. A law counts once. -/
mutual
def uptoBulk {H : Type} : DataW H → Nat
  | .lit (.string bytes) => bytes.length + 1
  | .lit _ => 1
  | .nil => 1
  | .ptr d => uptoBulk d + 1
  | .slice elems spare => uptoBulkAll elems + uptoBulkAll spare + 1
  | .agg parts => uptoBulkAll parts + 1
  | .iface _ d => uptoBulk d + 1
  | .map entries => uptoBulkEntries entries + 1
  | .held _ => 1
def uptoBulkAll {H : Type} : List (DataW H) → Nat
  | [] => 0
  | d :: r => uptoBulk d + uptoBulkAll r
def uptoBulkEntries {H : Type} : List (Lit × DataW H) → Nat
  | [] => 0
  | x :: r => uptoBulkEntry x + uptoBulkEntries r
def uptoBulkEntry {H : Type} : Lit × DataW H → Nat
  | (.string bytes, d) => bytes.length + uptoBulk d + 1
  | (_, d) => uptoBulk d + 1
 end
def uptoSmall : (H : Type) → List (DataW H) → Bool := fun _ ds => decide (uptoBulkAll ds ≤ 1048576)
def OpenSpec.upto (s : _root_.Go.ChangeSpec) : _root_.Go.OpenSpec := { _root_.Go.OpenSpec.ofChange s with cond := some uptoSmall }

/-- 'unbentlaw04.RuleDrawn', WHERE WHAT IT READS IS OF BULK AT MOST 1048576: true; the input reads as it did. -/
def ruleDrawnUptoRow : OpenClaim := { program := "ytockjmmogkhepaa", sum := "289977f9edfdcae0d168d2e7dbd91d3b2e322ab9b7b9693c9d102208b4054882", func := "unbent/unbentlaw04.RuleDrawn", spec := "ruleDrawn", apart := false, narrowed := true }
def RuleDrawnUptoSaid : Prop := ruleDrawnUptoRow.holds Try.pinned (OpenSpec.upto ruleDrawnSpec)

/-- 'unbentlaw14.CrowdWeigh', WHERE WHAT IT READS IS OF BULK AT MOST 1048576: true; the input reads as it did. -/
def crowdWeighUptoRow : OpenClaim := { program := "ytockjmmogkhepaa", sum := "289977f9edfdcae0d168d2e7dbd91d3b2e322ab9b7b9693c9d102208b4054882", func := "unbent/unbentlaw14.CrowdWeigh", spec := "crowdWeigh", apart := false, narrowed := true }
def CrowdWeighUptoSaid : Prop := crowdWeighUptoRow.holds Try.pinned (OpenSpec.upto crowdWeighSpec)

/-- 'unbentlaw14.CrowdNames', WHERE WHAT IT READS IS OF BULK AT MOST 1048576: true; the input reads as it did. -/
def crowdNamesUptoRow : OpenClaim := { program := "ytockjmmogkhepaa", sum := "289977f9edfdcae0d168d2e7dbd91d3b2e322ab9b7b9693c9d102208b4054882", func := "unbent/unbentlaw14.CrowdNames", spec := "crowdNames", apart := false, narrowed := true }
def CrowdNamesUptoSaid : Prop := crowdNamesUptoRow.holds Try.pinned (OpenSpec.upto crowdNamesSpec)

end Rows
end Go.Proofs.Ytockjmmogkhepaa
