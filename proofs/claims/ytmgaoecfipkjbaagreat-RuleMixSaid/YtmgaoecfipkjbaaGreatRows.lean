/-
  No cell of these rows narrows 'for every input' (looked for: loops, veiled, ifaces, maps, wideKeys, modest, calm, conditions, laid).
  DERIVED. THE GIVEN ROWS OF THIS SEAT. 11 by the template 'for every input the law returns true; each argument reads behind the call as it read before'; 0 by the template 'total and deterministic' (their statements: YtmgaoecfipkjbaaGreatTotals.lean).
  GIVEN WITH THE SEED: the statements are not yours to turn. If you find one false, say at which input.
  Laid BY PROGRAM, IN A SANDBOX (cutbox-rows.mjs): the forced cells as the released guide's own fill.sh prints them over the translation b19673102d8080f7… (all of the seat's roots in one cut). By AI agents, Wed Nov 11 2026. No macro, syntax, notation, axiom, sorry.
-/
import Derived.Test.YtmgaoecfipkjbaaGreatChecked
import GoSem.Claim
import GoSem.ClaimJoined
import GoSem.ClaimMapViews
import Derived.JoinedTies
import Derived.KernelRfl
namespace Go.Proofs.YtmgaoecfipkjbaaGreat
/- THE CELL 'sum', in the pinned program and in every row, IS THE sha256 OF THE DUMP (.gsa) THAT YtmgaoecfipkjbaaGreatProg.lean LOADS. Nothing in Lean hashes anything: it is a label: what it is worth is what the hold of that sum in a sandbox is worth. -/
noncomputable def Tryz.pinned : Pinned := { name := "ytmgaoecfipkjbaagreat", sum := "b19673102d8080f7d4ca0c772a01d1b57240e4b5e79d0806ef2606103a3b40a6", checked := Tryz.checked }
namespace Rows
def none {H : Type} : Left H := { results := [], args := [] }

/-- 'unbentlaw04.RuleRight': WHATEVER THE INPUT: true; the input reads as it did. -/
def ruleRightSpec : ChangeSpec := { name := "ruleRight", fn := fun _ => fun
  | [d1, d2] => { results := [.lit (.bool true)], args := [d1, d2] }
  | _ => none }
def ruleRightRow : OpenClaim := { program := "ytmgaoecfipkjbaagreat", sum := "b19673102d8080f7d4ca0c772a01d1b57240e4b5e79d0806ef2606103a3b40a6", func := "unbent/unbentlaw04.RuleRight", spec := "ruleRight", unfollowed := true, recurses := true, plainKeys := false, apart := false }
def RuleRightSaid : Prop := ruleRightRow.holds Tryz.pinned (OpenSpec.ofChange ruleRightSpec)

/-- ITS FALSE NEIGHBOUR: 'it returns false'. Refute it at one input. -/
def ruleRightWrong : ChangeSpec := { name := "ruleRight", fn := fun _ => fun
  | [d1, d2] => { results := [.lit (.bool false)], args := [d1, d2] }
  | _ => none }
def RuleRightWrongFalsely : Prop := ruleRightRow.holds Tryz.pinned (OpenSpec.ofChange ruleRightWrong)

/-- 'unbentlaw04.RuleTruthful': WHATEVER THE INPUT: true; the input reads as it did. -/
def ruleTruthfulSpec : ChangeSpec := { name := "ruleTruthful", fn := fun _ => fun
  | [d1, d2] => { results := [.lit (.bool true)], args := [d1, d2] }
  | _ => none }
def ruleTruthfulRow : OpenClaim := { program := "ytmgaoecfipkjbaagreat", sum := "b19673102d8080f7d4ca0c772a01d1b57240e4b5e79d0806ef2606103a3b40a6", func := "unbent/unbentlaw04.RuleTruthful", spec := "ruleTruthful", unfollowed := true, recurses := true, plainKeys := false, apart := false }
def RuleTruthfulSaid : Prop := ruleTruthfulRow.holds Tryz.pinned (OpenSpec.ofChange ruleTruthfulSpec)

/-- ITS FALSE NEIGHBOUR: 'it returns false'. Refute it at one input. -/
def ruleTruthfulWrong : ChangeSpec := { name := "ruleTruthful", fn := fun _ => fun
  | [d1, d2] => { results := [.lit (.bool false)], args := [d1, d2] }
  | _ => none }
def RuleTruthfulWrongFalsely : Prop := ruleTruthfulRow.holds Tryz.pinned (OpenSpec.ofChange ruleTruthfulWrong)

/-- 'unbentlaw04.RuleDraw': WHATEVER THE INPUT: true; the input reads as it did. -/
def ruleDrawSpec : ChangeSpec := { name := "ruleDraw", fn := fun _ => fun
  | [d1, d2] => { results := [.lit (.bool true)], args := [d1, d2] }
  | _ => none }
def ruleDrawRow : OpenClaim := { program := "ytmgaoecfipkjbaagreat", sum := "b19673102d8080f7d4ca0c772a01d1b57240e4b5e79d0806ef2606103a3b40a6", func := "unbent/unbentlaw04.RuleDraw", spec := "ruleDraw", unfollowed := true, recurses := true, plainKeys := false, apart := false }
def RuleDrawSaid : Prop := ruleDrawRow.holds Tryz.pinned (OpenSpec.ofChange ruleDrawSpec)

/-- ITS FALSE NEIGHBOUR: 'it returns false'. Refute it at one input. -/
def ruleDrawWrong : ChangeSpec := { name := "ruleDraw", fn := fun _ => fun
  | [d1, d2] => { results := [.lit (.bool false)], args := [d1, d2] }
  | _ => none }
def RuleDrawWrongFalsely : Prop := ruleDrawRow.holds Tryz.pinned (OpenSpec.ofChange ruleDrawWrong)

/-- 'unbentlaw04.RuleNames': WHATEVER THE INPUT: true; the input reads as it did. -/
def ruleNamesSpec : ChangeSpec := { name := "ruleNames", fn := fun _ => fun
  | [d1, d2, d3] => { results := [.lit (.bool true)], args := [d1, d2, d3] }
  | _ => none }
def ruleNamesRow : OpenClaim := { program := "ytmgaoecfipkjbaagreat", sum := "b19673102d8080f7d4ca0c772a01d1b57240e4b5e79d0806ef2606103a3b40a6", func := "unbent/unbentlaw04.RuleNames", spec := "ruleNames", unfollowed := true, recurses := true, plainKeys := false, apart := false }
def RuleNamesSaid : Prop := ruleNamesRow.holds Tryz.pinned (OpenSpec.ofChange ruleNamesSpec)

/-- ITS FALSE NEIGHBOUR: 'it returns false'. Refute it at one input. -/
def ruleNamesWrong : ChangeSpec := { name := "ruleNames", fn := fun _ => fun
  | [d1, d2, d3] => { results := [.lit (.bool false)], args := [d1, d2, d3] }
  | _ => none }
def RuleNamesWrongFalsely : Prop := ruleNamesRow.holds Tryz.pinned (OpenSpec.ofChange ruleNamesWrong)

/-- 'unbentlaw04.RuleLie': WHATEVER THE INPUT: true; the input reads as it did. -/
def ruleLieSpec : ChangeSpec := { name := "ruleLie", fn := fun _ => fun
  | [d1, d2, d3] => { results := [.lit (.bool true)], args := [d1, d2, d3] }
  | _ => none }
def ruleLieRow : OpenClaim := { program := "ytmgaoecfipkjbaagreat", sum := "b19673102d8080f7d4ca0c772a01d1b57240e4b5e79d0806ef2606103a3b40a6", func := "unbent/unbentlaw04.RuleLie", spec := "ruleLie", unfollowed := true, recurses := true, plainKeys := false, apart := false }
def RuleLieSaid : Prop := ruleLieRow.holds Tryz.pinned (OpenSpec.ofChange ruleLieSpec)

/-- ITS FALSE NEIGHBOUR: 'it returns false'. Refute it at one input. -/
def ruleLieWrong : ChangeSpec := { name := "ruleLie", fn := fun _ => fun
  | [d1, d2, d3] => { results := [.lit (.bool false)], args := [d1, d2, d3] }
  | _ => none }
def RuleLieWrongFalsely : Prop := ruleLieRow.holds Tryz.pinned (OpenSpec.ofChange ruleLieWrong)

/-- 'unbentlaw04.RuleWorth': WHATEVER THE INPUT: true; the input reads as it did. -/
def ruleWorthSpec : ChangeSpec := { name := "ruleWorth", fn := fun _ => fun
  | [d1, d2, d3] => { results := [.lit (.bool true)], args := [d1, d2, d3] }
  | _ => none }
def ruleWorthRow : OpenClaim := { program := "ytmgaoecfipkjbaagreat", sum := "b19673102d8080f7d4ca0c772a01d1b57240e4b5e79d0806ef2606103a3b40a6", func := "unbent/unbentlaw04.RuleWorth", spec := "ruleWorth", unfollowed := true, recurses := true, plainKeys := false, apart := false }
def RuleWorthSaid : Prop := ruleWorthRow.holds Tryz.pinned (OpenSpec.ofChange ruleWorthSpec)

/-- ITS FALSE NEIGHBOUR: 'it returns false'. Refute it at one input. -/
def ruleWorthWrong : ChangeSpec := { name := "ruleWorth", fn := fun _ => fun
  | [d1, d2, d3] => { results := [.lit (.bool false)], args := [d1, d2, d3] }
  | _ => none }
def RuleWorthWrongFalsely : Prop := ruleWorthRow.holds Tryz.pinned (OpenSpec.ofChange ruleWorthWrong)

/-- 'unbentlaw04.RuleFixed': WHATEVER THE INPUT: true; the input reads as it did. -/
def ruleFixedSpec : ChangeSpec := { name := "ruleFixed", fn := fun _ => fun
  | [d1, d2] => { results := [.lit (.bool true)], args := [d1, d2] }
  | _ => none }
def ruleFixedRow : OpenClaim := { program := "ytmgaoecfipkjbaagreat", sum := "b19673102d8080f7d4ca0c772a01d1b57240e4b5e79d0806ef2606103a3b40a6", func := "unbent/unbentlaw04.RuleFixed", spec := "ruleFixed", unfollowed := true, recurses := true, plainKeys := false, apart := false }
def RuleFixedSaid : Prop := ruleFixedRow.holds Tryz.pinned (OpenSpec.ofChange ruleFixedSpec)

/-- ITS FALSE NEIGHBOUR: 'it returns false'. Refute it at one input. -/
def ruleFixedWrong : ChangeSpec := { name := "ruleFixed", fn := fun _ => fun
  | [d1, d2] => { results := [.lit (.bool false)], args := [d1, d2] }
  | _ => none }
def RuleFixedWrongFalsely : Prop := ruleFixedRow.holds Tryz.pinned (OpenSpec.ofChange ruleFixedWrong)

/-- 'unbentlaw04.RuleMix': WHATEVER THE INPUT: true; the input reads as it did. -/
def ruleMixSpec : ChangeSpec := { name := "ruleMix", fn := fun _ => fun
  | [d1, d2] => { results := [.lit (.bool true)], args := [d1, d2] }
  | _ => none }
def ruleMixRow : OpenClaim := { program := "ytmgaoecfipkjbaagreat", sum := "b19673102d8080f7d4ca0c772a01d1b57240e4b5e79d0806ef2606103a3b40a6", func := "unbent/unbentlaw04.RuleMix", spec := "ruleMix", unfollowed := true, recurses := true, plainKeys := false, apart := false }
def RuleMixSaid : Prop := ruleMixRow.holds Tryz.pinned (OpenSpec.ofChange ruleMixSpec)

/-- ITS FALSE NEIGHBOUR: 'it returns false'. Refute it at one input. -/
def ruleMixWrong : ChangeSpec := { name := "ruleMix", fn := fun _ => fun
  | [d1, d2] => { results := [.lit (.bool false)], args := [d1, d2] }
  | _ => none }
def RuleMixWrongFalsely : Prop := ruleMixRow.holds Tryz.pinned (OpenSpec.ofChange ruleMixWrong)

/-- 'unbentlaw04.RuleAudit': WHATEVER THE INPUT: true; the input reads as it did. -/
def ruleAuditSpec : ChangeSpec := { name := "ruleAudit", fn := fun _ => fun
  | [d1, d2, d3] => { results := [.lit (.bool true)], args := [d1, d2, d3] }
  | _ => none }
def ruleAuditRow : OpenClaim := { program := "ytmgaoecfipkjbaagreat", sum := "b19673102d8080f7d4ca0c772a01d1b57240e4b5e79d0806ef2606103a3b40a6", func := "unbent/unbentlaw04.RuleAudit", spec := "ruleAudit", unfollowed := true, recurses := true, plainKeys := false, apart := false }
def RuleAuditSaid : Prop := ruleAuditRow.holds Tryz.pinned (OpenSpec.ofChange ruleAuditSpec)

/-- ITS FALSE NEIGHBOUR: 'it returns false'. Refute it at one input. -/
def ruleAuditWrong : ChangeSpec := { name := "ruleAudit", fn := fun _ => fun
  | [d1, d2, d3] => { results := [.lit (.bool false)], args := [d1, d2, d3] }
  | _ => none }
def RuleAuditWrongFalsely : Prop := ruleAuditRow.holds Tryz.pinned (OpenSpec.ofChange ruleAuditWrong)

/-- 'unbentlaw04.RuleGroup': WHATEVER THE INPUT: true; the input reads as it did. -/
def ruleGroupSpec : ChangeSpec := { name := "ruleGroup", fn := fun _ => fun
  | [d1, d2] => { results := [.lit (.bool true)], args := [d1, d2] }
  | _ => none }
def ruleGroupRow : OpenClaim := { program := "ytmgaoecfipkjbaagreat", sum := "b19673102d8080f7d4ca0c772a01d1b57240e4b5e79d0806ef2606103a3b40a6", func := "unbent/unbentlaw04.RuleGroup", spec := "ruleGroup", unfollowed := true, recurses := true, plainKeys := false, apart := false }
def RuleGroupSaid : Prop := ruleGroupRow.holds Tryz.pinned (OpenSpec.ofChange ruleGroupSpec)

/-- ITS FALSE NEIGHBOUR: 'it returns false'. Refute it at one input. -/
def ruleGroupWrong : ChangeSpec := { name := "ruleGroup", fn := fun _ => fun
  | [d1, d2] => { results := [.lit (.bool false)], args := [d1, d2] }
  | _ => none }
def RuleGroupWrongFalsely : Prop := ruleGroupRow.holds Tryz.pinned (OpenSpec.ofChange ruleGroupWrong)

/-- 'unbentlaw04.RuleMeets': WHATEVER THE INPUT: true; the input reads as it did. -/
def ruleMeetsSpec : ChangeSpec := { name := "ruleMeets", fn := fun _ => fun
  | [d1, d2] => { results := [.lit (.bool true)], args := [d1, d2] }
  | _ => none }
def ruleMeetsRow : OpenClaim := { program := "ytmgaoecfipkjbaagreat", sum := "b19673102d8080f7d4ca0c772a01d1b57240e4b5e79d0806ef2606103a3b40a6", func := "unbent/unbentlaw04.RuleMeets", spec := "ruleMeets", unfollowed := true, recurses := true, plainKeys := false, apart := false }
def RuleMeetsSaid : Prop := ruleMeetsRow.holds Tryz.pinned (OpenSpec.ofChange ruleMeetsSpec)

/-- ITS FALSE NEIGHBOUR: 'it returns false'. Refute it at one input. -/
def ruleMeetsWrong : ChangeSpec := { name := "ruleMeets", fn := fun _ => fun
  | [d1, d2] => { results := [.lit (.bool false)], args := [d1, d2] }
  | _ => none }
def RuleMeetsWrongFalsely : Prop := ruleMeetsRow.holds Tryz.pinned (OpenSpec.ofChange ruleMeetsWrong)

/- THE SECOND FORM. 'bulk': how many values and letters a reading holds, each counted each time it is reached (what is shared counts as often as it is met; a slice's spare places count too). A statement '..UptoSaid' is the law's where the arguments, and the package variables that the reading takes, are together of bulk at most 1048576: NARROWER than '..Said'. Prove '..Said' where nothing that the law and all that it calls make is longer than what came in: it says more and counts as full. Else prove '..UptoSaid'. A law counts once. -/
mutual
def uptoBulk {H : Type} : DataW H → Nat
  | .lit (.string bytes) => bytes.length + 1
  | .lit _ => 1
  | .nil => 1
  | .ptr d => uptoBulk d + 1
  | .slice elems spare => uptoBulkAll elems + uptoBulkAll spare + 1
  | .agg parts => uptoBulkAll parts + 1
  | .iface _ d => uptoBulk d + 1
  | .map entries => uptoBulkEntries entries + 1
  | .held _ => 1
def uptoBulkAll {H : Type} : List (DataW H) → Nat
  | [] => 0
  | d :: r => uptoBulk d + uptoBulkAll r
def uptoBulkEntries {H : Type} : List (Lit × DataW H) → Nat
  | [] => 0
  | x :: r => uptoBulkEntry x + uptoBulkEntries r
def uptoBulkEntry {H : Type} : Lit × DataW H → Nat
  | (.string bytes, d) => bytes.length + uptoBulk d + 1
  | (_, d) => uptoBulk d + 1
 end
def uptoSmall : (H : Type) → List (DataW H) → Bool := fun _ ds => decide (uptoBulkAll ds ≤ 1048576)
def OpenSpec.upto (s : _root_.Go.ChangeSpec) : _root_.Go.OpenSpec := { _root_.Go.OpenSpec.ofChange s with cond := some uptoSmall }

/-- 'unbentlaw04.RuleRight', WHERE WHAT IT READS IS OF BULK AT MOST 1048576: true; the input reads as it did. -/
def ruleRightUptoRow : OpenClaim := { program := "ytmgaoecfipkjbaagreat", sum := "b19673102d8080f7d4ca0c772a01d1b57240e4b5e79d0806ef2606103a3b40a6", func := "unbent/unbentlaw04.RuleRight", spec := "ruleRight", unfollowed := true, recurses := true, plainKeys := false, apart := false, narrowed := true }
def RuleRightUptoSaid : Prop := ruleRightUptoRow.holds Tryz.pinned (OpenSpec.upto ruleRightSpec)

/-- 'unbentlaw04.RuleTruthful', WHERE WHAT IT READS IS OF BULK AT MOST 1048576: true; the input reads as it did. -/
def ruleTruthfulUptoRow : OpenClaim := { program := "ytmgaoecfipkjbaagreat", sum := "b19673102d8080f7d4ca0c772a01d1b57240e4b5e79d0806ef2606103a3b40a6", func := "unbent/unbentlaw04.RuleTruthful", spec := "ruleTruthful", unfollowed := true, recurses := true, plainKeys := false, apart := false, narrowed := true }
def RuleTruthfulUptoSaid : Prop := ruleTruthfulUptoRow.holds Tryz.pinned (OpenSpec.upto ruleTruthfulSpec)

/-- 'unbentlaw04.RuleDraw', WHERE WHAT IT READS IS OF BULK AT MOST 1048576: true; the input reads as it did. -/
def ruleDrawUptoRow : OpenClaim := { program := "ytmgaoecfipkjbaagreat", sum := "b19673102d8080f7d4ca0c772a01d1b57240e4b5e79d0806ef2606103a3b40a6", func := "unbent/unbentlaw04.RuleDraw", spec := "ruleDraw", unfollowed := true, recurses := true, plainKeys := false, apart := false, narrowed := true }
def RuleDrawUptoSaid : Prop := ruleDrawUptoRow.holds Tryz.pinned (OpenSpec.upto ruleDrawSpec)

/-- 'unbentlaw04.RuleNames', WHERE WHAT IT READS IS OF BULK AT MOST 1048576: true; the input reads as it did. -/
def ruleNamesUptoRow : OpenClaim := { program := "ytmgaoecfipkjbaagreat", sum := "b19673102d8080f7d4ca0c772a01d1b57240e4b5e79d0806ef2606103a3b40a6", func := "unbent/unbentlaw04.RuleNames", spec := "ruleNames", unfollowed := true, recurses := true, plainKeys := false, apart := false, narrowed := true }
def RuleNamesUptoSaid : Prop := ruleNamesUptoRow.holds Tryz.pinned (OpenSpec.upto ruleNamesSpec)

/-- 'unbentlaw04.RuleLie', WHERE WHAT IT READS IS OF BULK AT MOST 1048576: true; the input reads as it did. -/
def ruleLieUptoRow : OpenClaim := { program := "ytmgaoecfipkjbaagreat", sum := "b19673102d8080f7d4ca0c772a01d1b57240e4b5e79d0806ef2606103a3b40a6", func := "unbent/unbentlaw04.RuleLie", spec := "ruleLie", unfollowed := true, recurses := true, plainKeys := false, apart := false, narrowed := true }
def RuleLieUptoSaid : Prop := ruleLieUptoRow.holds Tryz.pinned (OpenSpec.upto ruleLieSpec)

/-- 'unbentlaw04.RuleWorth', WHERE WHAT IT READS IS OF BULK AT MOST 1048576: true; the input reads as it did. -/
def ruleWorthUptoRow : OpenClaim := { program := "ytmgaoecfipkjbaagreat", sum := "b19673102d8080f7d4ca0c772a01d1b57240e4b5e79d0806ef2606103a3b40a6", func := "unbent/unbentlaw04.RuleWorth", spec := "ruleWorth", unfollowed := true, recurses := true, plainKeys := false, apart := false, narrowed := true }
def RuleWorthUptoSaid : Prop := ruleWorthUptoRow.holds Tryz.pinned (OpenSpec.upto ruleWorthSpec)

/-- 'unbentlaw04.RuleFixed', WHERE WHAT IT READS IS OF BULK AT MOST 1048576: true; the input reads as it did. -/
def ruleFixedUptoRow : OpenClaim := { program := "ytmgaoecfipkjbaagreat", sum := "b19673102d8080f7d4ca0c772a01d1b57240e4b5e79d0806ef2606103a3b40a6", func := "unbent/unbentlaw04.RuleFixed", spec := "ruleFixed", unfollowed := true, recurses := true, plainKeys := false, apart := false, narrowed := true }
def RuleFixedUptoSaid : Prop := ruleFixedUptoRow.holds Tryz.pinned (OpenSpec.upto ruleFixedSpec)

/-- 'unbentlaw04.RuleMix', WHERE WHAT IT READS IS OF BULK AT MOST 1048576: true; the input reads as it did. -/
def ruleMixUptoRow : OpenClaim := { program := "ytmgaoecfipkjbaagreat", sum := "b19673102d8080f7d4ca0c772a01d1b57240e4b5e79d0806ef2606103a3b40a6", func := "unbent/unbentlaw04.RuleMix", spec := "ruleMix", unfollowed := true, recurses := true, plainKeys := false, apart := false, narrowed := true }
def RuleMixUptoSaid : Prop := ruleMixUptoRow.holds Tryz.pinned (OpenSpec.upto ruleMixSpec)

/-- 'unbentlaw04.RuleAudit', WHERE WHAT IT READS IS OF BULK AT MOST 1048576: true; the input reads as it did. -/
def ruleAuditUptoRow : OpenClaim := { program := "ytmgaoecfipkjbaagreat", sum := "b19673102d8080f7d4ca0c772a01d1b57240e4b5e79d0806ef2606103a3b40a6", func := "unbent/unbentlaw04.RuleAudit", spec := "ruleAudit", unfollowed := true, recurses := true, plainKeys := false, apart := false, narrowed := true }
def RuleAuditUptoSaid : Prop := ruleAuditUptoRow.holds Tryz.pinned (OpenSpec.upto ruleAuditSpec)

/-- 'unbentlaw04.RuleGroup', WHERE WHAT IT READS IS OF BULK AT MOST 1048576: true; the input reads as it did. -/
def ruleGroupUptoRow : OpenClaim := { program := "ytmgaoecfipkjbaagreat", sum := "b19673102d8080f7d4ca0c772a01d1b57240e4b5e79d0806ef2606103a3b40a6", func := "unbent/unbentlaw04.RuleGroup", spec := "ruleGroup", unfollowed := true, recurses := true, plainKeys := false, apart := false, narrowed := true }
def RuleGroupUptoSaid : Prop := ruleGroupUptoRow.holds Tryz.pinned (OpenSpec.upto ruleGroupSpec)

/-- 'unbentlaw04.RuleMeets', WHERE WHAT IT READS IS OF BULK AT MOST 1048576: true; the input reads as it did. -/
def ruleMeetsUptoRow : OpenClaim := { program := "ytmgaoecfipkjbaagreat", sum := "b19673102d8080f7d4ca0c772a01d1b57240e4b5e79d0806ef2606103a3b40a6", func := "unbent/unbentlaw04.RuleMeets", spec := "ruleMeets", unfollowed := true, recurses := true, plainKeys := false, apart := false, narrowed := true }
def RuleMeetsUptoSaid : Prop := ruleMeetsUptoRow.holds Tryz.pinned (OpenSpec.upto ruleMeetsSpec)

end Rows
end Go.Proofs.YtmgaoecfipkjbaaGreat
