/-
  No cell of these rows narrows 'for every input' (looked for: loops, veiled, ifaces, maps, wideKeys, modest, calm, conditions, laid).
  DERIVED. THE GIVEN ROWS OF THIS SEAT. 4 by the template 'for every input the law returns true; each argument reads behind the call as it read before'; 0 by the template 'total and deterministic' (their statements: YtglhjjokijdagaaGreatTotals.lean).
  GIVEN WITH THE SEED: the statements are not yours to turn. If you find one false, say at which input.
  Laid BY PROGRAM, IN A SANDBOX (cutbox-rows.mjs): the forced cells as the released guide's own fill.sh prints them over the translation 766451dcf703f511… (all of the seat's roots in one cut). By AI agents, Wed Nov 11 2026. No macro, syntax, notation, axiom, sorry.
-/
import Derived.Test.YtglhjjokijdagaaGreatChecked
import GoSem.Claim
import GoSem.ClaimJoined
import GoSem.ClaimMapViews
import Derived.JoinedTies
import Derived.KernelRfl
namespace Go.Proofs.YtglhjjokijdagaaGreat
/- THE CELL 'sum', in the pinned program and in every row, IS THE sha256 OF THE DUMP (.gsa) THAT YtglhjjokijdagaaGreatProg.lean LOADS. Nothing in Lean hashes anything: it is a label: what it is worth is what the hold of that sum in a sandbox is worth. -/
noncomputable def Tryz.pinned : Pinned := { name := "ytglhjjokijdagaagreat", sum := "766451dcf703f511917d99cf86706fbd1fc7d0fa7d673bca220a1c14e6984765", checked := Tryz.checked }
namespace Rows
def none {H : Type} : Left H := { results := [], args := [] }

/-- 'unbentlaw14.CrowdNone': WHATEVER THE INPUT: true; the input reads as it did. -/
def crowdNoneSpec : ChangeSpec := { name := "crowdNone", fn := fun _ => fun
  | [d1, d2, d3] => { results := [.lit (.bool true)], args := [d1, d2, d3] }
  | _ => none }
def crowdNoneRow : OpenClaim := { program := "ytglhjjokijdagaagreat", sum := "766451dcf703f511917d99cf86706fbd1fc7d0fa7d673bca220a1c14e6984765", func := "unbent/unbentlaw14.CrowdNone", spec := "crowdNone", unfollowed := true, recurses := true, plainKeys := false, apart := false }
def CrowdNoneSaid : Prop := crowdNoneRow.holds Tryz.pinned (OpenSpec.ofChange crowdNoneSpec)

/-- ITS FALSE NEIGHBOUR: 'it returns false'. Refute it at one input. -/
def crowdNoneWrong : ChangeSpec := { name := "crowdNone", fn := fun _ => fun
  | [d1, d2, d3] => { results := [.lit (.bool false)], args := [d1, d2, d3] }
  | _ => none }
def CrowdNoneWrongFalsely : Prop := crowdNoneRow.holds Tryz.pinned (OpenSpec.ofChange crowdNoneWrong)

/-- 'unbentlaw14.CrowdChase': WHATEVER THE INPUT: true; the input reads as it did. -/
def crowdChaseSpec : ChangeSpec := { name := "crowdChase", fn := fun _ => fun
  | [d1, d2, d3] => { results := [.lit (.bool true)], args := [d1, d2, d3] }
  | _ => none }
def crowdChaseRow : OpenClaim := { program := "ytglhjjokijdagaagreat", sum := "766451dcf703f511917d99cf86706fbd1fc7d0fa7d673bca220a1c14e6984765", func := "unbent/unbentlaw14.CrowdChase", spec := "crowdChase", unfollowed := true, recurses := true, plainKeys := false, apart := false }
def CrowdChaseSaid : Prop := crowdChaseRow.holds Tryz.pinned (OpenSpec.ofChange crowdChaseSpec)

/-- ITS FALSE NEIGHBOUR: 'it returns false'. Refute it at one input. -/
def crowdChaseWrong : ChangeSpec := { name := "crowdChase", fn := fun _ => fun
  | [d1, d2, d3] => { results := [.lit (.bool false)], args := [d1, d2, d3] }
  | _ => none }
def CrowdChaseWrongFalsely : Prop := crowdChaseRow.holds Tryz.pinned (OpenSpec.ofChange crowdChaseWrong)

/-- 'unbentlaw14.CrowdAudit': WHATEVER THE INPUT: true; the input reads as it did. -/
def crowdAuditSpec : ChangeSpec := { name := "crowdAudit", fn := fun _ => fun
  | [d1, d2, d3] => { results := [.lit (.bool true)], args := [d1, d2, d3] }
  | _ => none }
def crowdAuditRow : OpenClaim := { program := "ytglhjjokijdagaagreat", sum := "766451dcf703f511917d99cf86706fbd1fc7d0fa7d673bca220a1c14e6984765", func := "unbent/unbentlaw14.CrowdAudit", spec := "crowdAudit", unfollowed := true, recurses := true, plainKeys := false, apart := false }
def CrowdAuditSaid : Prop := crowdAuditRow.holds Tryz.pinned (OpenSpec.ofChange crowdAuditSpec)

/-- ITS FALSE NEIGHBOUR: 'it returns false'. Refute it at one input. -/
def crowdAuditWrong : ChangeSpec := { name := "crowdAudit", fn := fun _ => fun
  | [d1, d2, d3] => { results := [.lit (.bool false)], args := [d1, d2, d3] }
  | _ => none }
def CrowdAuditWrongFalsely : Prop := crowdAuditRow.holds Tryz.pinned (OpenSpec.ofChange crowdAuditWrong)

/-- 'unbentlaw14.CrowdRegret': WHATEVER THE INPUT: true; the input reads as it did. -/
def crowdRegretSpec : ChangeSpec := { name := "crowdRegret", fn := fun _ => fun
  | [d1, d2, d3] => { results := [.lit (.bool true)], args := [d1, d2, d3] }
  | _ => none }
def crowdRegretRow : OpenClaim := { program := "ytglhjjokijdagaagreat", sum := "766451dcf703f511917d99cf86706fbd1fc7d0fa7d673bca220a1c14e6984765", func := "unbent/unbentlaw14.CrowdRegret", spec := "crowdRegret", unfollowed := true, recurses := true, plainKeys := false, apart := false }
def CrowdRegretSaid : Prop := crowdRegretRow.holds Tryz.pinned (OpenSpec.ofChange crowdRegretSpec)

/-- ITS FALSE NEIGHBOUR: 'it returns false'. Refute it at one input. -/
def crowdRegretWrong : ChangeSpec := { name := "crowdRegret", fn := fun _ => fun
  | [d1, d2, d3] => { results := [.lit (.bool false)], args := [d1, d2, d3] }
  | _ => none }
def CrowdRegretWrongFalsely : Prop := crowdRegretRow.holds Tryz.pinned (OpenSpec.ofChange crowdRegretWrong)

/- THE SECOND FORM. 'bulk': how many values and letters a reading holds, each counted each time it is reached (what is shared counts as often as it is met; a slice's spare places count too). A statement '..UptoSaid' is the law's where the arguments, and the package variables that the reading takes, are together of bulk at most 1048576: NARROWER than '..Said'. Prove '..Said' where nothing that the law and all that it calls make is longer than what came in: it says more and counts as full. Else prove '..UptoSaid'. A law counts once. -/
mutual
def uptoBulk {H : Type} : DataW H → Nat
  | .lit (.string bytes) => bytes.length + 1
  | .lit _ => 1
  | .nil => 1
  | .ptr d => uptoBulk d + 1
  | .slice elems spare => uptoBulkAll elems + uptoBulkAll spare + 1
  | .agg parts => uptoBulkAll parts + 1
  | .iface _ d => uptoBulk d + 1
  | .map entries => uptoBulkEntries entries + 1
  | .held _ => 1
def uptoBulkAll {H : Type} : List (DataW H) → Nat
  | [] => 0
  | d :: r => uptoBulk d + uptoBulkAll r
def uptoBulkEntries {H : Type} : List (Lit × DataW H) → Nat
  | [] => 0
  | x :: r => uptoBulkEntry x + uptoBulkEntries r
def uptoBulkEntry {H : Type} : Lit × DataW H → Nat
  | (.string bytes, d) => bytes.length + uptoBulk d + 1
  | (_, d) => uptoBulk d + 1
 end
def uptoSmall : (H : Type) → List (DataW H) → Bool := fun _ ds => decide (uptoBulkAll ds ≤ 1048576)
def OpenSpec.upto (s : _root_.Go.ChangeSpec) : _root_.Go.OpenSpec := { _root_.Go.OpenSpec.ofChange s with cond := some uptoSmall }

/-- 'unbentlaw14.CrowdNone', WHERE WHAT IT READS IS OF BULK AT MOST 1048576: true; the input reads as it did. -/
def crowdNoneUptoRow : OpenClaim := { program := "ytglhjjokijdagaagreat", sum := "766451dcf703f511917d99cf86706fbd1fc7d0fa7d673bca220a1c14e6984765", func := "unbent/unbentlaw14.CrowdNone", spec := "crowdNone", unfollowed := true, recurses := true, plainKeys := false, apart := false, narrowed := true }
def CrowdNoneUptoSaid : Prop := crowdNoneUptoRow.holds Tryz.pinned (OpenSpec.upto crowdNoneSpec)

/-- 'unbentlaw14.CrowdChase', WHERE WHAT IT READS IS OF BULK AT MOST 1048576: true; the input reads as it did. -/
def crowdChaseUptoRow : OpenClaim := { program := "ytglhjjokijdagaagreat", sum := "766451dcf703f511917d99cf86706fbd1fc7d0fa7d673bca220a1c14e6984765", func := "unbent/unbentlaw14.CrowdChase", spec := "crowdChase", unfollowed := true, recurses := true, plainKeys := false, apart := false, narrowed := true }
def CrowdChaseUptoSaid : Prop := crowdChaseUptoRow.holds Tryz.pinned (OpenSpec.upto crowdChaseSpec)

/-- 'unbentlaw14.CrowdAudit', WHERE WHAT IT READS IS OF BULK AT MOST 1048576: true; the input reads as it did. -/
def crowdAuditUptoRow : OpenClaim := { program := "ytglhjjokijdagaagreat", sum := "766451dcf703f511917d99cf86706fbd1fc7d0fa7d673bca220a1c14e6984765", func := "unbent/unbentlaw14.CrowdAudit", spec := "crowdAudit", unfollowed := true, recurses := true, plainKeys := false, apart := false, narrowed := true }
def CrowdAuditUptoSaid : Prop := crowdAuditUptoRow.holds Tryz.pinned (OpenSpec.upto crowdAuditSpec)

/-- 'unbentlaw14.CrowdRegret', WHERE WHAT IT READS IS OF BULK AT MOST 1048576: true; the input reads as it did. -/
def crowdRegretUptoRow : OpenClaim := { program := "ytglhjjokijdagaagreat", sum := "766451dcf703f511917d99cf86706fbd1fc7d0fa7d673bca220a1c14e6984765", func := "unbent/unbentlaw14.CrowdRegret", spec := "crowdRegret", unfollowed := true, recurses := true, plainKeys := false, apart := false, narrowed := true }
def CrowdRegretUptoSaid : Prop := crowdRegretUptoRow.holds Tryz.pinned (OpenSpec.upto crowdRegretSpec)

end Rows
end Go.Proofs.YtglhjjokijdagaaGreat
