/-
  No cell of these rows narrows 'for every input' (looked for: loops, veiled, ifaces, maps, wideKeys, modest, calm, conditions, laid).
  DERIVED. THE GIVEN ROWS OF THIS SEAT. 6 by the template 'for every input the law returns true; each argument reads behind the call as it read before'; 0 by the template 'total and deterministic' (their statements: YtaljbebkooppiaaGreatTotals.lean).
  GIVEN WITH THE SEED: the statements are not yours to turn. If you find one false, say at which input.
  Laid BY PROGRAM, IN A SANDBOX (cutbox-rows.mjs): the forced cells as the released guide's own fill.sh prints them over the translation a1d8f0501ef83340… (all of the seat's roots in one cut). By AI agents, Wed Nov 11 2026. No macro, syntax, notation, axiom, sorry.
-/
import Derived.Test.YtaljbebkooppiaaGreatChecked
import GoSem.Claim
import GoSem.ClaimJoined
import GoSem.ClaimMapViews
import Derived.JoinedTies
import Derived.KernelRfl
namespace Go.Proofs.YtaljbebkooppiaaGreat
/- THE CELL 'sum', in the pinned program and in every row, IS THE sha256 OF THE DUMP (.gsa) THAT YtaljbebkooppiaaGreatProg.lean LOADS. Nothing in Lean hashes anything: it is a label: what it is worth is what the hold of that sum in a sandbox is worth. -/
noncomputable def Tryz.pinned : Pinned := { name := "ytaljbebkooppiaagreat", sum := "a1d8f0501ef833400c4d20a7a338f1bcbf159299b13c6b1a5b99ddc5e3bbd842", checked := Tryz.checked }
namespace Rows
def none {H : Type} : Left H := { results := [], args := [] }

/-- 'unbentlaw08.VineClock': WHATEVER THE INPUT: true; the input reads as it did. -/
def vineClockSpec : ChangeSpec := { name := "vineClock", fn := fun _ => fun
  | [d1, d2] => { results := [.lit (.bool true)], args := [d1, d2] }
  | _ => none }
def vineClockRow : OpenClaim := { program := "ytaljbebkooppiaagreat", sum := "a1d8f0501ef833400c4d20a7a338f1bcbf159299b13c6b1a5b99ddc5e3bbd842", func := "unbent/unbentlaw08.VineClock", spec := "vineClock", unfollowed := true, recurses := true, plainKeys := false, apart := false }
def VineClockSaid : Prop := vineClockRow.holds Tryz.pinned (OpenSpec.ofChange vineClockSpec)

/-- ITS FALSE NEIGHBOUR: 'it returns false'. Refute it at one input. -/
def vineClockWrong : ChangeSpec := { name := "vineClock", fn := fun _ => fun
  | [d1, d2] => { results := [.lit (.bool false)], args := [d1, d2] }
  | _ => none }
def VineClockWrongFalsely : Prop := vineClockRow.holds Tryz.pinned (OpenSpec.ofChange vineClockWrong)

/-- 'unbentlaw08.VineTells': WHATEVER THE INPUT: true; the input reads as it did. -/
def vineTellsSpec : ChangeSpec := { name := "vineTells", fn := fun _ => fun
  | [d1, d2, d3] => { results := [.lit (.bool true)], args := [d1, d2, d3] }
  | _ => none }
def vineTellsRow : OpenClaim := { program := "ytaljbebkooppiaagreat", sum := "a1d8f0501ef833400c4d20a7a338f1bcbf159299b13c6b1a5b99ddc5e3bbd842", func := "unbent/unbentlaw08.VineTells", spec := "vineTells", unfollowed := true, recurses := true, plainKeys := false, apart := false }
def VineTellsSaid : Prop := vineTellsRow.holds Tryz.pinned (OpenSpec.ofChange vineTellsSpec)

/-- ITS FALSE NEIGHBOUR: 'it returns false'. Refute it at one input. -/
def vineTellsWrong : ChangeSpec := { name := "vineTells", fn := fun _ => fun
  | [d1, d2, d3] => { results := [.lit (.bool false)], args := [d1, d2, d3] }
  | _ => none }
def VineTellsWrongFalsely : Prop := vineTellsRow.holds Tryz.pinned (OpenSpec.ofChange vineTellsWrong)

/-- 'unbentlaw08.VineStuck': WHATEVER THE INPUT: true; the input reads as it did. -/
def vineStuckSpec : ChangeSpec := { name := "vineStuck", fn := fun _ => fun
  | [d1, d2, d3] => { results := [.lit (.bool true)], args := [d1, d2, d3] }
  | _ => none }
def vineStuckRow : OpenClaim := { program := "ytaljbebkooppiaagreat", sum := "a1d8f0501ef833400c4d20a7a338f1bcbf159299b13c6b1a5b99ddc5e3bbd842", func := "unbent/unbentlaw08.VineStuck", spec := "vineStuck", unfollowed := true, recurses := true, plainKeys := false, apart := false }
def VineStuckSaid : Prop := vineStuckRow.holds Tryz.pinned (OpenSpec.ofChange vineStuckSpec)

/-- ITS FALSE NEIGHBOUR: 'it returns false'. Refute it at one input. -/
def vineStuckWrong : ChangeSpec := { name := "vineStuck", fn := fun _ => fun
  | [d1, d2, d3] => { results := [.lit (.bool false)], args := [d1, d2, d3] }
  | _ => none }
def VineStuckWrongFalsely : Prop := vineStuckRow.holds Tryz.pinned (OpenSpec.ofChange vineStuckWrong)

/-- 'unbentlaw08.VineTruthful': WHATEVER THE INPUT: true; the input reads as it did. -/
def vineTruthfulSpec : ChangeSpec := { name := "vineTruthful", fn := fun _ => fun
  | [d1, d2] => { results := [.lit (.bool true)], args := [d1, d2] }
  | _ => none }
def vineTruthfulRow : OpenClaim := { program := "ytaljbebkooppiaagreat", sum := "a1d8f0501ef833400c4d20a7a338f1bcbf159299b13c6b1a5b99ddc5e3bbd842", func := "unbent/unbentlaw08.VineTruthful", spec := "vineTruthful", unfollowed := true, recurses := true, plainKeys := false, apart := false }
def VineTruthfulSaid : Prop := vineTruthfulRow.holds Tryz.pinned (OpenSpec.ofChange vineTruthfulSpec)

/-- ITS FALSE NEIGHBOUR: 'it returns false'. Refute it at one input. -/
def vineTruthfulWrong : ChangeSpec := { name := "vineTruthful", fn := fun _ => fun
  | [d1, d2] => { results := [.lit (.bool false)], args := [d1, d2] }
  | _ => none }
def VineTruthfulWrongFalsely : Prop := vineTruthfulRow.holds Tryz.pinned (OpenSpec.ofChange vineTruthfulWrong)

/-- 'unbentlaw08.VineGrow': WHATEVER THE INPUT: true; the input reads as it did. -/
def vineGrowSpec : ChangeSpec := { name := "vineGrow", fn := fun _ => fun
  | [d1, d2] => { results := [.lit (.bool true)], args := [d1, d2] }
  | _ => none }
def vineGrowRow : OpenClaim := { program := "ytaljbebkooppiaagreat", sum := "a1d8f0501ef833400c4d20a7a338f1bcbf159299b13c6b1a5b99ddc5e3bbd842", func := "unbent/unbentlaw08.VineGrow", spec := "vineGrow", unfollowed := true, recurses := true, plainKeys := false, apart := false }
def VineGrowSaid : Prop := vineGrowRow.holds Tryz.pinned (OpenSpec.ofChange vineGrowSpec)

/-- ITS FALSE NEIGHBOUR: 'it returns false'. Refute it at one input. -/
def vineGrowWrong : ChangeSpec := { name := "vineGrow", fn := fun _ => fun
  | [d1, d2] => { results := [.lit (.bool false)], args := [d1, d2] }
  | _ => none }
def VineGrowWrongFalsely : Prop := vineGrowRow.holds Tryz.pinned (OpenSpec.ofChange vineGrowWrong)

/-- 'unbentlaw08.VineAll': WHATEVER THE INPUT: true; the input reads as it did. -/
def vineAllSpec : ChangeSpec := { name := "vineAll", fn := fun _ => fun
  | [d1, d2, d3] => { results := [.lit (.bool true)], args := [d1, d2, d3] }
  | _ => none }
def vineAllRow : OpenClaim := { program := "ytaljbebkooppiaagreat", sum := "a1d8f0501ef833400c4d20a7a338f1bcbf159299b13c6b1a5b99ddc5e3bbd842", func := "unbent/unbentlaw08.VineAll", spec := "vineAll", unfollowed := true, recurses := true, plainKeys := false, apart := false }
def VineAllSaid : Prop := vineAllRow.holds Tryz.pinned (OpenSpec.ofChange vineAllSpec)

/-- ITS FALSE NEIGHBOUR: 'it returns false'. Refute it at one input. -/
def vineAllWrong : ChangeSpec := { name := "vineAll", fn := fun _ => fun
  | [d1, d2, d3] => { results := [.lit (.bool false)], args := [d1, d2, d3] }
  | _ => none }
def VineAllWrongFalsely : Prop := vineAllRow.holds Tryz.pinned (OpenSpec.ofChange vineAllWrong)

/- THE SECOND FORM. 'bulk': how many values and letters a reading holds, each counted each time it is reached (what is shared counts as often as it is met; a slice's spare places count too). A statement '..UptoSaid' is the law's where the arguments, and the package variables that the reading takes, are together of bulk at most 1048576: NARROWER than '..Said'. Prove '..Said' where nothing that the law and all that it calls make is longer than what came in: it says more and counts as full. Else prove '..UptoSaid'. A law counts once. -/
mutual
def uptoBulk {H : Type} : DataW H → Nat
  | .lit (.string bytes) => bytes.length + 1
  | .lit _ => 1
  | .nil => 1
  | .ptr d => uptoBulk d + 1
  | .slice elems spare => uptoBulkAll elems + uptoBulkAll spare + 1
  | .agg parts => uptoBulkAll parts + 1
  | .iface _ d => uptoBulk d + 1
  | .map entries => uptoBulkEntries entries + 1
  | .held _ => 1
def uptoBulkAll {H : Type} : List (DataW H) → Nat
  | [] => 0
  | d :: r => uptoBulk d + uptoBulkAll r
def uptoBulkEntries {H : Type} : List (Lit × DataW H) → Nat
  | [] => 0
  | x :: r => uptoBulkEntry x + uptoBulkEntries r
def uptoBulkEntry {H : Type} : Lit × DataW H → Nat
  | (.string bytes, d) => bytes.length + uptoBulk d + 1
  | (_, d) => uptoBulk d + 1
 end
def uptoSmall : (H : Type) → List (DataW H) → Bool := fun _ ds => decide (uptoBulkAll ds ≤ 1048576)
def OpenSpec.upto (s : _root_.Go.ChangeSpec) : _root_.Go.OpenSpec := { _root_.Go.OpenSpec.ofChange s with cond := some uptoSmall }

/-- 'unbentlaw08.VineClock', WHERE WHAT IT READS IS OF BULK AT MOST 1048576: true; the input reads as it did. -/
def vineClockUptoRow : OpenClaim := { program := "ytaljbebkooppiaagreat", sum := "a1d8f0501ef833400c4d20a7a338f1bcbf159299b13c6b1a5b99ddc5e3bbd842", func := "unbent/unbentlaw08.VineClock", spec := "vineClock", unfollowed := true, recurses := true, plainKeys := false, apart := false, narrowed := true }
def VineClockUptoSaid : Prop := vineClockUptoRow.holds Tryz.pinned (OpenSpec.upto vineClockSpec)

/-- 'unbentlaw08.VineTells', WHERE WHAT IT READS IS OF BULK AT MOST 1048576: true; the input reads as it did. -/
def vineTellsUptoRow : OpenClaim := { program := "ytaljbebkooppiaagreat", sum := "a1d8f0501ef833400c4d20a7a338f1bcbf159299b13c6b1a5b99ddc5e3bbd842", func := "unbent/unbentlaw08.VineTells", spec := "vineTells", unfollowed := true, recurses := true, plainKeys := false, apart := false, narrowed := true }
def VineTellsUptoSaid : Prop := vineTellsUptoRow.holds Tryz.pinned (OpenSpec.upto vineTellsSpec)

/-- 'unbentlaw08.VineStuck', WHERE WHAT IT READS IS OF BULK AT MOST 1048576: true; the input reads as it did. -/
def vineStuckUptoRow : OpenClaim := { program := "ytaljbebkooppiaagreat", sum := "a1d8f0501ef833400c4d20a7a338f1bcbf159299b13c6b1a5b99ddc5e3bbd842", func := "unbent/unbentlaw08.VineStuck", spec := "vineStuck", unfollowed := true, recurses := true, plainKeys := false, apart := false, narrowed := true }
def VineStuckUptoSaid : Prop := vineStuckUptoRow.holds Tryz.pinned (OpenSpec.upto vineStuckSpec)

/-- 'unbentlaw08.VineTruthful', WHERE WHAT IT READS IS OF BULK AT MOST 1048576: true; the input reads as it did. -/
def vineTruthfulUptoRow : OpenClaim := { program := "ytaljbebkooppiaagreat", sum := "a1d8f0501ef833400c4d20a7a338f1bcbf159299b13c6b1a5b99ddc5e3bbd842", func := "unbent/unbentlaw08.VineTruthful", spec := "vineTruthful", unfollowed := true, recurses := true, plainKeys := false, apart := false, narrowed := true }
def VineTruthfulUptoSaid : Prop := vineTruthfulUptoRow.holds Tryz.pinned (OpenSpec.upto vineTruthfulSpec)

/-- 'unbentlaw08.VineGrow', WHERE WHAT IT READS IS OF BULK AT MOST 1048576: true; the input reads as it did. -/
def vineGrowUptoRow : OpenClaim := { program := "ytaljbebkooppiaagreat", sum := "a1d8f0501ef833400c4d20a7a338f1bcbf159299b13c6b1a5b99ddc5e3bbd842", func := "unbent/unbentlaw08.VineGrow", spec := "vineGrow", unfollowed := true, recurses := true, plainKeys := false, apart := false, narrowed := true }
def VineGrowUptoSaid : Prop := vineGrowUptoRow.holds Tryz.pinned (OpenSpec.upto vineGrowSpec)

/-- 'unbentlaw08.VineAll', WHERE WHAT IT READS IS OF BULK AT MOST 1048576: true; the input reads as it did. -/
def vineAllUptoRow : OpenClaim := { program := "ytaljbebkooppiaagreat", sum := "a1d8f0501ef833400c4d20a7a338f1bcbf159299b13c6b1a5b99ddc5e3bbd842", func := "unbent/unbentlaw08.VineAll", spec := "vineAll", unfollowed := true, recurses := true, plainKeys := false, apart := false, narrowed := true }
def VineAllUptoSaid : Prop := vineAllUptoRow.holds Tryz.pinned (OpenSpec.upto vineAllSpec)

end Rows
end Go.Proofs.YtaljbebkooppiaaGreat
