/- The statement CrowdAudit holds: for every input the law returns true, and its arguments read as before. -/
import Derived.Test.YtglhjjokijdagaaGreatL23
import Derived.Test.YtglhjjokijdagaaGreatRows
set_option linter.unusedSimpArgs false
set_option linter.unusedVariables false
set_option linter.unusedSectionVars false
namespace Go.Proofs.YtglhjjokijdagaaGreat.crowdAudit
open Go.Proofs.YtglhjjokijdagaaGreat.Sh Go.RowKit

theorem own : ownKnob Tryz.prog.godebug = none := by kernel_rfl
theorem laidOut : laidOutB Tryz.prog = true := by kernel_rfl

set_option maxRecDepth 100000 in
theorem call {H : Type} (ds : List (DataW H)) (h : Shp.okAll [shpGm, shpRu, shpLog14] ds) : CallsS Tryz.prog 5 (Shp.svAll [shpGm, shpRu, shpLog14] ds) (B true) := by
  obtain ⟨d1, ds, rfl, h1, h⟩ := okAll_cons h
  obtain ⟨d2, ds, rfl, h2, h⟩ := okAll_cons h
  obtain ⟨d3, ds, rfl, h3, h⟩ := okAll_cons h
  obtain rfl := okAll_nil h
  obtain ⟨g1, e1, w1⟩ := gm_of_ok h1
  obtain ⟨r2, e2, l2, w2⟩ := ru_of_ok h2
  obtain ⟨T3, S3, a3, e3, w3⟩ := log14_of_ok h3
  rw [svAll_cons, svAll_cons, svAll_cons, svAll_nil, show shpGm.sv d1 = .agg (shpGm.cells d1) from rfl, show shpRu.sv d2 = .agg (shpRu.cells d2) from rfl, show shpLog14.sv d3 = .agg (shpLog14.cells d3) from rfl, e1, e2, e3]
  exact lawCAudit_s g1 r2 T3 S3 a3 w1 l2 w2 w3.1.1 w3.2.1.1 (fun p h => (w3.1.2 p h).1) (fun p h => w3.2.1.2 p h)

set_option maxRecDepth 100000 in
theorem lifted (os : Os) (started : os.Started) (H : Type) (enc : TypeId × Value → H) :
    ReturnsInHanded {} Tryz.checked os 5 .any (Rows.crowdAuditSpec.pre6 enc Tryz.prog Tryz.f5 Rows.crowdAuditRow.domain false) (Rows.crowdAuditSpec.post enc Tryz.prog Tryz.f5 false true false false) := by
  refine returnsInHanded_of_change_sized (C := Tryz.checked) own started (by kernel_rfl) Tryz.func5
    (ChangeSpec.witness6 (enc := enc) (C := Tryz.checked) false ⟨#[], #[.agg #[.slice none 0 0, .slice none 0 0, .bool false, .bool false, .int .i64 0, .slice none 0 0], .agg #[.slice none 0 0], .agg #[.slice none 0 0, .slice none 0 0, .int .i64 0]], []⟩ 8 (by kernel_rfl) (by kernel_rfl) (by kernel_rfl) (by kernel_rfl)) ?_
  intro W base args ds gs before hval hW _ hsz _
  exact law_post (shs := [shpGm, shpRu, shpLog14]) laidOut (by kernel_rfl) (by kernel_rfl) rfl (by kernel_rfl) rfl
    (fun ds h => by
      have h2 : ds.length = 3 := h
      match ds, h2 with
      | [d1, d2, d3], _ => rfl) (fun ds h => call ds h) hval hW hsz

theorem over : Rows.crowdAuditRow.holds Tryz.pinned (OpenSpec.ofChange Rows.crowdAuditSpec) :=
  OpenClaim.holds_of_wide 5 Tryz.f5 rfl rfl rfl rfl rfl rfl rfl ⟨rfl, rfl, rfl, rfl, rfl⟩ rfl rfl rfl rfl rfl (by kernel_rfl) Tryz.func5 (by kernel_rfl)
    (of_decide_eq_true (by kernel_rfl)) (by unfold Func.isWrapper; first | (rw [if_pos (by decide +kernel)]; kernel_rfl) | (rw [if_neg (by decide +kernel)]; exact ⟨rfl, rfl⟩))
    (fun os started H enc _ => lifted os started H enc)
theorem proved : Rows.CrowdAuditSaid := over
#print axioms proved
end Go.Proofs.YtglhjjokijdagaaGreat.crowdAudit
