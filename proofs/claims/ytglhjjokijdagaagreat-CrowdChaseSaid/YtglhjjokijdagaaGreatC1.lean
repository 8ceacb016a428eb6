/- The statement CrowdChase holds: for every input the law returns true, and its arguments read as before. -/
import Derived.Test.YtglhjjokijdagaaGreatL24
import Derived.Test.YtglhjjokijdagaaGreatRows
set_option linter.unusedSimpArgs false
set_option linter.unusedVariables false
set_option linter.unusedSectionVars false
namespace Go.Proofs.YtglhjjokijdagaaGreat.crowdChase
open Go.Proofs.YtglhjjokijdagaaGreat.Sh Go.RowKit

theorem own : ownKnob Tryz.prog.godebug = none := by kernel_rfl
theorem laidOut : laidOutB Tryz.prog = true := by kernel_rfl

set_option maxRecDepth 100000 in
theorem call {H : Type} (ds : List (DataW H)) (h : Shp.okAll [shpGm, shpRu, shpBegin] ds) : CallsS Tryz.prog 4 (Shp.svAll [shpGm, shpRu, shpBegin] ds) (B true) := by
  obtain ⟨d1, ds, rfl, h1, h⟩ := okAll_cons h
  obtain ⟨d2, ds, rfl, h2, h⟩ := okAll_cons h
  obtain ⟨d3, ds, rfl, h3, h⟩ := okAll_cons h
  obtain rfl := okAll_nil h
  obtain ⟨g1, e1, w1⟩ := gm_of_ok h1
  obtain ⟨r2, e2, l2, w2⟩ := ru_of_ok h2
  obtain ⟨t3, s3, e3, w3⟩ := begin_of_ok h3
  rw [svAll_cons, svAll_cons, svAll_cons, svAll_nil, show shpGm.sv d1 = .agg (shpGm.cells d1) from rfl, show shpRu.sv d2 = .agg (shpRu.cells d2) from rfl, show shpBegin.sv d3 = .agg (shpBegin.cells d3) from rfl, e1, e2, e3]
  exact lawChase_s g1 r2 t3 s3 w1 l2 w2 w3.1 w3.2.1

set_option maxRecDepth 100000 in
theorem lifted (os : Os) (started : os.Started) (H : Type) (enc : TypeId × Value → H) :
    ReturnsInHanded {} Tryz.checked os 4 .any (Rows.crowdChaseSpec.pre6 enc Tryz.prog Tryz.f4 Rows.crowdChaseRow.domain false) (Rows.crowdChaseSpec.post enc Tryz.prog Tryz.f4 false true false false) := by
  refine returnsInHanded_of_change_sized (C := Tryz.checked) own started (by kernel_rfl) Tryz.func4
    (ChangeSpec.witness6 (enc := enc) (C := Tryz.checked) false ⟨#[], #[.agg #[.slice none 0 0, .slice none 0 0, .bool false, .bool false, .int .i64 0, .slice none 0 0], .agg #[.slice none 0 0], .agg #[.slice none 0 0, .slice none 0 0]], []⟩ 8 (by kernel_rfl) (by kernel_rfl) (by kernel_rfl) (by kernel_rfl)) ?_
  intro W base args ds gs before hval hW _ hsz _
  exact law_post (shs := [shpGm, shpRu, shpBegin]) laidOut (by kernel_rfl) (by kernel_rfl) rfl (by kernel_rfl) rfl
    (fun ds h => by
      have h2 : ds.length = 3 := h
      match ds, h2 with
      | [d1, d2, d3], _ => rfl) (fun ds h => call ds h) hval hW hsz

theorem over : Rows.crowdChaseRow.holds Tryz.pinned (OpenSpec.ofChange Rows.crowdChaseSpec) :=
  OpenClaim.holds_of_wide 4 Tryz.f4 rfl rfl rfl rfl rfl rfl rfl ⟨rfl, rfl, rfl, rfl, rfl⟩ rfl rfl rfl rfl rfl (by kernel_rfl) Tryz.func4 (by kernel_rfl)
    (of_decide_eq_true (by kernel_rfl)) (by unfold Func.isWrapper; first | (rw [if_pos (by decide +kernel)]; kernel_rfl) | (rw [if_neg (by decide +kernel)]; exact ⟨rfl, rfl⟩))
    (fun os started H enc _ => lifted os started H enc)
theorem proved : Rows.CrowdChaseSaid := over
#print axioms proved
end Go.Proofs.YtglhjjokijdagaaGreat.crowdChase
