/- The statement RuleMix holds: for every input the law returns true, and its arguments read as before. -/
import Derived.Test.YtmgaoecfipkjbaaGreatL24
import Derived.Test.YtmgaoecfipkjbaaGreatRows
set_option linter.unusedSimpArgs false
set_option linter.unusedVariables false
set_option linter.unusedSectionVars false
namespace Go.Proofs.YtmgaoecfipkjbaaGreat.ruleMix
open Go.Proofs.YtmgaoecfipkjbaaGreat.Sh Go.RowKit

theorem own : ownKnob Tryz.prog.godebug = none := by kernel_rfl
theorem laidOut : laidOutB Tryz.prog = true := by kernel_rfl

set_option maxRecDepth 100000 in
theorem call {H : Type} (ds : List (DataW H)) (h : Shp.okAll [shpGm, shpMixed] ds) : CallsS Tryz.prog 10 (Shp.svAll [shpGm, shpMixed] ds) (B true) := by
  obtain ⟨d1, ds, rfl, h1, h⟩ := okAll_cons h
  obtain ⟨d2, ds, rfl, h2, h⟩ := okAll_cons h
  obtain rfl := okAll_nil h
  obtain ⟨g1, e1, w1⟩ := gm_of_ok h1
  obtain ⟨a2, b2, c2, e2, w2⟩ := mixed_of_ok h2
  rw [svAll_cons, svAll_cons, svAll_nil, show shpGm.sv d1 = .agg (shpGm.cells d1) from rfl, show shpMixed.sv d2 = .agg (shpMixed.cells d2) from rfl, e1, e2]
  exact lawMix_s g1 a2 b2 c2 w1 w2.1.1 w2.1.2 w2.2.1.1 w2.2.1.2 w2.2.2

set_option maxRecDepth 100000 in
theorem lifted (os : Os) (started : os.Started) (H : Type) (enc : TypeId × Value → H) :
    ReturnsInHanded {} Tryz.checked os 10 .any (Rows.ruleMixSpec.pre6 enc Tryz.prog Tryz.f10 Rows.ruleMixRow.domain false) (Rows.ruleMixSpec.post enc Tryz.prog Tryz.f10 false true false false) := by
  refine returnsInHanded_of_change_sized (C := Tryz.checked) own started (by kernel_rfl) Tryz.func10
    (ChangeSpec.witness6 (enc := enc) (C := Tryz.checked) false ⟨#[], #[.agg #[.slice none 0 0, .slice none 0 0, .bool false, .bool false, .int .i64 0, .slice none 0 0], .agg #[.slice none 0 0, .slice none 0 0, .bool false, .slice none 0 0, .slice none 0 0]], []⟩ 8 (by kernel_rfl) (by kernel_rfl) (by kernel_rfl) (by kernel_rfl)) ?_
  intro W base args ds gs before hval hW _ hsz _
  exact law_post (shs := [shpGm, shpMixed]) laidOut (by kernel_rfl) (by kernel_rfl) rfl (by kernel_rfl) rfl
    (fun ds h => by
      have h2 : ds.length = 2 := h
      match ds, h2 with
      | [d1, d2], _ => rfl) (fun ds h => call ds h) hval hW hsz

theorem over : Rows.ruleMixRow.holds Tryz.pinned (OpenSpec.ofChange Rows.ruleMixSpec) :=
  OpenClaim.holds_of_wide 10 Tryz.f10 rfl rfl rfl rfl rfl rfl rfl ⟨rfl, rfl, rfl, rfl, rfl⟩ rfl rfl rfl rfl rfl (by kernel_rfl) Tryz.func10 (by kernel_rfl)
    (of_decide_eq_true (by kernel_rfl)) (by unfold Func.isWrapper; first | (rw [if_pos (by decide +kernel)]; kernel_rfl) | (rw [if_neg (by decide +kernel)]; exact ⟨rfl, rfl⟩))
    (fun os started H enc _ => lifted os started H enc)
theorem proved : Rows.RuleMixSaid := over
#print axioms proved
end Go.Proofs.YtmgaoecfipkjbaaGreat.ruleMix
