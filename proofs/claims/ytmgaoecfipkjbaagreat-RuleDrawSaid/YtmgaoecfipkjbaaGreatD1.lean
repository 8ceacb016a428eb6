/- The statement RuleDraw holds: for every input the law returns true, and its arguments read as before. -/
import Derived.Test.YtmgaoecfipkjbaaGreatL21
import Derived.Test.YtmgaoecfipkjbaaGreatRows
set_option linter.unusedSimpArgs false
set_option linter.unusedVariables false
namespace Go.Proofs.YtmgaoecfipkjbaaGreat.ruleDraw
open Go.Proofs.YtmgaoecfipkjbaaGreat.Sh Go.RowKit

theorem own : ownKnob Tryz.prog.godebug = none := by kernel_rfl
theorem laidOut : laidOutB Tryz.prog = true := by kernel_rfl

set_option maxRecDepth 100000 in
theorem call {H : Type} (ds : List (DataW H)) (h : Shp.okAll [.slice 3 shpFr, shpFr] ds) : CallsS Tryz.prog 5 (Shp.svAll [.slice 3 shpFr, shpFr] ds) (B true) := by
  obtain ⟨d1, ds, rfl, h1, h⟩ := okAll_cons h
  obtain ⟨d2, ds, rfl, h2, h⟩ := okAll_cons h
  obtain rfl := okAll_nil h
  obtain ⟨l1, e1, n1, w1⟩ := frs_of_ok h1
  obtain ⟨f2, e2, w2⟩ := fr_of_ok h2
  rw [svAll_cons, svAll_cons, svAll_nil, sv_slice, show shpFr.sv d2 = .agg (shpFr.cells d2) from rfl, e1, e2, List.headD_cons]
  exact lawDraw_s l1 f2 w1 (Nat.le_trans n1 (by decide)) w2

set_option maxRecDepth 100000 in
theorem lifted (os : Os) (started : os.Started) (H : Type) (enc : TypeId × Value → H) :
    ReturnsInHanded {} Tryz.checked os 5 .any (Rows.ruleDrawSpec.pre6 enc Tryz.prog Tryz.f5 Rows.ruleDrawRow.domain false) (Rows.ruleDrawSpec.post enc Tryz.prog Tryz.f5 false true false false) := by
  refine returnsInHanded_of_change_sized (C := Tryz.checked) own started (by kernel_rfl) Tryz.func5
    (ChangeSpec.witness6 (enc := enc) (C := Tryz.checked) false ⟨#[], #[.slice none 0 0, .agg #[.bool false, .slice none 0 0, .slice none 0 0]], []⟩ 8 (by kernel_rfl) (by kernel_rfl) (by kernel_rfl) (by kernel_rfl)) ?_
  intro W base args ds gs before hval hW _ hsz _
  exact law_post (shs := [.slice 3 shpFr, shpFr]) laidOut (by kernel_rfl) (by kernel_rfl) rfl (by kernel_rfl) rfl
    (fun ds h => by
      have h2 : ds.length = 2 := h
      match ds, h2 with
      | [d1, d2], _ => rfl) (fun ds h => call ds h) hval hW hsz

theorem over : Rows.ruleDrawRow.holds Tryz.pinned (OpenSpec.ofChange Rows.ruleDrawSpec) :=
  OpenClaim.holds_of_wide 5 Tryz.f5 rfl rfl rfl rfl rfl rfl rfl ⟨rfl, rfl, rfl, rfl, rfl⟩ rfl rfl rfl rfl rfl (by kernel_rfl) Tryz.func5 (by kernel_rfl)
    (of_decide_eq_true (by kernel_rfl)) (by unfold Func.isWrapper; first | (rw [if_pos (by decide +kernel)]; kernel_rfl) | (rw [if_neg (by decide +kernel)]; exact ⟨rfl, rfl⟩))
    (fun os started H enc _ => lifted os started H enc)
theorem proved : Rows.RuleDrawSaid := over
#print axioms proved
end Go.Proofs.YtmgaoecfipkjbaaGreat.ruleDraw
