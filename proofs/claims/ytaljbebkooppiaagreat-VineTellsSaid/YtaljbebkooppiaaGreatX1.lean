/- The statement VineTells holds: for every input the law returns true, and its arguments read as before. -/
import Derived.Test.YtaljbebkooppiaaGreatV24
import Derived.Test.YtaljbebkooppiaaGreatV25
import Derived.Test.YtaljbebkooppiaaGreatRows
set_option linter.unusedSimpArgs false
set_option linter.unusedVariables false
set_option linter.unusedSectionVars false
namespace Go.Proofs.YtaljbebkooppiaaGreat.vineTells
open Go.Proofs.YtaljbebkooppiaaGreat.Sh Go.RowKit
theorem own : ownKnob Tryz.prog.godebug = none := by kernel_rfl
theorem laidOut : laidOutB Tryz.prog = true := by kernel_rfl
set_option maxRecDepth 100000 in
theorem call {H : Type} (ds : List (DataW H)) (h : Shp.okAll [shpGm, shpVi, .slice 1 (.int .i64)] ds) : CallsS Tryz.prog 4 (Shp.svAll [shpGm, shpVi, .slice 1 (.int .i64)] ds) (B true) := by
  obtain ⟨d1, ds, rfl, h1, h⟩ := okAll_cons h
  obtain ⟨d2, ds, rfl, h2, h⟩ := okAll_cons h
  obtain ⟨d3, ds, rfl, h3, h⟩ := okAll_cons h
  obtain rfl := okAll_nil h
  obtain ⟨g1, e1, w1, f1⟩ := gm_of_okB h1
  obtain ⟨l2, e2, n2, w2⟩ := vi_of_ok h2
  obtain ⟨l3, e3, n3, w3⟩ := i64s_of_ok h3
  rw [svAll_cons, svAll_cons, svAll_cons, svAll_nil, show shpGm.sv d1 = .agg (shpGm.cells d1) from rfl, show shpVi.sv d2 = .agg (shpVi.cells d2) from rfl, sv_slice, e1, e2, e3, List.headD_cons]
  exact tells8_s g1 w1 l2 n2 w2 l3 (Nat.le_trans n3 (by decide)) f1
set_option maxRecDepth 100000 in
theorem lifted (os : Os) (started : os.Started) (H : Type) (enc : TypeId × Value → H) :
    ReturnsInHanded {} Tryz.checked os 4 .any (Rows.vineTellsSpec.pre6 enc Tryz.prog Tryz.f4 Rows.vineTellsRow.domain false) (Rows.vineTellsSpec.post enc Tryz.prog Tryz.f4 false true false false) := by
  refine returnsInHanded_of_change_sized (C := Tryz.checked) own started (by kernel_rfl) Tryz.func4
    (ChangeSpec.witness6 (enc := enc) (C := Tryz.checked) false ⟨#[], #[.agg #[.slice none 0 0, .slice none 0 0, .bool false, .bool false, .int .i64 0, .slice none 0 0], .agg #[.slice none 0 0], .slice none 0 0], []⟩ 8 (by kernel_rfl) (by kernel_rfl) (by kernel_rfl) (by kernel_rfl)) ?_
  intro W base args ds gs before hval hW _ hsz _
  exact law_post (shs := [shpGm, shpVi, .slice 1 (.int .i64)]) laidOut (by kernel_rfl) (by kernel_rfl) rfl (by kernel_rfl) rfl
    (fun ds h => by
      have h2 : ds.length = 3 := h
      match ds, h2 with
      | [d1, d2, d3], _ => rfl) (fun ds h => call ds h) hval hW hsz
theorem over : Rows.vineTellsRow.holds Tryz.pinned (OpenSpec.ofChange Rows.vineTellsSpec) :=
  OpenClaim.holds_of_wide 4 Tryz.f4 rfl rfl rfl rfl rfl rfl rfl ⟨rfl, rfl, rfl, rfl, rfl⟩ rfl rfl rfl rfl rfl (by kernel_rfl) Tryz.func4 (by kernel_rfl)
    (of_decide_eq_true (by kernel_rfl)) (by unfold Func.isWrapper; first | (rw [if_pos (by decide +kernel)]; kernel_rfl) | (rw [if_neg (by decide +kernel)]; exact ⟨rfl, rfl⟩))
    (fun os started H enc _ => lifted os started H enc)
theorem proved : Rows.VineTellsSaid := over
#print axioms proved
end Go.Proofs.YtaljbebkooppiaaGreat.vineTells
