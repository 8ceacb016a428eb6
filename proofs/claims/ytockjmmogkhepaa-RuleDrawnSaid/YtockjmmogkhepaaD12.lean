/- The statement RuleDrawn holds: for every input the law returns true, and its arguments read as before. -/
import Derived.Test.YtockjmmogkhepaaD11
import Derived.Test.YtockjmmogkhepaaRows
namespace Go.Proofs.Ytockjmmogkhepaa.ruleDrawn
open Go.Proofs.Ytockjmmogkhepaa.Sh Go.RowKit

theorem own : ownKnob Try.prog.godebug = none := by kernel_rfl
theorem laidOut : laidOutB Try.prog = true := by kernel_rfl

set_option maxRecDepth 100000 in
theorem call {H : Type} (ds : List (DataW H)) (h : Shp.okAll [.slice 1 (.int .i64), .int .i64] ds) : CallsS Try.prog 3 (Shp.svAll [.slice 1 (.int .i64), .int .i64] ds) (B true) := by
  obtain ⟨d1, ds, rfl, h1, h⟩ := okAll_cons h
  obtain ⟨d2, ds, rfl, h2, h⟩ := okAll_cons h
  obtain rfl := okAll_nil h
  obtain ⟨l, e1, l1, w1⟩ := ints_of_ok h1
  obtain ⟨n, e2, w2⟩ := int_of_ok h2
  have hl : l.length ≤ 140737488355328 := by omega
  rw [svAll_cons, svAll_cons, svAll_nil, sv_slice, sv_int, e1, e2, List.headD_cons, List.headD_cons]
  exact ruleDrawn_s l n (fun x hx => wf_i64 (w1 x hx)) (wf_i64 w2) hl

set_option maxRecDepth 100000 in
theorem lifted (os : Os) (started : os.Started) (H : Type) (enc : TypeId × Value → H) :
    ReturnsInHanded {} Try.checked os 3 .any (Rows.ruleDrawnSpec.pre6 enc Try.prog Try.f3 Rows.ruleDrawnRow.domain false) (Rows.ruleDrawnSpec.post enc Try.prog Try.f3 false true false false) := by
  refine returnsInHanded_of_change_sized (C := Try.checked) own started (by kernel_rfl) Try.func3
    (ChangeSpec.witness6 (enc := enc) (C := Try.checked) false ⟨#[], #[.slice none 0 0, .int .i64 0], []⟩ 8 (by kernel_rfl) (by kernel_rfl) (by kernel_rfl) (by kernel_rfl)) ?_
  intro W base args ds gs before hval hW _ hsz _
  exact law_post (shs := [.slice 1 (.int .i64), .int .i64]) laidOut (by kernel_rfl) (by kernel_rfl) rfl (by kernel_rfl) rfl
    (fun ds h => by
      have h2 : ds.length = 2 := h
      match ds, h2 with
      | [d1, d2], _ => rfl) (fun ds h => call ds h) hval hW hsz

theorem over : Rows.ruleDrawnRow.holds Try.pinned (OpenSpec.ofChange Rows.ruleDrawnSpec) :=
  OpenClaim.holds_of_wide 3 Try.f3 rfl rfl rfl rfl rfl rfl rfl ⟨rfl, rfl, rfl, rfl, rfl⟩ rfl rfl rfl rfl rfl (by kernel_rfl) Try.func3 (by kernel_rfl)
    (of_decide_eq_true (by kernel_rfl)) (by unfold Func.isWrapper; first | (rw [if_pos (by decide +kernel)]; kernel_rfl) | (rw [if_neg (by decide +kernel)]; exact ⟨rfl, rfl⟩))
    (fun os started H enc _ => lifted os started H enc)
theorem proved : Rows.RuleDrawnSaid := over
#print axioms proved
end Go.Proofs.Ytockjmmogkhepaa.ruleDrawn
