/- A part of the proof: RowJ -/
import Derived.Test.YtaljbebkooppiaaGreatV24
set_option linter.unusedSimpArgs false
set_option linter.unusedVariables false
set_option linter.unusedSectionVars false
namespace Go.Proofs.YtaljbebkooppiaaGreat.Sh
open Go Go.RowKit
def shpVn : Shp := .agg (.cons 1 (.int .i64) (.cons 1 (.slice 1 (.int .i64)) (.cons 1 (.int .i64) (.cons 1 (.int .i64) (.cons 1 (.int .i64) (.cons 1 (.slice 3 shpFr) .nil))))))
def shpVi : Shp := .agg (.cons 1 (.slice 6 shpVn) .nil)
section
variable {H : Type}
theorem vn_of_ok {d : DataW H} (hd : shpVn.ok d) : ∃ x : Vn, shpVn.cells d = rowVn x ∧ x.ok := by
  obtain ⟨parts, rfl, d1, p1, rfl, ⟨h1, -⟩, d2, p2, rfl, ⟨h2, -⟩, d3, p3, rfl, ⟨h3, -⟩, d4, p4, rfl, ⟨h4, -⟩, d5, p5, rfl, ⟨h5, -⟩, d6, p6, rfl, ⟨h6, -⟩, rfl⟩ := hd
  obtain ⟨x1, e1, l1⟩ := i64_of_ok h1
  obtain ⟨o, e2, l2, m2⟩ := i64s_of_ok h2
  obtain ⟨x3, e3, l3⟩ := i64_of_ok h3
  obtain ⟨x4, e4, l4⟩ := i64_of_ok h4
  obtain ⟨x5, e5, l5⟩ := i64_of_ok h5
  obtain ⟨w, e6, l6, m6⟩ := frs_of_ok h6
  refine ⟨⟨x1, o, x3, x4, x5, w⟩, ?_, ⟨l1, ⟨Nat.le_trans l2 (by decide), m2⟩, l3, l4, l5, ⟨Nat.le_trans l6 (by decide), m6⟩⟩⟩
  show (Shp.int .i64).cells d1 ++ ((Shp.slice 1 (.int .i64)).cells d2 ++ ((Shp.int .i64).cells d3 ++ ((Shp.int .i64).cells d4 ++ ((Shp.int .i64).cells d5 ++ ((Shp.slice 3 shpFr).cells d6 ++ []))))) = _
  rw [e1, e2, e3, e4, e5, e6]; rfl
theorem vi_of_ok {d : DataW H} (hd : shpVi.ok d) : ∃ l : List Vn, shpVi.cells d = [vnsS l] ∧ l.length ≤ 140737488355328 ∧ ∀ x ∈ l, x.ok := by
  obtain ⟨parts, rfl, d1, p1, rfl, ⟨h1, -⟩, rfl⟩ := hd
  obtain ⟨l, e1, l1, m1⟩ := slice_of_ok (f := rowVn) (fun _ h => vn_of_ok h) h1
  refine ⟨l, ?_, Nat.le_trans l1 (by decide), m1⟩
  show (Shp.slice 6 shpVn).cells d1 ++ [] = _
  rw [e1]; rfl
theorem kd_of_okB {d : DataW H} (hd : shpKd.ok d) : ∃ k : Kd, shpKd.cells d = rowKd k ∧ k.ok ∧ k.worth.length * 49 ≤ 140737488351232 := by
  obtain ⟨parts, rfl, d1, p1, rfl, ⟨h1, -⟩, d2, p2, rfl, ⟨h2, -⟩, d3, p3, rfl, ⟨h3, -⟩, d4, p4, rfl, ⟨h4, -⟩, rfl⟩ := hd
  obtain ⟨s, e1, l1⟩ := str_of_ok h1
  obtain ⟨f, e2, l2⟩ := fr_of_ok h2
  obtain ⟨f3, e3, l3⟩ := fr_of_ok h3
  obtain ⟨w, e4, l4, b4, l5⟩ := slice_of_okB (f := rowFr) (fun _ h => fr_of_ok h) h4
  refine ⟨⟨s, f, f3, w⟩, ?_, ⟨Nat.le_trans l1 (by decide), l2, l3, Nat.le_trans l4 (by decide), l5⟩, b4⟩
  show Shp.str.cells d1 ++ (shpFr.cells d2 ++ (shpFr.cells d3 ++ ((Shp.slice 3 shpFr).cells d4 ++ []))) = _
  rw [e1, e2, e3, e4]; rfl
theorem ag_of_okB {d : DataW H} (hd : shpAg.ok d) : ∃ a : Ag, shpAg.cells d = rowAg a ∧ a.ok ∧ ∀ k ∈ a.kinds, k.worth.length * 49 ≤ 140737488351232 := by
  obtain ⟨parts, rfl, d1, p1, rfl, ⟨h1, -⟩, d2, p2, rfl, ⟨h2, -⟩, rfl⟩ := hd
  obtain ⟨s, e1, l1⟩ := str_of_ok h1
  obtain ⟨ks, e2, l2, l3⟩ := slice_of_ok (f := rowKd) (fun _ h => kd_of_okB h) h2
  refine ⟨⟨s, ks⟩, ?_, ⟨Nat.le_trans l1 (by decide), Nat.le_trans l2 (by decide), fun k hk => (l3 k hk).1⟩, fun k hk => (l3 k hk).2⟩
  show Shp.str.cells d1 ++ ((Shp.slice 8 shpKd).cells d2 ++ []) = _
  rw [e1, e2]; rfl
theorem i64s_of_okB {d : DataW H} (hd : (Shp.slice 1 (.int .i64)).ok d) : ∃ l : List Int, (Shp.slice 1 (.int .i64)).cells d = [intsS l] ∧ l.length ≤ 140737488351232 ∧ l.length * 8 ≤ 140737488351232 ∧ InI l := by
  obtain ⟨l, h1, h2, h3, h4⟩ := slice_of_okB (f := fun x => [S1.int .i64 x]) (fun _ h => int_of_ok h) hd
  exact ⟨l, h1, h2, h3, fun x hx => wf_i64 (h4 x hx)⟩
theorem nd_of_okB {d : DataW H} (hd : shpNd.ok d) : ∃ n : Nd, shpNd.cells d = rowNd n ∧ n.ok ∧ n.outs.length * 8 ≤ 140737488351232 ∧ n.swap.length * 8 ≤ 140737488351232 := by
  obtain ⟨parts, rfl, d1, p1, rfl, ⟨h1, -⟩, d2, p2, rfl, ⟨h2, -⟩, d3, p3, rfl, ⟨h3, -⟩, d4, p4, rfl, ⟨h4, -⟩, d5, p5, rfl, ⟨h5, -⟩, d6, p6, rfl, ⟨h6, -⟩, rfl⟩ := hd
  obtain ⟨x1, e1, l1⟩ := i64_of_ok h1
  obtain ⟨x2, e2, l2⟩ := i64_of_ok h2
  obtain ⟨x3, e3, l3⟩ := i64_of_ok h3
  obtain ⟨f, e4, l4⟩ := fr_of_ok h4
  obtain ⟨o, e5, l5, b5, m5⟩ := i64s_of_okB h5
  obtain ⟨s, e6, l6, b6, m6⟩ := i64s_of_okB h6
  refine ⟨⟨x1, x2, x3, f, o, s⟩, ?_, ⟨l1, l2, l3, l4, Nat.le_trans l5 (by decide), Nat.le_trans l6 (by decide), m5, m6⟩, b5, b6⟩
  show (Shp.int .i64).cells d1 ++ ((Shp.int .i64).cells d2 ++ ((Shp.int .i64).cells d3 ++ (shpFr.cells d4 ++ ((Shp.slice 1 (.int .i64)).cells d5 ++ ((Shp.slice 1 (.int .i64)).cells d6 ++ []))))) = _
  rw [e1, e2, e3, e4, e5, e6]; rfl
theorem gm_of_okB {d : DataW H} (hd : shpGm.ok d) : ∃ g : Gm, shpGm.cells d = rowGm g ∧ g.ok ∧ g.fit := by
  obtain ⟨parts, rfl, d1, p1, rfl, ⟨h1, -⟩, d2, p2, rfl, ⟨h2, -⟩, d3, p3, rfl, ⟨h3, -⟩, d4, p4, rfl, ⟨h4, -⟩, d5, p5, rfl, ⟨h5, -⟩, d6, p6, rfl, ⟨h6, -⟩, rfl⟩ := hd
  obtain ⟨ags, e1, l1, m1⟩ := slice_of_ok (f := rowAg) (fun _ h => ag_of_okB h) h1
  obtain ⟨os, e2, l2, m2⟩ := strs_of_ok h2
  obtain ⟨p, e3⟩ := bool_of_ok h3
  obtain ⟨l, e4⟩ := bool_of_ok h4
  obtain ⟨x, e5, m5⟩ := i64_of_ok h5
  obtain ⟨ns, e6, l6, m6⟩ := slice_of_ok (f := rowNd) (fun _ h => nd_of_okB h) h6
  refine ⟨⟨ags, os, p, l, x, ns⟩, ?_, ⟨Nat.le_trans l1 (by decide), Nat.le_trans l2 (by decide), Nat.le_trans l6 (by decide), fun a ha => (m1 a ha).1, fun s hs => Nat.le_trans (m2 s hs) (by decide), fun n hn => (m6 n hn).1, m5⟩, fun a ha => (m1 a ha).2, fun n hn => (m6 n hn).2⟩
  show (Shp.slice 2 shpAg).cells d1 ++ ((Shp.slice 1 .str).cells d2 ++ (Shp.bool.cells d3 ++ (Shp.bool.cells d4 ++ ((Shp.int .i64).cells d5 ++ ((Shp.slice 8 shpNd).cells d6 ++ []))))) = _
  rw [e1, e2, e3, e4, e5, e6]; rfl
end
end Go.Proofs.YtaljbebkooppiaaGreat.Sh

