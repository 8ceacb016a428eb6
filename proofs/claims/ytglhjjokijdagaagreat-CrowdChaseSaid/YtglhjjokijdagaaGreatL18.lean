/- A part of the proof: R42, RowI, R43, R44, R45, R46, R47, R48, R49, R50, R53 -/
import Derived.Test.YtglhjjokijdagaaGreatL17
set_option linter.unusedSimpArgs false
set_option linter.unusedVariables false
set_option linter.unusedSectionVars false
/- speech: Profiles. -/
namespace Go.Proofs.YtglhjjokijdagaaGreat.Sh
open Go Go.RowKit

@[simp] def rowProf (p : List Int) : List S1 := [intsS p]
instance : RowF 1 rowProf := ⟨fun _ => rfl, fun x s h => by simp at h; subst h; rfl⟩
@[simp] def profsS (l : List (List Int)) : S1 := .sl true 1 (l.map rowProf)

theorem flat_prof (p : List (List Int)) : flat rowProf p = p.map intsS := by
  induction p with
  | nil => rfl
  | cons x p ih =>
    show rowProf x ++ flat rowProf p = _
    rw [ih]; rfl
theorem flat_prof_len (p : List (List Int)) : (flat rowProf p).length = p.length := by rw [flat_prof, List.length_map]
@[simp] theorem flat_prof_get (p : List (List Int)) (j : Nat) (h : j < (flat rowProf p).length) : (flat rowProf p)[j] = intsS (p[j]'(by rw [flat_prof_len] at h; exact h)) := by
  simp only [flat_prof, List.getElem_map]

theorem profR_mem : ∀ (r : List Nat) (p : List Int), p ∈ profR r → p.length = r.length
  | [], p, h => by
    simp [profR] at h; subst h; rfl
  | n :: r, p, h => by
    rw [profR, List.mem_flatMap] at h
    obtain ⟨q, hq, h⟩ := h
    obtain ⟨k, -, rfl⟩ := List.mem_map.1 h
    rw [List.length_append, profR_mem r q hq]; rfl

theorem flat_prof1 (p : List Int) : flat rowProf [p] = [intsS p] := rfl
theorem rows_snoc (p : List Int) (k : Int) : rowsOf (flat rowInt p ++ [S1.int .i64 k]) 0 1 (p.length + 1) = (p.map fun x => [S1.int .i64 x]) ++ [[S1.int .i64 k]] := by
  have h := rowsOf_flat (f := rowInt) (p ++ [k]) (p.length + 1) (by simp)
  rw [flat_snoc] at h
  rw [show [S1.int .i64 k] = rowInt k from rfl, h, List.map_append]; rfl

def extP (n : Nat) (p : List Int) : List (List Int) := (List.range n).map fun (k : Nat) => p ++ [(k : Int)]
/-- The profiles that a round has made so far. -/
def rowsTo (out : List (List Int)) (n j k : Nat) : List (List Int) := (out.take j).flatMap (extP n) ++ (extP n ((out[j]?).getD [])).take k

theorem extP_length (n : Nat) (p : List Int) : (extP n p).length = n := by simp [extP]
theorem rowsTo_zero (out : List (List Int)) (n : Nat) : rowsTo out n 0 0 = [] := by simp [rowsTo]
theorem rowsTo_step {out : List (List Int)} {n j k : Nat} (hj : j < out.length) (hk : k < n) : rowsTo out n j (k + 1) = rowsTo out n j k ++ [out[j] ++ [(k : Int)]] := by
  unfold rowsTo
  rw [List.getElem?_eq_getElem hj, Option.getD_some, List.append_assoc, List.take_add_one]
  simp [extP, hk]
theorem rowsTo_row {out : List (List Int)} {n j : Nat} (hj : j < out.length) : rowsTo out n j n = rowsTo out n (j + 1) 0 := by
  unfold rowsTo
  rw [List.getElem?_eq_getElem hj, Option.getD_some, List.take_of_length_le (l := extP n out[j]) (by rw [extP_length]; exact Nat.le_refl _), List.take_zero, List.append_nil, takeSnoc out j hj, List.flatMap_append]
  simp
theorem rowsTo_all {out : List (List Int)} {n : Nat} : rowsTo out n out.length 0 = out.flatMap (extP n) := by
  unfold rowsTo; simp
theorem rowsTo_snd {out : List (List Int)} {n j k : Nat} (hj : j < out.length) : rowsTo out n j k = (out.take j).flatMap (extP n) ++ (extP n out[j]).take k := by
  unfold rowsTo; rw [List.getElem?_eq_getElem hj]; rfl
theorem rowsTo_len {out : List (List Int)} {n j k : Nat} (hj : j ≤ out.length) (hk : k ≤ n) : (rowsTo out n j k).length = j * n + k := by
  unfold rowsTo
  rw [List.length_append, List.length_flatMap]
  have : (List.map (fun p => (extP n p).length) (out.take j)) = List.replicate j n := by
    rw [List.eq_replicate_iff]
    exact ⟨by simp; omega, fun b hb => by obtain ⟨p, -, rfl⟩ := List.mem_map.1 hb; exact extP_length n p⟩
  rw [this, List.sum_replicate_nat, List.length_take, extP_length, Nat.min_eq_left hk]

set_option maxRecDepth 20000 in
set_option maxHeartbeats 1000000 in
theorem profiles_s (g : Gm) (h : Fine g) : CallsS Tryz.prog 88 [gmS g] (.v (.one (profsS (profs g)))) := by
  obtain ⟨h1, -, -, h4, h5⟩ := sizeOk_all h.sz
  have hsl : (sizesL g).length = g.agents.length := by simp [sizesL]
  refine calls Tryz.func88 rfl (by rfl) (by rfl) (by kernel_rfl) ?_
  simp -dsimp -implicitDefEqProofs [Tryz.f88]
  refine eCall.of (sright_s g h.ok h.bey 0 h.isRight) (by simp) ?_
  simp -dsimp -implicitDefEqProofs [slots]
  refine eCall.of (sizes_s g (by omega)) (by simp) ?_
  simp -dsimp -implicitDefEqProofs [hsl]
  refine sw_loop_e (fun p : {p : Nat × Nat × Nat // p.1 ≤ g.agents.length ∧ p.2.2 < p.2.1 + 2 ∧ 0 < p.2.2} => SS.of [(1, .v (.one (.mp 0 0))), (3, .v (.one (.ms p.1.2.2 0 (profR ((szs g).take p.1.1).reverse).length 1 true))), (15, .v (.one (intsS (sizesL g)))), (16, I .i64 g.agents.length), (17, I .i64 p.1.1)] [(0, ⟨26, rowGm g⟩), (p.1.2.2, ⟨33, flat rowProf (profR ((szs g).take p.1.1).reverse)⟩)] (p.1.2.1 + 2))
    (fun p => g.agents.length - p.1.1) ⟨(0, 0, 1), Nat.zero_le _, by decide, by decide⟩ (by kernel_rfl) (Le.to (by simp [profR]) (by simp [profR, flat]) (by simp)) ?_
  rintro ⟨⟨i, c, o⟩, hi, hoc, hoc'⟩
  simp only at hi hoc hoc'
  have o0 : ¬ o = 0 := by omega
  have o0' : ¬ 0 = o := by omega
  by_cases a1 : i < g.agents.length
  · have wi : IntKind.i64.wrap ((i : Int) + 1) = ((i + 1 : Nat) : Int) := by rw [wrap_i64 _ (by omega) (by omega)]; rfl
    have a2 : i < (sizesL g).length := by omega
    have hsi : (sizesL g)[i] = (g.agents[i].kinds.length : Int) := by simp [sizesL]
    have hn4 := h4 _ (List.getElem_mem a1)
    have hn0 := h.kinds_pos _ (List.getElem_mem a1)
    have hpl := h.prod_le i hi
    rw [prodR_take] at hpl
    have hrev : ((szs g).take (i + 1)).reverse = g.agents[i].kinds.length :: ((szs g).take i).reverse := by
      rw [takeSnoc (szs g) i (by simp [szs]; omega), List.reverse_append]; simp [szs]
    rw [← profR_length] at hpl
    have hnx : profR ((szs g).take (i + 1)).reverse = (profR ((szs g).take i).reverse).flatMap (extP g.agents[i].kinds.length) := by rw [hrev]; rfl
    have hpos : 0 < (profR ((szs g).take i).reverse).length := by
      rw [profR_length, ← prodR_take]
      exact prod_pos (fun a ha => (h.right.all a ha).1) i hi
    have hol : ∀ p ∈ profR ((szs g).take i).reverse, p.length ≤ 4 := fun p hp => by
      rw [profR_mem _ p hp]; simp [szs]; omega
    generalize profR ((szs g).take i).reverse = out at *
    generalize hnn : g.agents[i].kinds.length = n at *
    simp -dsimp -implicitDefEqProofs [a1, a2, hsi, wi]
    refine sw_loop_e (fun p : {p : Nat × Nat × Nat // p.1 ≤ out.length ∧ o < p.2.1 ∧ p.2.2 < p.2.1 ∧ (rowsTo out n p.1 0 ≠ [] → o < p.2.2)} => SS.of [(1, .v (.one (.mp 0 0))), (5, I .i64 n), (6, if rowsTo out n p.1.1 0 = [] then .v (.one .nils) else .v (.one (.ms p.1.2.2 0 (rowsTo out n p.1.1 0).length 1 true))), (15, .v (.one (intsS (sizesL g)))), (16, I .i64 g.agents.length), (17, I .i64 i), (21, .v (.one (.ms o 0 out.length 1 true))), (22, I .i64 out.length), (23, I .i64 p.1.1)] ((0, ⟨26, rowGm g⟩) :: (o, ⟨33, flat rowProf out⟩) :: if rowsTo out n p.1.1 0 = [] then [] else [(p.1.2.2, ⟨33, flat rowProf (rowsTo out n p.1.1 0)⟩)]) p.1.2.1)
      (fun p => out.length - p.1.1) ⟨(0, c + 2, 0), Nat.zero_le _, by simp only; omega, by simp, fun h => absurd (rowsTo_zero out n) h⟩ (by kernel_rfl) (Le.to (by simp [rowsTo_zero]) (by simp [o0, o0', rowsTo_zero]) (by simp)) ?_
    rintro ⟨⟨j, d, q⟩, hj, hd, hq, hq'⟩
    simp only at hj hd hq hq'
    by_cases a3 : j < out.length
    · have wj : IntKind.i64.wrap ((j : Int) + 1) = ((j + 1 : Nat) : Int) := by rw [wrap_i64 _ (by omega) (by omega)]; rfl
      simp -dsimp -implicitDefEqProofs [a3, wj, o0, o0']
      refine sw_loop_e (fun p : {p : Nat × Nat × Nat // p.1 ≤ n ∧ o < p.2.1 ∧ p.2.2 < p.2.1 ∧ (rowsTo out n j p.1 ≠ [] → o < p.2.2)} => SS.of [(1, .v (.one (.mp 0 0))), (5, I .i64 n), (6, if rowsTo out n j p.1.1 = [] then .v (.one .nils) else .v (.one (.ms p.1.2.2 0 (rowsTo out n j p.1.1).length 1 true))), (8, .v (.one (intsS out[j]))), (15, .v (.one (intsS (sizesL g)))), (16, I .i64 g.agents.length), (17, I .i64 i), (21, .v (.one (.ms o 0 out.length 1 true))), (22, I .i64 out.length), (23, I .i64 j), (27, I .i64 n), (28, I .i64 p.1.1)] ((0, ⟨26, rowGm g⟩) :: (o, ⟨33, flat rowProf out⟩) :: if rowsTo out n j p.1.1 = [] then [] else [(p.1.2.2, ⟨33, flat rowProf (rowsTo out n j p.1.1)⟩)]) p.1.2.1)
        (fun p => n - p.1.1) ⟨(0, d, q), Nat.zero_le _, hd, hq, hq'⟩ (by kernel_rfl) (by
          by_cases z : rowsTo out n j 0 = []
          · exact Le.to (by simp [z]) (by simp [z, o0, o0']) (by simp)
          · have := hq' z
            exact Le.to (by simp [z]) (by simp [z, o0, o0', show ¬ q = 0 by omega, show ¬ 0 = q by omega, show ¬ q = o by omega, show ¬ o = q by omega]) (by simp)) ?_
      rintro ⟨⟨k, m, r⟩, hk, hm, hr, hr'⟩
      simp only at hk hm hr hr'
      have x1 : ¬ m = 0 := by omega
      have x1' : ¬ 0 = m := by omega
      have x2 : ¬ m = o := by omega
      have x2' : ¬ o = m := by omega
      have x3 : ¬ o = m + 1 := by omega
      have x4 : ¬ o = m + 1 + 1 := by omega
      have x5 : ¬ o = m + 1 + 1 + 1 := by omega
      have x6 : ¬ o = m + 1 + 1 + 1 + 1 := by omega
      have x7 : ¬ o = m + 1 + 1 + 1 + 1 + 1 := by omega
      by_cases a4 : k < n
      · have wk : IntKind.i64.wrap ((k : Int) + 1) = ((k + 1 : Nat) : Int) := by rw [wrap_i64 _ (by omega) (by omega)]; rfl
        have hst := rowsTo_step a3 a4
        have hfl := flat_snoc (f := rowProf) (out[j] ++ [(k : Int)]) (rowsTo out n j k)
        rw [← hst] at hfl
        have hoj := hol _ (List.getElem_mem a3)
        by_cases z : rowsTo out n j k = []
        · rw [z, flat_nil, List.nil_append] at hfl
          rw [z, List.nil_append] at hst
          simp -dsimp -implicitDefEqProofs [a4, wk, z, slots, flat_ints, o0, o0', x1, x1', x2, x2', x3, x4, x5, x6, x7]
          refine ⟨known_int _, ⟨by omega, by omega⟩, ⟨by omega, by omega⟩, ?_⟩
          exact Again.by ⟨(k + 1, m + 6, m + 5), a4, by simp only; omega, by simp only; omega, fun _ => by simp only; omega⟩ (Le.to (by simp [wk, hst, o0, o0', x1, x1', x2, x2', x3, x4, x5, x6, x7]) (by simp [hst, flat_prof1, rows_snoc, o0, o0', x1, x1', x2, x2', x3, x4, x5, x6, x7]) (by simp)) (by simp; omega)
        · have y := hr' z
          have y1 : ¬ r = 0 := by omega
          have y1' : ¬ 0 = r := by omega
          have y2 : ¬ r = o := by omega
          have y2' : ¬ o = r := by omega
          have y3 : ¬ r = m := by omega
          have y4 : ¬ r = m + 1 := by omega
          have y5 : ¬ r = m + 1 + 1 := by omega
          have y6 : ¬ r = m + 1 + 1 + 1 := by omega
          have y7 : ¬ r = m + 1 + 1 + 1 + 1 := by omega
          have y8 : ¬ r = m + 1 + 1 + 1 + 1 + 1 := by omega
          have hlen := rowsTo_len (out := out) (n := n) (j := j) (k := k) hj hk
          have hjn : j * n ≤ 256 * 4 := Nat.mul_le_mul (by omega) hn4
          simp -dsimp -implicitDefEqProofs [a4, wk, z, slots, flat_ints, o0, o0', x1, x1', x2, x2', x3, x4, x5, x6, x7, y1, y1', y2, y2', y3, y4, y5, y6, y7, y8]
          refine ⟨known_int _, ⟨by omega, by omega⟩, ⟨by omega, by omega⟩, ⟨by omega, by omega⟩, ?_⟩
          have z' : ¬ rowsTo out n j (k + 1) = [] := by rw [hst]; simp
          have hl1 : (rowsTo out n j (k + 1)).length = (rowsTo out n j k).length + 1 := by rw [hst]; simp
          exact Again.by ⟨(k + 1, m + 6, m + 5), a4, by simp only; omega, by simp only; omega, fun _ => by simp only; omega⟩ (Le.to (by simp [wk, z', hl1, o0, o0', x1, x1', x2, x2', x3, x4, x5, x6, x7, y1, y1', y2, y2', y3, y4, y5, y6, y7, y8]) (by simp [z', hfl, rows_snoc, o0, o0', x1, x1', x2, x2', x3, x4, x5, x6, x7, y1, y1', y2, y2', y3, y4, y5, y6, y7, y8]) (by simp)) (by simp; omega)
      have hk2 : k = n := by omega
      subst hk2
      have hrow := rowsTo_row (n := k) a3
      by_cases z : rowsTo out k j k = []
      · have z' : rowsTo out k (j + 1) 0 = [] := by rw [← hrow, z]
        simp -dsimp -implicitDefEqProofs [z]
        exact Again.by ⟨(j + 1, m, r), a3, hm, hr, fun h => absurd z' h⟩ (Le.to (by simp [wj, z']) (by simp [z', o0, o0']) (by simp)) (by simp; omega)
      · have y := hr' z
        have z' : ¬ rowsTo out k (j + 1) 0 = [] := by rw [← hrow]; exact z
        have y1 : ¬ r = 0 := by omega
        have y1' : ¬ 0 = r := by omega
        have y2 : ¬ r = o := by omega
        have y2' : ¬ o = r := by omega
        simp -dsimp -implicitDefEqProofs [z, y1, y1', y2, y2', hrow]
        exact Again.by ⟨(j + 1, m, r), a3, hm, hr, fun _ => y⟩ (Le.to (by simp [wj, z', hrow]) (by simp [z', hrow, o0, o0', y1, y1', y2, y2']) (by simp)) (by simp; omega)
    have hj2 : j = out.length := by omega
    subst hj2
    rw [rowsTo_all, ← hnx] at hq'
    have z : ¬ profR ((szs g).take (i + 1)).reverse = [] := by
      have := prod_pos (l := g.agents) (fun a ha => (h.right.all a ha).1) (i + 1) a1
      rw [prodR_take, ← profR_length] at this
      intro e; rw [e] at this; exact absurd this (by decide)
    have y := hq' z
    have y1 : ¬ q = 0 := by omega
    have y1' : ¬ 0 = q := by omega
    have y2 : ¬ q = o := by omega
    have y2' : ¬ o = q := by omega
    simp -dsimp -implicitDefEqProofs [rowsTo_all, ← hnx, z, y1, y1', y2, y2', o0, o0']
    exact Again.by ⟨(i + 1, d, q), a1, by simp only; omega, by simp only; omega⟩ (Le.to (by simp [wi]) (by simp [y1, y1', y2, y2', o0, o0']) (by simp)) (by simp; omega)
  have hi2 : i = g.agents.length := by omega
  subst hi2
  simp -dsimp -implicitDefEqProofs [o0, o0']
  rw [profs, List.take_of_length_le (by simp [szs])]
end Go.Proofs.YtglhjjokijdagaaGreat.Sh

/- Data of logs of a crowd. -/
namespace Go.Proofs.YtglhjjokijdagaaGreat.Sh
open Go Go.RowKit

def shpLog14 : Shp := .agg (.cons 1 (.slice 1 (.slice 1 (.int .i64))) (.cons 1 (.slice 1 (.slice 1 (.int .i64))) (.cons 1 (.int .i64) .nil)))
def shpTried : Shp := .agg (.cons 3 shpLog14 (.cons 1 (.slice 1 (.int .i64)) .nil))
def shpBegin : Shp := .agg (.cons 1 (.slice 1 (.int .i64)) (.cons 1 (.slice 1 (.int .i64)) .nil))
/-- Lists that are handed in. -/
def ProfsIn (l : List (List Int)) : Prop := l.length ≤ 140737488355328 ∧ ∀ p ∈ l, p.length ≤ 140737488355328 ∧ InI p

section
variable {H : Type}
theorem profs_of_ok {d : DataW H} (hd : (Shp.slice 1 (.slice 1 (.int .i64))).ok d) : ∃ l : List (List Int), (Shp.slice 1 (.slice 1 (.int .i64))).cells d = [profsS l] ∧ ProfsIn l := by
  obtain ⟨l, h1, h2, h3⟩ := slice_of_ok (f := rowProf) (fun _ h => i64s_of_ok h) hd
  exact ⟨l, h1, Nat.le_trans h2 (by decide), fun p hp => ⟨Nat.le_trans (h3 p hp).1 (by decide), (h3 p hp).2⟩⟩
theorem log14_of_ok {d : DataW H} (hd : shpLog14.ok d) : ∃ (T S : List (List Int)) (a : Int), shpLog14.cells d = [profsS T, profsS S, .int .i64 a] ∧ ProfsIn T ∧ ProfsIn S ∧ In64 a := by
  obtain ⟨parts, rfl, d1, p1, rfl, ⟨h1, -⟩, d2, p2, rfl, ⟨h2, -⟩, d3, p3, rfl, ⟨h3, -⟩, rfl⟩ := hd
  obtain ⟨T, e1, l1⟩ := profs_of_ok h1
  obtain ⟨S, e2, l2⟩ := profs_of_ok h2
  obtain ⟨a, e3, l3⟩ := i64_of_ok h3
  refine ⟨T, S, a, ?_, l1, l2, l3⟩
  show (Shp.slice 1 (.slice 1 (.int .i64))).cells d1 ++ ((Shp.slice 1 (.slice 1 (.int .i64))).cells d2 ++ ((Shp.int .i64).cells d3 ++ [])) = _
  rw [e1, e2, e3]; rfl
theorem tried_of_ok {d : DataW H} (hd : shpTried.ok d) : ∃ (T S : List (List Int)) (a : Int) (tb : List Int), shpTried.cells d = [profsS T, profsS S, .int .i64 a, intsS tb] ∧ ProfsIn T ∧ ProfsIn S ∧ In64 a ∧ tb.length ≤ 140737488355328 := by
  obtain ⟨parts, rfl, d1, p1, rfl, ⟨h1, -⟩, d2, p2, rfl, ⟨h2, -⟩, rfl⟩ := hd
  obtain ⟨T, S, a, e1, l1, l2, l3⟩ := log14_of_ok h1
  obtain ⟨tb, e2, l4, -⟩ := i64s_of_ok h2
  refine ⟨T, S, a, tb, ?_, l1, l2, l3, Nat.le_trans l4 (by decide)⟩
  show shpLog14.cells d1 ++ ((Shp.slice 1 (.int .i64)).cells d2 ++ []) = _
  rw [e1, e2]; rfl
theorem begin_of_ok {d : DataW H} (hd : shpBegin.ok d) : ∃ (t s : List Int), shpBegin.cells d = [intsS t, intsS s] ∧ t.length ≤ 140737488355328 ∧ s.length ≤ 140737488355328 ∧ InI t ∧ InI s := by
  obtain ⟨parts, rfl, d1, p1, rfl, ⟨h1, -⟩, d2, p2, rfl, ⟨h2, -⟩, rfl⟩ := hd
  obtain ⟨t, e1, l1, m1⟩ := i64s_of_ok h1
  obtain ⟨s, e2, l2, m2⟩ := i64s_of_ok h2
  refine ⟨t, s, ?_, Nat.le_trans l1 (by decide), Nat.le_trans l2 (by decide), m1, m2⟩
  show (Shp.slice 1 (.int .i64)).cells d1 ++ ((Shp.slice 1 (.int .i64)).cells d2 ++ []) = _
  rw [e1, e2]; rfl
end
end Go.Proofs.YtglhjjokijdagaaGreat.Sh

/- Cells that fit a game. -/
namespace Go.Proofs.YtglhjjokijdagaaGreat.Sh
open Go Go.RowKit

def LotOk (l : List FR) : Prop := (∀ f ∈ l, 0 ≤ f.fix) ∧ sumQ (l.map FR.fix) = 1
def OneIn (l : List FR) : Prop := ∃ f ∈ l, f.fix = 1

set_option maxRecDepth 20000 in
theorem chancesG_s (l : List FR) (B' : Nat) (hs : Small l B') : ∀ b, (b = true ↔ LotOk l) → CallsS Tryz.prog 152 [.one (frsS l)] (B b) := by
  intro b hb
  have h1 := hs.len
  have hsz := mz_take hs.mz (by have := hs.all; simpa using this)
  have hl := hs.ok
  have i0 := intR_s 0 (by decide) (by decide)
  have i1 := intR_s 1 (by decide) (by decide)
  obtain ⟨o1, o2, o3⟩ := fix_one
  refine calls Tryz.func152 rfl (by rfl) (by rfl) (by kernel_rfl) ?_
  simp -dsimp -implicitDefEqProofs [Tryz.f152]
  refine eCall.of i0 (by simp) ?_
  simp -dsimp -implicitDefEqProofs
  refine sw_loop_e (fun p : {p : Nat // p ≤ l.length ∧ ∀ f ∈ l.take p, 0 ≤ f.fix} => SS.of [(0, .v (.one (frsS l))), (3, .v (.one (.mp 0 0))), (4, I .i64 p.1)] [(0, ⟨40, rowFr (frQ (sumQ ((l.map FR.fix).take p.1)))⟩)] 1)
    (fun p => l.length - p.1) ⟨0, Nat.zero_le _, by simp⟩ (by kernel_rfl) (Le.to (by simp) (by simp [sumQ, frQ, ng]) (by simp)) ?_
  rintro ⟨i, hi, hp⟩
  by_cases a1 : i < l.length
  · have wi : IntKind.i64.wrap ((i : Int) + 1) = ((i + 1 : Nat) : Int) := by rw [wrap_i64 _ (by omega) (by omega)]; rfl
    have hok : l[i].ok := hl _ (List.getElem_mem a1)
    have ht := sumQ_take (l.map FR.fix) i (by simpa using a1)
    rw [List.getElem_map] at ht
    have z0 := hsz i
    have z1 := hsz (i + 1)
    have ha := addR_s (frQ (sumQ ((l.map FR.fix).take i))) l[i] (frQ_ok (by omega)) hok
    rw [fix_frQ z0, ← ht, cap_of z1] at ha
    simp -dsimp -implicitDefEqProofs [a1, wi]
    refine eCall.of (signR_s l[i] hok) (by simp) ?_
    by_cases c1 : l[i].fix < 0
    · have hb' := nf hb (fun h => absurd (h.1 _ (List.getElem_mem a1)) (Rat.not_le.2 c1))
      simp -dsimp -implicitDefEqProofs [sgnQ_neg.2 c1, hb']
    have hs : ¬ sgnQ l[i].fix < 0 := mt sgnQ_neg.1 c1
    simp -dsimp -implicitDefEqProofs [hs, a1]
    refine eCall.of ha (by simp [frQ, ng]) ?_
    simp -dsimp -implicitDefEqProofs
    exact Again.by ⟨i + 1, a1, all_take a1 hp (Rat.not_lt.1 c1)⟩ (Le.to (by simp [wi]) (by simp [frQ, ng]) (by simp)) (by simp; omega)
  · have hi2 : i = l.length := by omega
    subst hi2
    rw [List.take_length] at hp
    have e : (l.map FR.fix).take l.length = l.map FR.fix := List.take_of_length_le (by simp)
    have zS := hsz l.length
    rw [e] at zS
    have hb2 : b = decide (sumQ (l.map FR.fix) = 1) := by
      rw [Bool.eq_iff_iff, hb, decide_eq_true_iff]; exact ⟨fun h => h.2, fun h => ⟨hp, h⟩⟩
    have hsm := sameR_s (frQ (sumQ (l.map FR.fix))) (frQ 1) (frQ_ok (by omega)) o2
    rw [o1, fix_frQ zS, ← hb2, frS_frQ] at hsm
    simp -dsimp -implicitDefEqProofs [e]
    refine eCall.of i1 (by simp) ?_
    simp -dsimp -implicitDefEqProofs
    refine eCall.of hsm (by simp [frQ, ng]) ?_
    simp -dsimp -implicitDefEqProofs

set_option maxRecDepth 20000 in
theorem one_s (l : List FR) (hl : ∀ f ∈ l, f.ok) (h1 : l.length ≤ 1048576) : ∀ b, (b = true ↔ OneIn l) → CallsS Tryz.prog 153 [.one (frsS l)] (B b) := by
  intro b hb
  have i1 := intR_s 1 (by decide) (by decide)
  obtain ⟨o1, o2, o3⟩ := fix_one
  refine calls Tryz.func153 rfl (by rfl) (by rfl) (by kernel_rfl) ?_
  simp -dsimp -implicitDefEqProofs [Tryz.f153]
  refine sw_loop_e (fun p : {p : Nat // p ≤ l.length ∧ ∀ f ∈ l.take p, ¬ f.fix = 1} => SS.of [(0, .v (.one (frsS l))), (3, I .i64 p.1)] [] 0)
    (fun p => l.length - p.1) ⟨0, Nat.zero_le _, by simp⟩ (by kernel_rfl) (Le.to (by simp) (by simp) (by simp)) ?_
  rintro ⟨i, hi, hp⟩
  by_cases a1 : i < l.length
  · have wi : IntKind.i64.wrap ((i : Int) + 1) = ((i + 1 : Nat) : Int) := by rw [wrap_i64 _ (by omega) (by omega)]; rfl
    have hok : l[i].ok := hl _ (List.getElem_mem a1)
    have hsm := sameR_s l[i] (frQ 1) hok o2
    rw [o1, frS_frQ] at hsm
    simp -dsimp -implicitDefEqProofs [a1, wi]
    refine eCall.of i1 (by simp) ?_
    simp -dsimp -implicitDefEqProofs
    by_cases c1 : l[i].fix = 1
    · have hb' : b = true := hb.2 ⟨_, List.getElem_mem a1, c1⟩
      rw [decide_eq_true c1] at hsm
      refine eCall.of hsm (by simp [frQ, ng]) ?_
      simp -dsimp -implicitDefEqProofs [hb']
    · rw [decide_eq_false c1] at hsm
      refine eCall.of hsm (by simp [frQ, ng]) ?_
      simp -dsimp -implicitDefEqProofs
      exact Again.by ⟨i + 1, a1, all_take a1 hp c1⟩ (Le.to (by simp [wi]) (by simp) (by simp)) (by simp; omega)
  have hi2 : i = l.length := by omega
  subst hi2
  rw [List.take_length] at hp
  have hb' := nf hb (fun ⟨f, hf, h⟩ => hp f hf h)
  simp -dsimp -implicitDefEqProofs [hb']

set_option maxRecDepth 20000 in
theorem sure_s (l : List FR) (hl : ∀ f ∈ l, f.ok) (h1 : l.length ≤ 1048576) : ∀ b, (b = true ↔ OneIn l) → CallsS Tryz.prog 144 [.one (frsS l)] (B b) := by
  intro b hb
  have mk := fmake_s 1 1 (by decide) (by decide) (by decide) (by decide) (by decide)
  rw [one_div_one] at mk
  obtain ⟨o1, o2, o3⟩ := fix_one
  refine calls Tryz.func144 rfl (by rfl) (by rfl) (by kernel_rfl) ?_
  simp -dsimp -implicitDefEqProofs [Tryz.f144]
  refine eCall.of mk (by simp) ?_
  simp -dsimp -implicitDefEqProofs
  refine sw_loop_e (fun p : {p : Nat × Nat // p.1 ≤ l.length ∧ ∀ f ∈ l.take p.1, ¬ f.fix = 1} => SS.of [(3, .v (.one (.mp 0 0))), (11, .v (.one (frsS l))), (12, I .i64 l.length), (13, I .i64 p.1.1)] [(0, ⟨40, rowFr (frQ 1)⟩)] (p.1.2 + 1))
    (fun p => l.length - p.1.1) ⟨(0, 0), Nat.zero_le _, by simp⟩ (by kernel_rfl) (Le.to (by simp) (by simp [frQ, ng]) (by simp)) ?_
  rintro ⟨⟨i, c⟩, hi, hp⟩
  simp only at hi hp
  by_cases a1 : i < l.length
  · have wi : IntKind.i64.wrap ((i : Int) + 1) = ((i + 1 : Nat) : Int) := by rw [wrap_i64 _ (by omega) (by omega)]; rfl
    have hok : l[i].ok := hl _ (List.getElem_mem a1)
    have hc := fcmp_s l[i] (frQ 1) hok o2
    rw [o1] at hc
    simp -dsimp -implicitDefEqProofs [a1, wi]
    refine eCall.of hc (by simp [frQ, ng]) ?_
    by_cases c1 : l[i].fix = 1
    · have hb' : b = true := hb.2 ⟨_, List.getElem_mem a1, c1⟩
      simp -dsimp -implicitDefEqProofs [cmpQ_zero.2 c1, hb']
    · simp -dsimp -implicitDefEqProofs [show ¬ cmpQ l[i].fix 1 = 0 from mt cmpQ_zero.1 c1]
      exact Again.by ⟨(i + 1, c + 1), a1, all_take a1 hp c1⟩ (Le.to (by simp [wi]) (by simp) (by simp)) (by simp; omega)
  have hi2 : i = l.length := by omega
  subst hi2
  rw [List.take_length] at hp
  have hb' := nf hb (fun ⟨f, hf, h⟩ => hp f hf h)
  simp -dsimp -implicitDefEqProofs [hb']

def FitsOk (g : Gm) (c : Ce) : Prop := c.lot.length = g.outs.length ∧ c.pay.length = g.agents.length ∧ LotOk c.lot ∧ (g.lots = true ∨ OneIn c.lot) ∧ (g.pay = true ∨ ∀ f ∈ c.pay, sgnQ f.fix = 0)

/-- A cell whose numbers are small. -/
structure CeFine (c : Ce) : Prop where
  ok : c.ok
  lot : ∀ f ∈ c.lot, mz f.fix ≤ 28
  pay : ∀ f ∈ c.pay, mz f.fix ≤ 28
/-- A cell of a rule that is handed in. -/
structure CeSix (c : Ce) : Prop where
  lot : ∀ f ∈ c.lot, mz f.fix ≤ 6
  pay : ∀ f ∈ c.pay, mz f.fix ≤ 6

theorem fixBig {f : FR} (h : f.ok) {b : Nat} (hb : 1 ≤ b) (h1 : f.big ≤ b) : mz f.fix ≤ b := by
  by_cases hr : f.right = true
  · have h2 := (FR.right_fix h hr).1
    simp at h2
    obtain ⟨-, h3, h4⟩ := h2
    have l3 := congrArg List.length h3
    have l4 := congrArg List.length h4
    simp at l3 l4
    unfold mz
    unfold FR.big at h1
    have e3 : wl f.fix.num.natAbs = f.num.length := l3.symm
    have e4 : wl f.fix.den = f.den.length := l4.symm
    omega
  · have : f.fix = 0 := by unfold FR.fix; rw [if_neg hr]
    rw [this, show mz 0 = 1 by decide +kernel]; exact hb

theorem wideF_no {m : Int} {l : List FR} (h : wideF m l = false) : ∀ f ∈ l, (f.big : Int) ≤ m := by
  intro f hf
  unfold wideF at h
  have := List.any_eq_false.1 h f hf
  simp only [decide_eq_true_eq] at this
  omega

theorem CeSix.fine {c : Ce} (h : CeSix c) (ho : c.ok) : CeFine c := ⟨ho, fun f hf => Nat.le_trans (h.lot f hf) (by decide), fun f hf => Nat.le_trans (h.pay f hf) (by decide)⟩
theorem CeSix.of {c : Ce} (ho : c.ok) (h1 : ∀ f ∈ c.lot, f.big ≤ 6) (h2 : ∀ f ∈ c.pay, f.big ≤ 6) : CeSix c :=
  ⟨fun f hf => fixBig (ho.2.2.1 f hf) (by omega) (h1 f hf), fun f hf => fixBig (ho.2.2.2 f hf) (by omega) (h2 f hf)⟩
theorem CeFine.small {g : Gm} {c : Ce} (h : CeFine c) (hl : c.lot.length ≤ 6) : Small c.lot 28 :=
  ⟨h.ok.2.2.1, fun q hq => by obtain ⟨f, hf, rfl⟩ := List.mem_map.1 hq; exact h.lot f hf, by omega⟩

/-- Sums of few small numbers are told as they are. -/
theorem cap_sum {l : List FR} {B' : Nat} (hs : Small l B') : cap (sumQ (l.map FR.fix)) = sumQ (l.map FR.fix) := by
  have := mz_take hs.mz (by have := hs.all; simpa using this) l.length
  rw [List.take_of_length_le (by simp)] at this
  exact cap_of this
theorem isLot_iff {l : List FR} {B' : Nat} (hs : Small l B') : isLot l ↔ LotOk l := by unfold isLot LotOk; rw [cap_sum hs]

set_option maxRecDepth 20000 in
set_option maxHeartbeats 1000000 in
theorem fits_s (g : Gm) (c : Ce) (hl : g.outs.length ≤ 6) (hc : CeFine c) : ∀ b, (b = true ↔ FitsOk g c) → CallsS Tryz.prog 107 [gmS g, ceS c] (B b) := by
  intro b hb
  obtain ⟨o1, o2, o3, o4⟩ := hc.ok
  unfold lenOk at o1 o2
  by_cases e1 : c.lot.length = g.outs.length
  · have hsm := CeFine.small (g := g) hc (by omega)
    have hch := chances_s c.lot o3 (by omega)
    have hsu := sure_s c.lot o3 (by omega)
    by_cases e2 : c.pay.length = g.agents.length
    · refine calls_cut 1 (fun _ : {u : Unit // LotOk c.lot ∧ (g.lots = true ∨ OneIn c.lot)} => SS.of [(2, .v (.one (.mp 0 0))), (3, .v (.one (.mp 1 0)))] [(0, ⟨26, rowGm g⟩), (1, ⟨116, rowCe c⟩)] 2) Tryz.func107 rfl (by rfl) (by rfl) (by rfl) (by kernel_rfl) (by kernel_rfl) ?_ ?_
      · simp -dsimp -implicitDefEqProofs [e1, e2]
        by_cases e3 : LotOk c.lot
        · refine eCall.of (hch true (by simp [isLot_iff hsm, e3])) (by simp) ?_
          by_cases e4 : g.lots = true
          · simp -dsimp -implicitDefEqProofs [e4]
            exact Cut.by ⟨(), e3, .inl e4⟩ (Le.to (by simp) (by simp [e4]) (by simp))
          · have e4 : g.lots = false := by simpa using e4
            simp -dsimp -implicitDefEqProofs [e4]
            by_cases e5 : OneIn c.lot
            · refine eCall.of (hsu true (by simp [e5])) (by simp) ?_
              simp -dsimp -implicitDefEqProofs
              exact Cut.by ⟨(), e3, .inr e5⟩ (Le.to (by simp) (by simp [e4]) (by simp))
            · have hb' := nf hb (fun h => by rcases h.2.2.2.1 with h | h; rw [e4] at h; cases h; exact e5 h)
              refine eCall.of (hsu false (by simp [e5])) (by simp) ?_
              simp -dsimp -implicitDefEqProofs [hb']
        · have hb' := nf hb (fun h => e3 h.2.2.1)
          refine eCall.of (hch false (by simp [isLot_iff hsm, e3])) (by simp) ?_
          simp -dsimp -implicitDefEqProofs [hb']
      · rintro ⟨-, e3, e4⟩
        simp -dsimp -implicitDefEqProofs
        refine sw_loop_e (fun p : {p : Nat × Nat // p.1 ≤ c.pay.length ∧ (g.pay = true ∨ ∀ f ∈ c.pay.take p.1, sgnQ f.fix = 0)} => SS.of [(2, .v (.one (.mp 0 0))), (41, .v (.one (frsS c.pay))), (42, I .i64 c.pay.length), (43, I .i64 p.1.1)] [(0, ⟨26, rowGm g⟩)] (p.1.2 + 2))
          (fun p => c.pay.length - p.1.1) ⟨(0, 0), Nat.zero_le _, .inr (by simp)⟩ (by kernel_rfl) (Le.to (by simp) (by simp) (by simp)) ?_
        rintro ⟨⟨i, d⟩, hi, hp⟩
        simp only at hi hp
        by_cases a1 : i < c.pay.length
        · have wi : IntKind.i64.wrap ((i : Int) + 1) = ((i + 1 : Nat) : Int) := by rw [wrap_i64 _ (by omega) (by omega)]; rfl
          by_cases e5 : g.pay = true
          · simp -dsimp -implicitDefEqProofs [a1, wi, e5]
            exact Again.by ⟨(i + 1, d + 1), a1, .inl e5⟩ (Le.to (by simp [wi]) (by simp [e5]) (by simp)) (by simp; omega)
          · have e5' : g.pay = false := by simpa using e5
            simp -dsimp -implicitDefEqProofs [a1, wi, e5']
            refine eCall.of (fsign_s c.pay[i] (o4 _ (List.getElem_mem a1))) (by simp) ?_
            by_cases e6 : sgnQ c.pay[i].fix = 0
            · simp -dsimp -implicitDefEqProofs [e6]
              exact Again.by ⟨(i + 1, d + 1), a1, .inr (all_take a1 (hp.resolve_left e5) e6)⟩ (Le.to (by simp [wi]) (by simp [e5']) (by simp)) (by simp; omega)
            · have hb' := nf hb (fun h => e6 (h.2.2.2.2.resolve_left e5 _ (List.getElem_mem a1)))
              simp -dsimp -implicitDefEqProofs [e6, hb']
        have hi2 : i = c.pay.length := by omega
        subst hi2
        rw [List.take_length] at hp
        have hb' : b = true := hb.2 ⟨e1, e2, e3, e4, hp⟩
        simp -dsimp -implicitDefEqProofs [hb']
    · have hb' := nf hb (fun h => e2 h.2.1)
      refine calls Tryz.func107 rfl (by rfl) (by rfl) (by kernel_rfl) ?_
      simp -dsimp -implicitDefEqProofs [Tryz.f107, e1, show ¬ (c.pay.length : Int) = g.agents.length by omega, e2, hb']
  · have hb' := nf hb (fun h => e1 h.1)
    refine calls Tryz.func107 rfl (by rfl) (by rfl) (by kernel_rfl) ?_
    simp -dsimp -implicitDefEqProofs [Tryz.f107, show ¬ (c.lot.length : Int) = g.outs.length by omega, e1, hb']

set_option maxRecDepth 20000 in
set_option maxHeartbeats 1000000 in
theorem fitsR_s (g : Gm) (c : Ce) (hl : g.outs.length ≤ 6) (hc : CeFine c) : ∀ b, (b = true ↔ FitsOk g c) → CallsS Tryz.prog 118 [gmS g, ceS c] (B b) := by
  intro b hb
  obtain ⟨o1, o2, o3, o4⟩ := hc.ok
  unfold lenOk at o1 o2
  by_cases e1 : c.lot.length = g.outs.length
  · have hsm := CeFine.small (g := g) hc (by omega)
    have hch := chancesG_s c.lot 28 hsm
    have hsu := one_s c.lot o3 (by omega)
    by_cases e2 : c.pay.length = g.agents.length
    · refine calls_cut 1 (fun _ : {u : Unit // LotOk c.lot ∧ (g.lots = true ∨ OneIn c.lot)} => SS.of [(2, .v (.one (.mp 0 0))), (3, .v (.one (.mp 1 0)))] [(0, ⟨26, rowGm g⟩), (1, ⟨116, rowCe c⟩)] 2) Tryz.func118 rfl (by rfl) (by rfl) (by rfl) (by kernel_rfl) (by kernel_rfl) ?_ ?_
      · simp -dsimp -implicitDefEqProofs [e1, e2]
        by_cases e3 : LotOk c.lot
        · refine eCall.of (hch true (by simp [e3])) (by simp) ?_
          by_cases e4 : g.lots = true
          · simp -dsimp -implicitDefEqProofs [e4]
            exact Cut.by ⟨(), e3, .inl e4⟩ (Le.to (by simp) (by simp [e4]) (by simp))
          · have e4 : g.lots = false := by simpa using e4
            simp -dsimp -implicitDefEqProofs [e4]
            by_cases e5 : OneIn c.lot
            · refine eCall.of (hsu true (by simp [e5])) (by simp) ?_
              simp -dsimp -implicitDefEqProofs
              exact Cut.by ⟨(), e3, .inr e5⟩ (Le.to (by simp) (by simp [e4]) (by simp))
            · have hb' := nf hb (fun h => by rcases h.2.2.2.1 with h | h; rw [e4] at h; cases h; exact e5 h)
              refine eCall.of (hsu false (by simp [e5])) (by simp) ?_
              simp -dsimp -implicitDefEqProofs [hb']
        · have hb' := nf hb (fun h => e3 h.2.2.1)
          refine eCall.of (hch false (by simp [e3])) (by simp) ?_
          simp -dsimp -implicitDefEqProofs [hb']
      · rintro ⟨-, e3, e4⟩
        simp -dsimp -implicitDefEqProofs
        refine sw_loop_e (fun p : {p : Nat // p ≤ c.pay.length ∧ (g.pay = true ∨ ∀ f ∈ c.pay.take p, sgnQ f.fix = 0)} => SS.of [(2, .v (.one (.mp 0 0))), (3, .v (.one (.mp 1 0))), (5, I .i64 p.1)] [(0, ⟨26, rowGm g⟩), (1, ⟨116, rowCe c⟩)] 2)
          (fun p => c.pay.length - p.1) ⟨0, Nat.zero_le _, .inr (by simp)⟩ (by kernel_rfl) (Le.to (by simp) (by simp) (by simp)) ?_
        rintro ⟨i, hi, hp⟩
        by_cases a1 : i < c.pay.length
        · have wi : IntKind.i64.wrap ((i : Int) + 1) = ((i + 1 : Nat) : Int) := by rw [wrap_i64 _ (by omega) (by omega)]; rfl
          by_cases e5 : g.pay = true
          · simp -dsimp -implicitDefEqProofs [a1, wi, e5]
            exact Again.by ⟨i + 1, a1, .inl e5⟩ (Le.to (by simp [wi]) (by simp [e5]) (by simp)) (by simp; omega)
          · have e5' : g.pay = false := by simpa using e5
            simp -dsimp -implicitDefEqProofs [a1, wi, e5']
            refine eCall.of (signR_s c.pay[i] (o4 _ (List.getElem_mem a1))) (by simp) ?_
            by_cases e6 : sgnQ c.pay[i].fix = 0
            · simp -dsimp -implicitDefEqProofs [e6]
              exact Again.by ⟨i + 1, a1, .inr (all_take a1 (hp.resolve_left e5) e6)⟩ (Le.to (by simp [wi]) (by simp [e5']) (by simp)) (by simp; omega)
            · have hb' := nf hb (fun h => e6 (h.2.2.2.2.resolve_left e5 _ (List.getElem_mem a1)))
              simp -dsimp -implicitDefEqProofs [e6, hb']
        have hi2 : i = c.pay.length := by omega
        subst hi2
        rw [List.take_length] at hp
        have hb' : b = true := hb.2 ⟨e1, e2, e3, e4, hp⟩
        simp -dsimp -implicitDefEqProofs [hb']
    · have hb' := nf hb (fun h => e2 h.2.1)
      refine calls Tryz.func118 rfl (by rfl) (by rfl) (by kernel_rfl) ?_
      simp -dsimp -implicitDefEqProofs [Tryz.f118, e1, show ¬ (c.pay.length : Int) = g.agents.length by omega, e2, hb']
  · have hb' := nf hb (fun h => e1 h.1)
    refine calls Tryz.func118 rfl (by rfl) (by rfl) (by kernel_rfl) ?_
    simp -dsimp -implicitDefEqProofs [Tryz.f118, show ¬ (c.lot.length : Int) = g.outs.length by omega, e1, hb']
end Go.Proofs.YtglhjjokijdagaaGreat.Sh

/- Rules that fit a game: Right, Plain, of the program and of the reference. -/
namespace Go.Proofs.YtglhjjokijdagaaGreat.Sh
open Go Go.RowKit

def RuleOk (g : Gm) (r : List Ce) : Prop := r.length = prodK g.agents ∧ ∀ c ∈ r, FitsOk g c
/-- A game and a rule that statements look at. -/
structure Seen (g : Gm) (r : List Ce) : Prop where
  ok : g.ok
  bey : beyond g = false
  len : r.length ≤ 100
  ce : ∀ c ∈ r, CeFine c
def Good (g : Gm) (r : List Ce) : Prop := sizeOk g = true ∧ RightOk g ∧ RuleOk g r
def isGood (g : Gm) (r : List Ce) (e : Int) : Prop := (¬ (sizeOk g = true ∧ RightOk g) ∧ e = 2) ∨ ((sizeOk g = true ∧ RightOk g) ∧ ¬ RuleOk g r ∧ e = 3) ∨ (Good g r ∧ e = 0)

theorem isRight_of (g : Gm) : ∃ e, isRight g e ∧ (e = 0 ↔ sizeOk g = true ∧ RightOk g) := by
  by_cases h1 : sizeOk g = true
  · by_cases h2 : RightOk g
    · exact ⟨0, .inr (.inr ⟨h1, h2, rfl⟩), by simp [h1, h2]⟩
    · exact ⟨2, .inr (.inl ⟨h1, h2, rfl⟩), by simp [h2]⟩
  · exact ⟨1, .inl ⟨by simpa using h1, rfl⟩, by simp [h1]⟩
theorem Seen.fine {g : Gm} {r : List Ce} (h : Seen g r) (h1 : sizeOk g = true ∧ RightOk g) : Fine g := ⟨h.ok, h.bey, h1.1, h1.2⟩
theorem isGood_of (g : Gm) (r : List Ce) : ∃ e, isGood g r e ∧ (e = 0 ↔ Good g r) := by
  by_cases h1 : sizeOk g = true ∧ RightOk g
  · by_cases h2 : RuleOk g r
    · exact ⟨0, .inr (.inr ⟨⟨h1.1, h1.2, h2⟩, rfl⟩), by simp [Good, h1, h2]⟩
    · exact ⟨3, .inr (.inl ⟨h1, h2, rfl⟩), by simp [Good, h2]⟩
  · exact ⟨2, .inl ⟨h1, rfl⟩, ⟨fun h => absurd h (by decide), fun h => absurd ⟨h.1, h.2.1⟩ h1⟩⟩

set_option maxRecDepth 20000 in
theorem fitsRule_s (g : Gm) (r : List Ce) (h : Seen g r) : ∀ b, (b = true ↔ Good g r) → CallsS Tryz.prog 64 [gmS g, ruS r] (B b) := by
  intro b hb
  have hlen := h.len
  refine calls Tryz.func64 rfl (by rfl) (by rfl) (by kernel_rfl) ?_
  simp -dsimp -implicitDefEqProofs [Tryz.f64]
  obtain ⟨e, he, e0⟩ := isRight_of g
  refine eCall.of (right_s g h.ok h.bey e he) (by simp) ?_
  by_cases c1 : sizeOk g = true ∧ RightOk g
  · have hf := h.fine c1
    obtain rfl : e = 0 := e0.2 c1
    simp -dsimp -implicitDefEqProofs
    refine eCall.of (count_s g hf) (by simp) ?_
    by_cases c2 : r.length = prodK g.agents
    · simp -dsimp -implicitDefEqProofs [c2]
      rw [← c2]
      refine sw_loop_e (fun p : {p : Nat // p ≤ r.length ∧ ∀ c ∈ r.take p, FitsOk g c} => SS.of [(2, .v (.one (.mp 0 0))), (3, .v (.one (.mp 1 0))), (5, I .i64 p.1)] [(0, ⟨26, rowGm g⟩), (1, ⟨29, [cesS r]⟩)] 2)
        (fun p => r.length - p.1) ⟨0, Nat.zero_le _, by simp⟩ (by kernel_rfl) (Le.to (by simp) (by simp) (by simp)) ?_
      rintro ⟨i, hi, hp⟩
      by_cases a1 : i < r.length
      · have wi : IntKind.i64.wrap ((i : Int) + 1) = ((i + 1 : Nat) : Int) := by rw [wrap_i64 _ (by omega) (by omega)]; rfl
        have hm := List.getElem_mem a1
        have hft := fitsR_s g r[i] (sizeOk_all c1.1).2.1 (h.ce _ hm)
        simp -dsimp -implicitDefEqProofs [a1, wi]
        by_cases c3 : FitsOk g r[i]
        · refine eCall.of (hft true (by simp [c3])) (by simp) ?_
          simp -dsimp -implicitDefEqProofs
          exact Again.by ⟨i + 1, a1, all_take a1 hp c3⟩ (Le.to (by simp [wi]) (by simp) (by simp)) (by simp; omega)
        · have hb' := nf hb (fun hh => c3 (hh.2.2.2 _ hm))
          refine eCall.of (hft false (by simp [c3])) (by simp) ?_
          simp -dsimp -implicitDefEqProofs [hb']
      have hi2 : i = r.length := by omega
      subst hi2
      rw [List.take_length] at hp
      have hb' : b = true := hb.2 ⟨c1.1, c1.2, c2, hp⟩
      simp -dsimp -implicitDefEqProofs [hb']
    · have hb' := nf hb (fun hh => c2 hh.2.2.1)
      simp -dsimp -implicitDefEqProofs [c2, show ¬ (r.length : Int) = prodK g.agents by omega, hb']
  · have e1 : ¬ e = 0 := fun hh => c1 (e0.1 hh)
    have hb' := nf hb (fun hh => c1 ⟨hh.1, hh.2.1⟩)
    simp -dsimp -implicitDefEqProofs [e1, hb']

set_option maxRecDepth 20000 in
theorem rightR4_s (g : Gm) (r : List Ce) (h : Seen g r) : ∀ e, isGood g r e → CallsS Tryz.prog 22 [gmS g, ruS r] (I .i64 e) := by
  intro e hE
  refine calls Tryz.func22 rfl (by rfl) (by rfl) (by kernel_rfl) ?_
  simp -dsimp -implicitDefEqProofs [Tryz.f22]
  obtain ⟨e', he, e0⟩ := isRight_of g
  refine eCall.of (right_s g h.ok h.bey e' he) (by simp) ?_
  by_cases c1 : sizeOk g = true ∧ RightOk g
  · obtain rfl : e' = 0 := e0.2 c1
    simp -dsimp -implicitDefEqProofs
    by_cases c2 : RuleOk g r
    · have he2 : e = 0 := by
        rcases hE with hh | hh | hh
        · exact absurd c1 hh.1
        · exact absurd c2 hh.2.1
        · exact hh.2
      refine eCall.of (fitsRule_s g r h true (by simp [Good, c1, c2])) (by simp) ?_
      simp -dsimp -implicitDefEqProofs [he2]
    · have he2 : e = 3 := by
        rcases hE with hh | hh | hh
        · exact absurd c1 hh.1
        · exact hh.2.2
        · exact absurd hh.1.2.2 c2
      refine eCall.of (fitsRule_s g r h false (by simp [Good, c2])) (by simp) ?_
      simp -dsimp -implicitDefEqProofs [he2]
  · have e1 : ¬ e' = 0 := fun hh => c1 (e0.1 hh)
    have he2 : e = 2 := by
      rcases hE with hh | hh | hh
      · exact hh.2
      · exact absurd hh.1 c1
      · exact absurd ⟨hh.1.1, hh.1.2.1⟩ c1
    simp -dsimp -implicitDefEqProofs [e1, he2]

set_option maxRecDepth 20000 in
theorem rright_s (g : Gm) (r : List Ce) (h : Seen g r) : ∀ e, isGood g r e → CallsS Tryz.prog 56 [gmS g, ruS r] (I .i64 e) := by
  intro e hE
  have hlen := h.len
  refine calls Tryz.func56 rfl (by rfl) (by rfl) (by kernel_rfl) ?_
  simp -dsimp -implicitDefEqProofs [Tryz.f56]
  obtain ⟨e', he, e0⟩ := isRight_of g
  refine eCall.of (sright_s g h.ok h.bey e' he) (by simp) ?_
  by_cases c1 : sizeOk g = true ∧ RightOk g
  · have hf := h.fine c1
    obtain rfl : e' = 0 := e0.2 c1
    have bad : ¬ RuleOk g r → e = 3 := fun c2 => by
      rcases hE with hh | hh | hh
      · exact absurd c1 hh.1
      · exact hh.2.2
      · exact absurd hh.1.2.2 c2
    have hpl := profs_length g
    simp -dsimp -implicitDefEqProofs
    refine eCall.of (profiles_s g hf) (by simp) ?_
    by_cases c2 : r.length = prodK g.agents
    · simp -dsimp -implicitDefEqProofs [hpl, c2]
      rw [← c2]
      refine sw_loop_e (fun p : {p : Nat × Nat // p.1 ≤ r.length ∧ ∀ c ∈ r.take p.1, FitsOk g c} => SS.of [(2, .v (.one (.mp 0 0))), (18, .v (.one (cesS r))), (19, I .i64 r.length), (20, I .i64 p.1.1)] [(0, ⟨26, rowGm g⟩)] (p.1.2 + 2))
        (fun p => r.length - p.1.1) ⟨(0, 0), Nat.zero_le _, by simp⟩ (by kernel_rfl) (Le.to (by simp) (by simp) (by simp)) ?_
      rintro ⟨⟨i, d⟩, hi, hp⟩
      simp only at hi hp
      by_cases a1 : i < r.length
      · have wi : IntKind.i64.wrap ((i : Int) + 1) = ((i + 1 : Nat) : Int) := by rw [wrap_i64 _ (by omega) (by omega)]; rfl
        have hm := List.getElem_mem a1
        have hft := fits_s g r[i] (sizeOk_all c1.1).2.1 (h.ce _ hm)
        simp -dsimp -implicitDefEqProofs [a1, wi]
        by_cases c3 : FitsOk g r[i]
        · refine eCall.of (hft true (by simp [c3])) (by simp) ?_
          simp -dsimp -implicitDefEqProofs
          exact Again.by ⟨(i + 1, d + 1), a1, all_take a1 hp c3⟩ (Le.to (by simp [wi]) (by simp) (by simp)) (by simp; omega)
        · have hb' := bad (fun hh => c3 (hh.2 _ hm))
          refine eCall.of (hft false (by simp [c3])) (by simp) ?_
          simp -dsimp -implicitDefEqProofs [hb']
      have hi2 : i = r.length := by omega
      subst hi2
      rw [List.take_length] at hp
      have hb' : e = 0 := by
        rcases hE with hh | hh | hh
        · exact absurd c1 hh.1
        · exact absurd ⟨c2, hp⟩ hh.2.1
        · exact hh.2
      simp -dsimp -implicitDefEqProofs [hb']
    · have hb' := bad (fun hh => c2 hh.1)
      simp -dsimp -implicitDefEqProofs [hpl, c2, show ¬ (r.length : Int) = prodK g.agents by omega, hb']
  · have e1 : ¬ e' = 0 := fun hh => c1 (e0.1 hh)
    have he2 : e = 2 := by
      rcases hE with hh | hh | hh
      · exact hh.2
      · exact absurd hh.1 c1
      · exact absurd ⟨hh.1.1, hh.1.2.1⟩ c1
    simp -dsimp -implicitDefEqProofs [e1, he2]

def PlainOk (g : Gm) (r : List Ce) : Prop := Good g r ∧ ∀ c ∈ r, OneIn c.lot

end Go.Proofs.YtglhjjokijdagaaGreat.Sh

/- speech: Index; the reference's At. -/
namespace Go.Proofs.YtglhjjokijdagaaGreat.Sh
open Go Go.RowKit

theorem whrTo_ok {g : Gm} (h : Fine g) {p : List Int} {i : Nat} (hi : i ≤ g.agents.length) (hp : profTo g p i) : 0 ≤ whrTo g p i ∧ whrTo g p i < 256 := by
  have h1 := whrTo_le i hi hp
  have h2 := h.prod_le i hi
  omega

def isIdx (g : Gm) (p : List Int) (e : Int) : Prop := (isProf g p ∧ e = whr g p) ∨ (¬ isProf g p ∧ e = -1)

set_option maxRecDepth 20000 in
theorem index_s (g : Gm) (h : Fine g) (p : List Int) (hl : p.length ≤ 140737488355328) : ∀ e, isIdx g p e → CallsS Tryz.prog 65 [gmS g, .one (intsS p)] (I .i64 e) := by
  intro e he
  obtain ⟨h1, -, -, h4, -⟩ := sizeOk_all h.sz
  have hsl : (sizesL g).length = g.agents.length := by simp [sizesL]
  have bad : ¬ isProf g p → e = -1 := fun hn => by
    rcases he with he | he
    · exact absurd he.1 hn
    · exact he.2
  refine calls Tryz.func65 rfl (by rfl) (by rfl) (by kernel_rfl) ?_
  simp -dsimp -implicitDefEqProofs [Tryz.f65]
  refine eCall.of (sright_s g h.ok h.bey 0 h.isRight) (by simp) ?_
  by_cases pl : p.length = g.agents.length
  · simp -dsimp -implicitDefEqProofs [pl]
    refine eCall.of (sizes_s g (by omega)) (by simp) ?_
    simp -dsimp -implicitDefEqProofs [hsl]
    refine sw_loop_e (fun q : {q : Nat // q ≤ g.agents.length ∧ profTo g p q} => SS.of [(1, .v (.one (intsS p))), (5, I .i64 (whrTo g p q.1)), (20, .v (.one (intsS (sizesL g)))), (21, I .i64 g.agents.length), (22, I .i64 q.1)] [] 1)
      (fun q => g.agents.length - q.1) ⟨0, Nat.zero_le _, fun j hj => absurd hj (by omega)⟩ (by kernel_rfl) (Le.to (by simp [whrTo]) (by simp) (by simp)) ?_
    rintro ⟨i, hi, hp⟩
    by_cases a1 : i < g.agents.length
    · have wi : IntKind.i64.wrap ((i : Int) + 1) = ((i + 1 : Nat) : Int) := by rw [wrap_i64 _ (by omega) (by omega)]; rfl
      have a2 : i < p.length := by omega
      have a3 : i < (sizesL g).length := by omega
      have hsi : (sizesL g)[i] = (g.agents[i].kinds.length : Int) := by simp [sizesL]
      have hw := whrTo_step (g := g) (p := p) (List.getElem?_eq_getElem a1) (List.getElem?_eq_getElem a2)
      obtain ⟨w1, w2⟩ := whrTo_ok h hi hp
      have hk := h4 _ (List.getElem_mem a1)
      by_cases c1 : p[i] < 0
      · have hb := bad (fun hh => by
          obtain ⟨A, x, e1, e2, e3, e4⟩ := hh.2 i a1
          rw [List.getElem?_eq_getElem a2] at e2
          obtain rfl := Option.some.inj e2
          omega)
        simp -dsimp -implicitDefEqProofs [a1, a2, a3, hsi, pl, wi, c1, hb]
      by_cases c2 : (g.agents[i].kinds.length : Int) ≤ p[i]
      · have hb := bad (fun hh => by
          obtain ⟨A, x, e1, e2, e3, e4⟩ := hh.2 i a1
          rw [List.getElem?_eq_getElem a2] at e2
          rw [List.getElem?_eq_getElem a1] at e1
          obtain rfl := Option.some.inj e2
          obtain rfl := Option.some.inj e1
          omega)
        simp -dsimp -implicitDefEqProofs [a1, a2, a3, hsi, pl, wi, c1, c2, hb]
      have hp2 : profTo g p (i + 1) := fun j hj => by
        by_cases e : j = i
        · subst e; exact ⟨_, _, List.getElem?_eq_getElem a1, List.getElem?_eq_getElem a2, by omega, by omega⟩
        · exact hp j (by omega)
      obtain ⟨w3, w4⟩ := whrTo_ok h a1 hp2
      have wm : IntKind.i64.wrap (whrTo g p i * (g.agents[i].kinds.length : Int)) = whrTo g p i * (g.agents[i].kinds.length : Int) := by
        rw [hw] at w4
        have := Int.mul_nonneg w1 (Int.natCast_nonneg g.agents[i].kinds.length)
        rw [wrap_i64 _ (by omega) (by omega)]
      have wa : IntKind.i64.wrap (whrTo g p i * (g.agents[i].kinds.length : Int) + p[i]) = whrTo g p (i + 1) := by
        rw [hw] at w3 w4 ⊢
        rw [wrap_i64 _ (by omega) (by omega)]
      simp -dsimp -implicitDefEqProofs [a1, a2, a3, hsi, pl, wi, c1, c2]
      exact Again.by ⟨i + 1, a1, hp2⟩ (Le.to (by simp [wi, wm, wa]) (by simp) (by simp)) (by simp; omega)
    have hi2 : i = g.agents.length := by omega
    subst hi2
    have hb : e = whr g p := by
      rcases he with he | he
      · exact he.2
      · exact absurd ⟨pl, hp⟩ he.1
    simp -dsimp -implicitDefEqProofs [pl, hb, whr]
  · have hb := bad (fun hh => pl hh.1)
    simp -dsimp -implicitDefEqProofs [pl, show ¬ (p.length : Int) = g.agents.length by omega, hb]

end Go.Proofs.YtglhjjokijdagaaGreat.Sh

/- frac: Sub, Dot. -/
namespace Go.Proofs.YtglhjjokijdagaaGreat.Sh
open Go Go.RowKit

set_option maxRecDepth 20000 in
theorem fsub_s (f g : FR) (hf : f.ok) (hg : g.ok) : CallsS Tryz.prog 40 [frS f, frS g] (.v (fS (cap (f.fix - g.fix)))) := by
  have h1 := sz_fix hf
  have h2 := sz_fix hg
  have h3 := sz_neg g.fix
  have h4 := sz_add f.fix (-g.fix)
  have hp := rplus_s f.fix (-g.fix) (by omega)
  rw [← Rat.sub_eq_add_neg] at hp h4
  refine calls Tryz.func40 rfl (by rfl) (by rfl) (by kernel_rfl) ?_
  simp -dsimp -implicitDefEqProofs [Tryz.f40]
  refine eCall.of (taken_s f hf) (by simp) ?_
  simp -dsimp -implicitDefEqProofs
  refine eCall.of (taken_s g hg) (by simp) ?_
  simp -dsimp -implicitDefEqProofs
  refine eCall.of (rminus_s g.fix) (by simp) ?_
  simp -dsimp -implicitDefEqProofs
  refine eCall.of hp (by simp) ?_
  simp -dsimp -implicitDefEqProofs
  refine eCall.of (told_s (f.fix - g.fix) (by omega)) (by simp) ?_
  simp -dsimp -implicitDefEqProofs

set_option maxRecDepth 20000 in
theorem fdot_s (a b : List FR) (ha : ∀ f ∈ a, f.ok) (hb : ∀ f ∈ b, f.ok) (h1 : a.length ≤ 1048576) (hab : a.length = b.length) : CallsS Tryz.prog 137 [.one (frsS a), .one (frsS b)] (.v (fS (cap (sumQ (dotL a b))))) := by
  have hz : ∀ q ∈ dotL a b, mz q ≤ 8192 := by
    intro q hq
    unfold dotL at hq
    obtain ⟨i, hi, rfl⟩ := List.getElem_of_mem hq
    rw [List.getElem_zipWith]
    have e1 := sz_fix (ha _ (List.getElem_mem (l := a) (n := i) (by simp at hi; omega)))
    have e2 := sz_fix (hb _ (List.getElem_mem (l := b) (n := i) (by simp at hi; omega)))
    have := sz_mz (a[i]'(by simp at hi; omega)).fix
    have := sz_mz (b[i]'(by simp at hi; omega)).fix
    have := mz_mul (a[i]'(by simp at hi; omega)).fix (b[i]'(by simp at hi; omega)).fix
    omega
  have dl : (dotL a b).length = a.length := by simp [dotL, hab]
  have hs : ∀ i, mz (sumQ ((dotL a b).take i)) ≤ 1048576 * 8193 + 1 := fun i => by
    have := mz_sum ((dotL a b).take i) 8192 (fun q hq => hz q (List.mem_of_mem_take hq))
    have h2 : ((dotL a b).take i).length ≤ 1048576 := by rw [List.length_take, dl]; omega
    have := Nat.mul_le_mul_right (8192 + 1) h2
    omega
  refine calls Tryz.func137 rfl (by rfl) (by rfl) (by kernel_rfl) ?_
  have hmin : min (a.length : Int) (b.length : Int) = a.length := by omega
  have t1 : (a.map rowFr).take b.length = a.map rowFr := List.take_of_length_le (by simp; omega)
  have t2 : (b.map rowFr).take b.length = b.map rowFr := List.take_of_length_le (by simp)
  simp -dsimp -implicitDefEqProofs [Tryz.f137, hmin, hab, t1, t2]
  refine eCall.of (all_s a ha (by omega)) (by simp) ?_
  simp -dsimp -implicitDefEqProofs [hab, t2]
  refine eCall.of (all_s b hb (by omega)) (by simp) ?_
  simp -dsimp -implicitDefEqProofs
  refine eCall.of (whole_s 0 (by decide) (by decide)) (by simp) ?_
  simp -dsimp -implicitDefEqProofs [hab]
  refine sw_loop_e (fun p : {p : Nat // p ≤ b.length} => SS.of [(4, .v (.one (.mp 0 0))), (6, .v (.one (ratsS (a.map FR.fix)))), (7, .v (.one (ratsS (b.map FR.fix)))), (8, .v (.one (.mp 1 0))), (27, I .i64 b.length), (28, I .i64 p.1)] [(0, ⟨40, [.bool false, .nils, .nils]⟩), (1, ⟨138, rowQ (sumQ ((dotL a b).take p.1))⟩)] 2)
    (fun p => b.length - p.1) ⟨0, Nat.zero_le _⟩ (by kernel_rfl) (Le.to (by simp) (by simp [sumQ]) (by simp)) ?_
  rintro ⟨i, hi⟩
  by_cases a1 : i < b.length
  · have wi : IntKind.i64.wrap ((i : Int) + 1) = ((i + 1 : Nat) : Int) := by rw [wrap_i64 _ (by omega) (by omega)]; rfl
    have a2 : i < a.length := by omega
    have z1 := sz_fix (ha _ (List.getElem_mem a2))
    have z2 := sz_fix (hb _ (List.getElem_mem a1))
    have z3 := sz_mul a[i].fix b[i].fix
    have z4 := hs i
    have z5 := sz_mz (sumQ ((dotL a b).take i))
    have hst := sumQ_take (dotL a b) i (by omega)
    rw [show (dotL a b)[i]'(by omega) = a[i].fix * b[i].fix by simp [dotL]] at hst
    have hp := rplus_s (sumQ ((dotL a b).take i)) (a[i].fix * b[i].fix) (by omega)
    rw [← hst] at hp
    simp -dsimp -implicitDefEqProofs [a1, a2, wi, hab]
    refine eCall.of (rtimes_s a[i].fix b[i].fix (by omega)) (by simp) ?_
    simp -dsimp -implicitDefEqProofs
    refine eCall.of hp (by simp) ?_
    simp -dsimp -implicitDefEqProofs
    exact Again.by ⟨i + 1, a1⟩ (Le.to (by simp [wi]) (by simp) (by simp)) (by simp; omega)
  have hi2 : i = b.length := by omega
  subst hi2
  have e : (dotL a b).take b.length = dotL a b := List.take_of_length_le (by omega)
  have b1 := sz_mz (sumQ (dotL a b))
  have b2 := hs b.length
  rw [e] at b2
  simp -dsimp -implicitDefEqProofs [e]
  refine eCall.of (told_s (sumQ (dotL a b)) (by omega)) (by simp) ?_
  simp -dsimp -implicitDefEqProofs
end Go.Proofs.YtglhjjokijdagaaGreat.Sh

/- What an agent has in a cell. -/
namespace Go.Proofs.YtglhjjokijdagaaGreat.Sh
open Go Go.RowKit

@[simp] def rowTb (g : Gm) (r : List Ce) : List S1 := rowGm g ++ [cesS r, profsS (profs g)]
@[simp] def tbS (g : Gm) (r : List Ce) : SV := .agg (rowTb g r)

def payQ (c : Ce) (a : Nat) : Rat := ((c.pay[a]?).map FR.fix).getD 0
def hasQ (c : Ce) (K : Kd) (a : Nat) : Rat := sumQ (dotL c.lot K.worth) - payQ c a

structure KdFine (K : Kd) : Prop where
  ok : K.ok
  w : mz K.weight.fix ≤ 3
  al : mz K.alone.fix ≤ 3
  wo : ∀ f ∈ K.worth, mz f.fix ≤ 3

theorem farK_fine {K : Kd} (h : K.ok) (hf : farK K = false) : KdFine K := by
  obtain ⟨k1, k2, k3, k4, k5⟩ := id h
  unfold farK at hf
  simp only [Bool.or_eq_false_iff, decide_eq_false_iff_not] at hf
  obtain ⟨⟨h1, h2⟩, h3⟩ := hf
  exact ⟨h, fixBig k2 (by omega) (by omega), fixBig k3 (by omega) (by omega), fun f hm => fixBig (k5 f hm) (by omega) (by have := wideF_no h3 f hm; omega)⟩

/-- A game and a rule that are good, and small. -/
structure Play (g : Gm) (r : List Ce) : Prop where
  seen : Seen g r
  far : far g = false
  good : Good g r

theorem Play.fine {g : Gm} {r : List Ce} (h : Play g r) : Fine g := h.seen.fine ⟨h.good.1, h.good.2.1⟩
theorem Play.kd {g : Gm} {r : List Ce} (h : Play g r) {a : Ag} (ha : a ∈ g.agents) {K : Kd} (hK : K ∈ a.kinds) : KdFine K ∧ K.worth.length = g.outs.length := by
  have hf := h.far
  unfold Sh.far at hf
  simp only [Bool.or_eq_false_iff] at hf
  have h1 := List.any_eq_false.1 hf.1.2 a ha
  unfold farA at h1
  have h2 := List.any_eq_false.1 (by simpa using h1) K hK
  refine ⟨farK_fine ((h.seen.ok.a a ha).2.2 K hK) (by simpa using h2), (h.good.2.1.all a ha).2.2 K hK |>.2⟩
theorem Play.ce {g : Gm} {r : List Ce} (h : Play g r) {c : Ce} (hc : c ∈ r) : CeFine c ∧ c.lot.length = g.outs.length ∧ c.pay.length = g.agents.length :=
  ⟨h.seen.ce c hc, (h.good.2.2.2 c hc).1, (h.good.2.2.2 c hc).2.1⟩

/-- What the numbers of a cell and a kind come to. -/
structure Pair (c : Ce) (K : Kd) (a : Nat) : Prop where
  cf : CeFine c
  kf : KdFine K
  len : c.lot.length = K.worth.length
  six : c.lot.length ≤ 6
  pay : a < c.pay.length

theorem Pair.dot {c : Ce} {K : Kd} {a : Nat} (h : Pair c K a) : (∀ q ∈ dotL c.lot K.worth, mz q ≤ 31) ∧ (dotL c.lot K.worth).length ≤ 6 ∧ mz (sumQ (dotL c.lot K.worth)) ≤ 193 := by
  have h1 : ∀ q ∈ dotL c.lot K.worth, mz q ≤ 31 := by
    intro q hq
    unfold dotL at hq
    obtain ⟨i, hi, rfl⟩ := List.getElem_of_mem hq
    rw [List.getElem_zipWith]
    have i1 : i < c.lot.length := by simp at hi; omega
    have i2 : i < K.worth.length := by simp at hi; omega
    have e1 := h.cf.lot _ (List.getElem_mem i1)
    have e2 := h.kf.wo _ (List.getElem_mem i2)
    have := mz_mul c.lot[i].fix K.worth[i].fix
    omega
  have h2 : (dotL c.lot K.worth).length ≤ 6 := by have := h.len; have := h.six; simp [dotL]; omega
  have h3 := mz_sum (dotL c.lot K.worth) 31 h1
  exact ⟨h1, h2, by omega⟩
theorem mz_sub (p q : Rat) : mz (p - q) ≤ mz p + mz q + 1 := by
  have := mz_add p (-q)
  have e : mz (-q) = mz q := by unfold mz; rw [Rat.neg_num, Rat.neg_den, Int.natAbs_neg]
  rw [← Rat.sub_eq_add_neg] at this
  omega
theorem Pair.payQ {c : Ce} {K : Kd} {a : Nat} (h : Pair c K a) : payQ c a = (c.pay[a]'h.pay).fix ∧ mz (Sh.payQ c a) ≤ 28 := by
  have e : Sh.payQ c a = (c.pay[a]'h.pay).fix := by unfold Sh.payQ; rw [List.getElem?_eq_getElem h.pay]; rfl
  exact ⟨e, by rw [e]; exact h.cf.pay _ (List.getElem_mem h.pay)⟩
theorem Pair.has {c : Ce} {K : Kd} {a : Nat} (h : Pair c K a) : mz (hasQ c K a) ≤ 222 := by
  have h1 := h.dot.2.2
  have h2 := h.payQ.2
  have := mz_sub (sumQ (dotL c.lot K.worth)) (Sh.payQ c a)
  unfold hasQ
  omega
theorem cap_mz {q : Rat} (h : mz q ≤ 2048) : cap q = q ∧ sz q ≤ 4096 := by
  have := sz_mz q
  exact ⟨cap_of (by omega), by omega⟩

set_option maxRecDepth 20000 in
theorem rhas_s (g : Gm) (r : List Ce) (c : Ce) (a k : Nat) (ha : a < g.agents.length) (hk : k < g.agents[a].kinds.length) (hp : Pair c g.agents[a].kinds[k] a) :
    CallsS Tryz.prog 91 [tbS g r, ceS c, .one (.int .i64 (a : Int)), .one (.int .i64 (k : Int))] (.v (fS (hasQ c g.agents[a].kinds[k] a))) := by
  obtain ⟨d1, d2, d3⟩ := hp.dot
  obtain ⟨p1, p2⟩ := hp.payQ
  have h3 := hp.has
  obtain ⟨c1, z1⟩ := cap_mz (show mz (sumQ (dotL c.lot g.agents[a].kinds[k].worth)) ≤ 2048 by omega)
  obtain ⟨c2, z2⟩ := cap_mz (show mz (hasQ c g.agents[a].kinds[k] a) ≤ 2048 by omega)
  have hpl := hp.pay
  have hdo := fdot_s c.lot g.agents[a].kinds[k].worth hp.cf.ok.2.2.1 hp.kf.ok.2.2.2.2 (by have := hp.six; omega) hp.len
  rw [c1] at hdo
  have hsu := fsub_s (frQ (sumQ (dotL c.lot g.agents[a].kinds[k].worth))) c.pay[a] (frQ_ok (by omega)) (hp.cf.ok.2.2.2 _ (List.getElem_mem hpl))
  rw [fix_frQ z1, ← p1, show cap (sumQ (dotL c.lot g.agents[a].kinds[k].worth) - payQ c a) = hasQ c g.agents[a].kinds[k] a from c2, frS_frQ] at hsu
  refine calls Tryz.func91 rfl (by rfl) (by rfl) (by kernel_rfl) ?_
  simp -dsimp -implicitDefEqProofs [Tryz.f91, ha, hk]
  refine eCall.of hdo (by simp) ?_
  simp -dsimp -implicitDefEqProofs [hpl]
  refine eCall.of hsu (by simp) ?_
  simp -dsimp -implicitDefEqProofs
end Go.Proofs.YtglhjjokijdagaaGreat.Sh

/- What a lie gains. -/
namespace Go.Proofs.YtglhjjokijdagaaGreat.Sh
open Go Go.RowKit

def fr0 : FR := ⟨false, [], []⟩
instance : Inhabited Kd := ⟨⟨ByteArray.empty, fr0, fr0, []⟩⟩
instance : Inhabited Ce := ⟨⟨[], []⟩⟩
def kdAt (g : Gm) (a k : Nat) : Kd := ((g.agents[a]?).bind fun A => A.kinds[k]?).getD default
def ceAt (r : List Ce) (i : Nat) : Ce := (r[i]?).getD default
def kOf (g : Gm) (n a : Nat) : Nat := (((atG g n)[a]?).getD 0).toNat
def toAt (g : Gm) (n a told : Nat) : Nat := (whr g (putP (atG g n) a told)).toNat
def gainQ (g : Gm) (r : List Ce) (a n told : Nat) : Rat := hasQ (ceAt r (toAt g n a told)) (kdAt g a (kOf g n a)) a - hasQ (ceAt r n) (kdAt g a (kOf g n a)) a

theorem kdAt_eq {g : Gm} {a k : Nat} (ha : a < g.agents.length) (hk : k < g.agents[a].kinds.length) : kdAt g a k = g.agents[a].kinds[k] := by
  unfold kdAt; rw [List.getElem?_eq_getElem ha]; simp [List.getElem?_eq_getElem hk]
theorem ceAt_eq {r : List Ce} {i : Nat} (h : i < r.length) : ceAt r i = r[i] := by
  unfold ceAt; rw [List.getElem?_eq_getElem h]; rfl

/-- A place of a profile, an agent, a report. -/
structure Spot (g : Gm) (r : List Ce) (a n : Nat) : Prop where
  play : Play g r
  ha : a < g.agents.length
  hn : n < r.length

theorem Spot.prof {g : Gm} {r : List Ce} {a n : Nat} (h : Spot g r a n) : isProf g (atG g n) := at_isProf (by have := h.hn; have := h.play.good.2.2.1; omega)
theorem Spot.kof {g : Gm} {r : List Ce} {a n : Nat} (h : Spot g r a n) : (atG g n)[a]? = some (kOf g n a : Int) ∧ kOf g n a < (g.agents[a]'h.ha).kinds.length := by
  obtain ⟨A, x, e1, e2, e3, e4⟩ := h.prof.2 a h.ha
  rw [List.getElem?_eq_getElem h.ha] at e1
  obtain rfl := Option.some.inj e1
  unfold kOf
  rw [e2, Option.getD_some]
  exact ⟨by rw [Int.toNat_of_nonneg e3], by omega⟩
theorem Spot.put {g : Gm} {r : List Ce} {a n : Nat} (h : Spot g r a n) {told : Nat} (ht : told < (g.agents[a]'h.ha).kinds.length) : isProf g (putP (atG g n) a told) :=
  put_isProf h.prof (List.getElem?_eq_getElem h.ha) (by omega) (by omega)
theorem Spot.toAt {g : Gm} {r : List Ce} {a n : Nat} (h : Spot g r a n) {told : Nat} (ht : told < (g.agents[a]'h.ha).kinds.length) : whr g (putP (atG g n) a told) = (Sh.toAt g n a told : Int) ∧ Sh.toAt g n a told < r.length := by
  obtain ⟨h1, h2⟩ := whrTo_le (g := g) (p := putP (atG g n) a told) g.agents.length (Nat.le_refl _) (h.put ht).2
  rw [List.take_length, ← h.play.good.2.2.1] at h2
  have h1 : 0 ≤ whr g (putP (atG g n) a told) := h1
  have h2 : whr g (putP (atG g n) a told) < (r.length : Int) := h2
  unfold Sh.toAt
  omega
theorem Spot.pair {g : Gm} {r : List Ce} {a n : Nat} (h : Spot g r a n) {m : Nat} (hm : m < r.length) {k : Nat} (hk : k < (g.agents[a]'h.ha).kinds.length) : Pair (r[m]) ((g.agents[a]'h.ha).kinds[k]) a := by
  obtain ⟨c1, c2, c3⟩ := h.play.ce (List.getElem_mem hm)
  obtain ⟨k1, k2⟩ := h.play.kd (List.getElem_mem h.ha) (List.getElem_mem hk)
  exact ⟨c1, k1, by omega, by have := (sizeOk_all h.play.good.1).2.1; omega, by have := h.ha; omega⟩

set_option maxRecDepth 20000 in
theorem hasC_s (g : Gm) (c : Ce) (a k : Nat) (ha : a < g.agents.length) (hk : k < g.agents[a].kinds.length) (hp : Pair c g.agents[a].kinds[k] a) :
    CallsS Tryz.prog 61 [gmS g, ceS c, .one (.int .i64 (a : Int)), .one (.int .i64 (k : Int))] (.v (fS (hasQ c g.agents[a].kinds[k] a))) := by
  obtain ⟨d1, d2, d3⟩ := hp.dot
  obtain ⟨p1, p2⟩ := hp.payQ
  have h3 := hp.has
  obtain ⟨c1, z1⟩ := cap_mz (show mz (sumQ (dotL c.lot g.agents[a].kinds[k].worth)) ≤ 2048 by omega)
  obtain ⟨c2, z2⟩ := cap_mz (show mz (hasQ c g.agents[a].kinds[k] a) ≤ 2048 by omega)
  have hpl := hp.pay
  have hdo := dotF_s c.lot g.agents[a].kinds[k].worth 31 hp.cf.ok.2.2.1 hp.kf.ok.2.2.2.2 hp.len d1 (by omega)
  have hsu := subR_s (frQ (sumQ (dotL c.lot g.agents[a].kinds[k].worth))) c.pay[a] (frQ_ok (by omega)) (hp.cf.ok.2.2.2 _ (List.getElem_mem hpl))
  rw [fix_frQ z1, ← p1, show cap (sumQ (dotL c.lot g.agents[a].kinds[k].worth) - payQ c a) = hasQ c g.agents[a].kinds[k] a from c2, frS_frQ] at hsu
  refine calls Tryz.func61 rfl (by rfl) (by rfl) (by kernel_rfl) ?_
  simp -dsimp -implicitDefEqProofs [Tryz.f61, ha, hk]
  refine eCall.of hdo (by simp) ?_
  simp -dsimp -implicitDefEqProofs [hpl]
  refine eCall.of hsu (by simp) ?_
  simp -dsimp -implicitDefEqProofs





theorem Spot.gain_mz {g : Gm} {r : List Ce} {a n : Nat} (h : Spot g r a n) {told : Nat} (ht : told < (g.agents[a]'h.ha).kinds.length) : mz (gainQ g r a n told) ≤ 445 := by
  obtain ⟨k1, k2⟩ := h.kof
  obtain ⟨t1, t2⟩ := h.toAt ht
  unfold gainQ
  rw [kdAt_eq h.ha k2, ceAt_eq t2, ceAt_eq h.hn]
  have h1 := (h.pair t2 k2).has
  have h2 := (h.pair h.hn k2).has
  have := mz_sub (hasQ r[Sh.toAt g n a told] ((g.agents[a]'h.ha).kinds[kOf g n a]) a) (hasQ (r[n]'h.hn) ((g.agents[a]'h.ha).kinds[kOf g n a]) a)
  omega

end Go.Proofs.YtglhjjokijdagaaGreat.Sh

/- Lies as data; tables. -/
namespace Go.Proofs.YtglhjjokijdagaaGreat.Sh
open Go Go.RowKit

theorem whrTo_at {g : Gm} : ∀ (j P : Nat) (tl : List Int), j ≤ g.agents.length → P < prodR ((szs g).take j).reverse → whrTo g (atR ((szs g).take j).reverse P ++ tl) j = P
  | 0, P, tl, _, h => by
    have : prodR ((szs g).take 0).reverse = 1 := rfl
    have : P = 0 := by omega
    subst this; rfl
  | j + 1, P, tl, hj, h => by
    have a1 : j < g.agents.length := hj
    have hrev : ((szs g).take (j + 1)).reverse = g.agents[j].kinds.length :: ((szs g).take j).reverse := by
      rw [takeSnoc (szs g) j (by simp [szs]; omega), List.reverse_append]; simp [szs]
    rw [hrev] at h ⊢
    rw [prodR] at h
    rw [atR, List.append_assoc]
    have hn : 0 < g.agents[j].kinds.length := by
      rcases Nat.eq_zero_or_pos g.agents[j].kinds.length with e | e
      · rw [e] at h; omega
      · exact e
    have ih := whrTo_at (g := g) j (P / g.agents[j].kinds.length) ([((P % g.agents[j].kinds.length : Nat) : Int)] ++ tl) (by omega) (Nat.div_lt_of_lt_mul (by rw [Nat.mul_comm]; exact h))
    have hl : (atR ((szs g).take j).reverse (P / g.agents[j].kinds.length)).length = j := by rw [atR_length]; simp [szs]; omega
    have hx : (atR ((szs g).take j).reverse (P / g.agents[j].kinds.length) ++ ([((P % g.agents[j].kinds.length : Nat) : Int)] ++ tl))[j]? = some ((P % g.agents[j].kinds.length : Nat) : Int) := by
      rw [List.getElem?_append_right (by omega), hl, Nat.sub_self]; rfl
    rw [whrTo_step (List.getElem?_eq_getElem a1) hx, ih, ← Int.natCast_mul, ← Int.natCast_add, Nat.div_add_mod']

theorem whr_at {g : Gm} {n : Nat} (h : n < prodK g.agents) : whr g (atG g n) = n := by
  have h1 := whrTo_at (g := g) g.agents.length n [] (Nat.le_refl _) (by rw [← prodR_take, List.take_length]; exact h)
  rw [List.append_nil, List.take_of_length_le (by simp [szs])] at h1
  exact h1

structure Li where
  agent : Int
  kind : Int
  told : Int
  prof : List Int
  gain : Rat
@[simp] def rowLi (l : Li) : List S1 := .int .i64 l.agent :: .int .i64 l.kind :: .int .i64 l.told :: intsS l.prof :: rowFr (frQ l.gain)
@[simp] def liS (l : Li) : SV := .agg (rowLi l)
@[simp] def lisS (l : List Li) : S1 := .sl true 7 (l.map rowLi)
def Li.ok (l : Li) : Prop := lenOk l.prof ∧ sz l.gain ≤ 4096

def lieAt (g : Gm) (r : List Ce) (a n told : Nat) : Li := ⟨a, kOf g n a, told, atG g n, gainQ g r a n told⟩
def noLi (a k : Int) : Li := ⟨a, k, -1, [], 0⟩

end Go.Proofs.YtglhjjokijdagaaGreat.Sh

/- Lists of lies; tables: open, after. -/
namespace Go.Proofs.YtglhjjokijdagaaGreat.Sh
open Go Go.RowKit



set_option maxRecDepth 20000 in
theorem open_s (g : Gm) (r : List Ce) (h : Seen g r) (hg : Good g r) : CallsS Tryz.prog 42 [gmS g, ruS r] (.tup [tbS g r, .one (.bool true)]) := by
  refine calls Tryz.func42 rfl (by rfl) (by rfl) (by kernel_rfl) ?_
  simp -dsimp -implicitDefEqProofs [Tryz.f42]
  refine eCall.of (rright_s g r h 0 (.inr (.inr ⟨hg, rfl⟩))) (by simp) ?_
  simp -dsimp -implicitDefEqProofs
  refine eCall.of (profiles_s g (h.fine ⟨hg.1, hg.2.1⟩)) (by simp) ?_
  simp -dsimp -implicitDefEqProofs

/-- An empty table. -/
@[simp] def tb0 : SV := .agg [.nils, .nils, .bool false, .bool false, .int .i64 0, .nils, .nils, .nils]

set_option maxRecDepth 20000 in
theorem openNo_s (g : Gm) (r : List Ce) (h : Seen g r) (hg : ¬ Good g r) : CallsS Tryz.prog 42 [gmS g, ruS r] (.tup [tb0, .one (.bool false)]) := by
  obtain ⟨e, he, e0⟩ := isGood_of g r
  have e1 : ¬ e = 0 := fun hh => hg (e0.1 hh)
  refine calls Tryz.func42 rfl (by rfl) (by rfl) (by kernel_rfl) ?_
  simp -dsimp -implicitDefEqProofs [Tryz.f42]
  refine eCall.of (rright_s g r h e he) (by simp) ?_
  simp -dsimp -implicitDefEqProofs [e1]

set_option maxRecDepth 20000 in
theorem after_s (g : Gm) (r : List Ce) (a n told : Nat) (h : Spot g r a n) (ht : told < (g.agents[a]'h.ha).kinds.length) :
    CallsS Tryz.prog 92 [tbS g r, .one (intsS (atG g n)), .one (.int .i64 (a : Int)), .one (.int .i64 (told : Int))] (.v (ceS (r[Sh.toAt g n a told]'(h.toAt ht).2))) := by
  have hf := h.play.fine
  obtain ⟨t1, t2⟩ := h.toAt ht
  have hal := atG_length g n
  have h4 := (sizeOk_all hf.sz).1
  have hpu := putp_length (atG g n) a told
  have hid := index_s g hf (putP (atG g n) a told) (by omega) _ (.inl ⟨h.put ht, rfl⟩)
  rw [t1] at hid
  refine calls Tryz.func92 rfl (by rfl) (by rfl) (by kernel_rfl) ?_
  simp -dsimp -implicitDefEqProofs [Tryz.f92]
  refine eCall.of (put_s (atG g n) a told (by omega)) (by simp) ?_
  simp -dsimp -implicitDefEqProofs
  refine eCall.of hid (by simp) ?_
  simp -dsimp -implicitDefEqProofs [t2]
end Go.Proofs.YtglhjjokijdagaaGreat.Sh

/- The profiles with their places, handed on one by one. -/
namespace Go.Proofs.YtglhjjokijdagaaGreat.Sh
open Go Go.RowKit

def itemP (L : List (List Int)) (i : Nat) : List SV := [.one (.int .i64 (i : Int)), .one (intsS (L.getD i []))]
def itemsP (L : List (List Int)) : List (List SV) := (List.range L.length).map (itemP L)

theorem itemsP_len (L : List (List Int)) : (itemsP L).length = L.length := by simp [itemsP]
theorem itemsP_take {L : List (List Int)} {i : Nat} (h : i < L.length) : (itemsP L).take (i + 1) = (itemsP L).take i ++ [itemP L i] := by
  rw [takeSnoc _ i (by rw [itemsP_len]; exact h)]; simp [itemsP]
theorem itemsP_get {L : List (List Int)} {i : Nat} (h : i < (itemsP L).length) : (itemsP L)[i] = itemP L i := by simp [itemsP]

set_option maxRecDepth 20000 in
theorem places1_it (g : Gm) (r : List Ce) (hl : (profs g).length ≤ 1048576) : IterS Tryz.prog 136 [.rp true (rowTb g r)] (itemsP (profs g)) := by
  refine iterS Tryz.func136 rfl (by rfl) (by kernel_rfl) (by rfl) (by kernel_rfl) ?_
  intro v J S base hy
  simp -dsimp -implicitDefEqProofs [Tryz.f136]
  refine sw_loop_e (fun p : {p : Nat // p ≤ (profs g).length} => (SS.of [(0, .v (.one (.val v))), (6, .v (.one (profsS (profs g)))), (7, I .i64 (profs g).length), (8, I .i64 p.1)] [] 0).wx ⟨[], J ((itemsP (profs g)).take p.1), base⟩)
    (fun p => (profs g).length - p.1) ⟨0, Nat.zero_le _⟩ (by kernel_rfl) (Le.toX (by simp) (by simp) (by simp) (by simp)) ?_
  rintro ⟨i, hi⟩
  by_cases a1 : i < (profs g).length
  · have wi : IntKind.i64.wrap ((i : Int) + 1) = ((i + 1 : Nat) : Int) := by rw [wrap_i64 _ (by omega) (by omega)]; rfl
    have hyi := hy ((itemsP (profs g)).take i) (itemP (profs g) i) (by rw [← itemsP_take a1]; exact List.take_prefix _ _)
    rw [← itemsP_take a1] at hyi
    simp -dsimp -implicitDefEqProofs [a1, wi]
    refine spec_yield (v := v) (args := itemP (profs g) i) (C1 := J ((itemsP (profs g)).take (i + 1))) (C2 := S) (by simp) (by simpa using hyi) (by simp [itemP, List.getElem?_eq_getElem a1]) ?_ ?_
    · simp -dsimp -implicitDefEqProofs
      exact Again.by ⟨i + 1, a1⟩ (Le.toX (by simp [wi]) (by simp) (by simp) (by simp)) (by simp; omega)
    · simp -dsimp -implicitDefEqProofs
  have hi2 : i = (profs g).length := by omega
  subst hi2
  simp -dsimp -implicitDefEqProofs
  exact .inl (by rw [List.take_of_length_le (by rw [itemsP_len]; exact Nat.le_refl _)])
set_option maxRecDepth 20000 in
theorem places_s (g : Gm) (r : List Ce) : CallsS Tryz.prog 90 [tbS g r] (.v (.one (.fn 136 [.rp true (rowTb g r)]))) := by
  refine calls Tryz.func90 rfl (by rfl) (by rfl) (by kernel_rfl) ?_
  simp -dsimp -implicitDefEqProofs [Tryz.f90]

set_option maxRecDepth 20000 in
theorem lies_s (g : Gm) (r : List Ce) (a : Nat) : CallsS Tryz.prog 43 [tbS g r, .one (.int .i64 (a : Int))] (.v (.one (.fn 89 [.rp true (rowTb g r), .rp true [.int .i64 (a : Int)]]))) := by
  refine calls Tryz.func43 rfl (by rfl) (by rfl) (by kernel_rfl) ?_
  simp -dsimp -implicitDefEqProofs [Tryz.f43]
end Go.Proofs.YtglhjjokijdagaaGreat.Sh

