/- A part of the proof: R172, R173, R174, R175 -/
import Derived.Test.YtaljbebkooppiaaGreatV19
import Derived.Test.YtaljbebkooppiaaGreatV22
import Derived.Test.YtaljbebkooppiaaGreatV10
set_option linter.unusedSimpArgs false
set_option linter.unusedVariables false
set_option linter.unusedSectionVars false
namespace Go.Proofs.YtaljbebkooppiaaGreat.Sh
open Go Go.RowKit
def payV (values : List FR) (n who p : Nat) : List FR := (List.range n).map fun i => if i = who then fxF (values.getD p ⟨false, [], []⟩) else frQ 0
theorem payV_len (values : List FR) (n who p : Nat) : (payV values n who p).length = n := by simp [payV]
def endC (values : List FR) (n who p : Nat) : Vn := ⟨-1, [], 0, 0, (who : Int) + 1, payV values n who p⟩
@[simp] def rowCl (values : List FR) (nodes : S1) (n : Nat) : List S1 := [frsS values, nodes, .int .i64 (n : Int)]
set_option maxRecDepth 20000 in
set_option maxHeartbeats 1000000 in
theorem vcend_s (values : List FR) (hv : ∀ f ∈ values, f.ok) (n who p : Nat) (hn : n ≤ 3) (hw : who < n) (hp : p < values.length) (nodes : List Vn) (hl : nodes.length ≤ 1073741824) :
    CallsX Tryz.prog 113 [.one (.mp 0 0), .one (.int .i64 (who : Int)), .one (.int .i64 (p : Int))] [⟨88, rowCl values (.ms 1 0 nodes.length 6 true) n⟩, ⟨110, flat rowVn nodes⟩] (.tup [])
      [some ⟨88, rowCl values (.ms 2 0 (nodes.length + 1) 6 true) n⟩, none, some ⟨110, flat rowVn (nodes ++ [endC values n who p])⟩] := by
  have n0 := vnum_s 0 (by decide) (by decide)
  have hok := hv _ (List.getElem_mem hp)
  have hfx := ffix_s values[p] hok
  have ww : IntKind.i64.wrap ((who : Int) + 1) = (who : Int) + 1 := wrap_i64 _ (by omega) (by omega)
  have hgd : values.getD p ⟨false, [], []⟩ = values[p] := by simp [hp]
  refine callsX Tryz.func113 rfl (by rfl) (by rfl) (by kernel_rfl) (by simp) ?_
  simp -dsimp -implicitDefEqProofs [Tryz.f113]
  refine sw_cut (fun c : Nat => SS.of [(0, .v (.one (.mp 0 0))), (6, .v (.one (.mp 2 0)))] [(0, ⟨88, rowCl values (.ms 1 0 nodes.length 6 true) n⟩), (1, ⟨110, flat rowVn nodes⟩), (2, ⟨110, rowVn (endC values n who p)⟩)] (c + 6)) ?_ ?_
  · refine sw_loop_e (fun q : {q : Nat × Nat // q.1 ≤ n} => SS.of [(0, .v (.one (.mp 0 0))), (1, I .i64 who), (2, I .i64 p), (6, .v (.one (.mp 2 0))), (15, I .i64 n), (16, I .i64 q.1.1)]
      (([(0, ⟨88, rowCl values (.ms 1 0 nodes.length 6 true) n⟩), (1, ⟨110, flat rowVn nodes⟩)] : List (Nat × SObj)) ++ (if q.1.1 = 0 then [(2, ⟨110, [.int .i64 (-1), .nils, .int .i64 0, .int .i64 0, .int .i64 ((who : Int) + 1), .nils]⟩)] else [(2, ⟨110, [.int .i64 (-1), .nils, .int .i64 0, .int .i64 0, .int .i64 ((who : Int) + 1), .ms (q.1.2 + 5) 0 q.1.1 3 true]⟩), (q.1.2 + 5, ⟨26, flat rowFr ((payV values n who p).take q.1.1)⟩)] : List (Nat × SObj))) (q.1.2 + 6))
      (fun q => n - q.1.1) ⟨(0, 0), Nat.zero_le _⟩ (by kernel_rfl) (Le.to (by simp) (by simp [ww]) (by simp)) ?_
    rintro ⟨⟨i, c⟩, hi⟩
    simp only at hi
    have hpl := payV_len values n who p
    by_cases a1 : i < n
    · have wi : IntKind.i64.wrap ((i : Int) + 1) = ((i + 1 : Nat) : Int) := by rw [wrap_i64 _ (by omega) (by omega)]; rfl
      have hgi : (payV values n who p)[i]'(by omega) = if i = who then fxF values[p] else frQ 0 := by
        simp only [payV, List.getElem_map, List.getElem_range, hgd]
      have hfl := flat_snoc (f := rowFr) (payV values n who p)[i] ((payV values n who p).take i)
      rw [← takeSnoc (payV values n who p) i (by omega), hgi] at hfl
      have htl : min i (payV values n who p).length = i := by omega
      by_cases e : i = who
      · rw [if_pos e] at hfl
        subst e
        by_cases i0 : i = 0
        · subst i0
          have hif : ∀ {α : Type} (x y : α), (if 0 = 0 then x else y) = x := fun x y => if_pos rfl
          rw [List.take_zero, flat_nil, List.nil_append] at hfl
          simp [fxF, frQ, ng] at hfl
          simp -dsimp -implicitDefEqProofs [hif, a1, hp]
          refine eCall.of n0 (by simp) ?_
          simp -dsimp -implicitDefEqProofs [hif, hp]
          refine eCall.of hfx (by simp) ?_
          simp -dsimp -implicitDefEqProofs [hif, slots]
          exact Again.by ⟨(1, c + 3), a1⟩ (Le.to (by simp [i64_1]) (by simp [hfl]) (by simp)) (by simp <;> omega)
        · have hif : ∀ {α : Type} (x y : α), (if i = 0 then x else y) = y := fun x y => if_neg i0
          simp [fxF, frQ, ng] at hfl
          simp -dsimp -implicitDefEqProofs [hif, a1, hp]
          refine eCall.of n0 (by simp) ?_
          simp -dsimp -implicitDefEqProofs [hif, hp]
          refine eCall.of hfx (by simp) ?_
          simp -dsimp -implicitDefEqProofs [hif, slots, htl]
          refine ⟨by omega, ?_⟩
          exact Again.by ⟨(i + 1, c + 3), a1⟩ (Le.to (by simp [wi]) (by simp [hfl]) (by simp)) (by simp <;> omega)
      · rw [if_neg e] at hfl
        have e' : ¬ (i : Int) = (who : Int) := by omega
        by_cases i0 : i = 0
        · subst i0
          have hif : ∀ {α : Type} (x y : α), (if 0 = 0 then x else y) = x := fun x y => if_pos rfl
          have e'' : ¬ (0 : Int) = (who : Int) := by omega
          rw [List.take_zero, flat_nil, List.nil_append] at hfl
          simp [frQ, ng] at hfl
          simp -dsimp -implicitDefEqProofs [hif, a1, e, e', e'']
          refine eCall.of n0 (by simp) ?_
          simp -dsimp -implicitDefEqProofs [hif, slots, e, e', e'']
          exact Again.by ⟨(1, c + 3), a1⟩ (Le.to (by simp [i64_1]) (by simp [hfl]) (by simp)) (by simp <;> omega)
        · have hif : ∀ {α : Type} (x y : α), (if i = 0 then x else y) = y := fun x y => if_neg i0
          simp [frQ, ng] at hfl
          simp -dsimp -implicitDefEqProofs [hif, a1, e, e']
          refine eCall.of n0 (by simp) ?_
          simp -dsimp -implicitDefEqProofs [hif, slots, htl, e, e']
          refine ⟨by omega, ?_⟩
          exact Again.by ⟨(i + 1, c + 3), a1⟩ (Le.to (by simp [wi]) (by simp [hfl]) (by simp)) (by simp <;> omega)
    have hi2 : i = n := by omega
    subst hi2
    have hif : ∀ {α : Type} (x y : α), (if i = 0 then x else y) = y := fun x y => if_neg (by omega)
    have htk : (payV values i who p).take i = payV values i who p := List.take_of_length_le (by omega)
    have hro := rowsOf_flat (f := rowFr) (payV values i who p) i hpl.symm
    simp -dsimp -implicitDefEqProofs [hif, htk]
    exact Cut.by c (Le.fzF [c + 5] (Le.to (by simp [hif]) (by simp [hif, endC, hpl, hro]) (by simp [hif])))
  · intro c
    have hfl := flat_snoc (f := rowVn) (endC values n who p) nodes
    obtain ⟨X, hX⟩ : ∃ X, X = nodes ++ [endC values n who p] := ⟨_, rfl⟩
    rw [← hX] at hfl ⊢
    simp [endC] at hfl
    simp -dsimp -implicitDefEqProofs [endC, slots]
    refine ⟨by omega, ?_⟩
    exact RetX.by [] [c + 6] (by simp) (by simp) (by simp) (by simp [hfl])
end Go.Proofs.YtaljbebkooppiaaGreat.Sh

namespace Go.Proofs.YtaljbebkooppiaaGreat.Sh
open Go Go.RowKit
def insF (n : Nat) (last : List Int) (i : Nat) : List Nat := (List.range n).filter fun j => decide (i ≤ j) && decide (0 ≤ lastAt last j)
theorem insF_zero (n : Nat) (last : List Int) : insF n last 0 = insC n last := by unfold insF insC; exact List.filter_congr fun j _ => by simp
theorem insF_end (n : Nat) (last : List Int) : insF n last n = [] := by
  unfold insF
  rw [List.filter_eq_nil_iff]
  intro j hj
  rw [List.mem_range] at hj
  simp; omega
theorem insF_step {n : Nat} (hn : n ≤ 3) (last : List Int) {i : Nat} (hi : i < n) : insF n last i = if 0 ≤ lastAt last i then i :: insF n last (i + 1) else insF n last (i + 1) := by
  unfold insF
  have e : ∀ m, m ≤ n → ((List.range m).filter fun j => decide (i ≤ j) && decide (0 ≤ lastAt last j)) = if i < m ∧ 0 ≤ lastAt last i then i :: ((List.range m).filter fun j => decide (i + 1 ≤ j) && decide (0 ≤ lastAt last j)) else ((List.range m).filter fun j => decide (i + 1 ≤ j) && decide (0 ≤ lastAt last j)) := by
    intro m
    induction m with
    | zero => intro _; simp
    | succ m ih =>
      intro hm
      rw [List.range_succ, List.filter_append, List.filter_append, ih (by omega)]
      by_cases c1 : i < m
      · have e1 : decide (i ≤ m) = true := decide_eq_true (by omega)
        have e2 : decide (i + 1 ≤ m) = true := decide_eq_true (by omega)
        by_cases c2 : 0 ≤ lastAt last i
        · rw [if_pos ⟨c1, c2⟩, if_pos ⟨by omega, c2⟩]; simp [List.filter_cons, show i ≤ m by omega, show i + 1 ≤ m by omega]
        · rw [if_neg (fun h => c2 h.2), if_neg (fun h => c2 h.2)]; simp [List.filter_cons, show i ≤ m by omega, show i + 1 ≤ m by omega]
      · by_cases c3 : i = m
        · subst c3
          by_cases c2 : 0 ≤ lastAt last i
          · rw [if_neg (fun h => c1 h.1), if_pos ⟨by omega, c2⟩]
            have : ((List.range i).filter fun j => decide (i + 1 ≤ j) && decide (0 ≤ lastAt last j)) = [] := by
              rw [List.filter_eq_nil_iff]; intro j hj; rw [List.mem_range] at hj; simp; omega
            rw [this]; simp [c2]
          · rw [if_neg (fun h => c2 h.2), if_neg (fun h => c2 h.2)]; simp [c2]
        · rw [if_neg (fun h => c1 h.1), if_neg (fun h => by omega)]
          have e1 : decide (i ≤ m) = false := decide_eq_false (by omega)
          have e2 : decide (i + 1 ≤ m) = false := decide_eq_false (by omega)
          simp [e1, e2]
  rw [e n (Nat.le_refl _)]
  by_cases c2 : 0 ≤ lastAt last i
  · rw [if_pos ⟨hi, c2⟩, if_pos c2]
  · rw [if_neg (fun h => c2 h.2), if_neg c2]
def headI : List Nat → Int
  | [] => -1
  | x :: _ => (x : Int)
theorem insC_mem {n : Nat} {last : List Int} {i : Nat} : i ∈ insC n last ↔ i < n ∧ 0 ≤ lastAt last i := by
  unfold insC; rw [List.mem_filter, List.mem_range, decide_eq_true_iff]
theorem firstC_mem {n : Nat} {last : List Int} (h : insC n last ≠ []) : firstC n last < n ∧ 0 ≤ lastAt last (firstC n last) ∧ headI (insC n last) = (firstC n last : Int) := by
  unfold firstC
  cases e : insC n last with
  | nil => exact absurd e h
  | cons x l =>
    have := insC_mem.1 (show x ∈ insC n last by rw [e]; simp)
    exact ⟨this.1, this.2, rfl⟩
theorem lastAt_get {last : List Int} {i : Nat} (h : i < last.length) : lastAt last i = last[i] := by unfold lastAt; rw [List.getElem?_eq_getElem h]; rfl
theorem insC_le (n : Nat) (last : List Int) : (insC n last).length ≤ n := filter_range_le _ n
theorem clkC_len (m n : Nat) : ∀ (f v w : Nat) (last : List Int) (b : Nat), (clkC m n f v w last b).length + 1 ≤ 2 ^ (f + 1)
  | 0, _, _, _, _ => by simp [clkC]
  | f + 1, v, w, last, b => by
    unfold clkC
    have h2 : 2 ≤ 2 ^ (f + 1 + 1) := by
      have := Nat.pow_le_pow_right (n := 2) (by decide) (show 1 ≤ f + 1 + 1 by omega)
      simpa using this
    split
    · simpa using h2
    · split
      · simpa using h2
      · rename_i v' w' _
        have h1 := clkC_len m n f v' w' (last.set w' (v' : Int)) (b + 1)
        have h3 := clkC_len m n f v' w' (last.set w' (-1)) (b + 1 + (clkC m n f v' w' (last.set w' (v' : Int)) (b + 1)).length)
        simp only [List.length_cons, List.length_append]
        rw [Nat.pow_succ 2 (f + 1)]
        omega
theorem flat_kids (L : List Vn) (i : Nat) (h : i < L.length) (y o : Int) : ((flat rowVn L).set (i * 6 + 2) (.int .i64 y)).set (i * 6 + 3) (.int .i64 o) = flat rowVn (L.set i { L[i] with yes := y, no := o }) := by
  have hl : (i + 1) * 6 ≤ L.length * 6 := Nat.mul_le_mul_right 6 h
  rw [flat_set (f := rowVn) L i _ h]
  have e : flat rowVn L = (flat rowVn L).take (i * 6) ++ (rowVn L[i] ++ (flat rowVn L).drop (i * 6 + 6)) := by
    have := flat_row (f := rowVn) L i h
    rw [← this, ← List.drop_drop, List.take_append_drop, List.take_append_drop]
  have ht : ((flat rowVn L).take (i * 6)).length = i * 6 := by rw [List.length_take, flat_len (e := 6)]; omega
  have key : ∀ (A B : List S1) (k : Nat) (x : S1), A.length = i * 6 → (A ++ B).set (i * 6 + k) x = A ++ B.set k x := fun A B k x hA => by
    rw [List.set_append_right _ _ (by omega), hA, Nat.add_sub_cancel_left]
  conv => lhs; rw [e]
  rw [key _ _ 2 _ ht, key _ _ 3 _ ht]
  simp
abbrev toV (values : List FR) (n : Nat) (x : Cn) : Vn := vnC values.length n (payV values n) x
structure LastOk (m n : Nat) (last : List Int) : Prop where
  len : last.length = 3
  lt : ∀ i (h : i < last.length), -1 ≤ last[i] ∧ last[i] < (m : Int)
  ne : insC n last ≠ []
theorem LastOk.at {m n : Nat} {last : List Int} (h : LastOk m n last) {i : Nat} (hi : i < 3) : lastAt last i = last[i]'(by rw [h.len]; exact hi) := lastAt_get (by rw [h.len]; exact hi)
theorem lastAt_set {last : List Int} {i j : Nat} (x : Int) (h : i < last.length) : lastAt (last.set i x) j = if j = i then x else lastAt last j := by
  unfold lastAt
  rw [List.getElem?_set]
  by_cases e : i = j
  · subst e; rw [if_pos rfl, if_pos rfl, if_pos h]; rfl
  · rw [if_neg e, if_neg (fun e' => e e'.symm)]
theorem LastOk.stay {m n : Nat} {last : List Int} (h : LastOk m n last) (hn : n ≤ 3) {w v : Nat} (hw : w < n) (hv : v < m) : LastOk m n (last.set w (v : Int)) := by
  refine ⟨by simp [h.len], fun i hi => ?_, ?_⟩
  · rw [List.getElem_set]
    split
    · omega
    · exact h.lt i (by simpa using hi)
  · have : w ∈ insC n (last.set w (v : Int)) := insC_mem.2 ⟨hw, by rw [lastAt_set _ (by rw [h.len]; omega), if_pos rfl]; omega⟩
    exact List.ne_nil_of_mem this
theorem LastOk.leave {m n : Nat} {last : List Int} (h : LastOk m n last) (hn : n ≤ 3) (h2 : 1 < (insC n last).length) {w : Nat} (hw : w < n) : LastOk m n (last.set w (-1)) := by
  refine ⟨by simp [h.len], fun i hi => ?_, ?_⟩
  · rw [List.getElem_set]
    split
    · have := (h.lt i (by simpa using hi)).2; constructor <;> omega
    · exact h.lt i (by simpa using hi)
  · have : ∃ x ∈ insC n last, x ≠ w := by
      refine Classical.byContradiction fun hc => ?_
      have hall : ∀ x ∈ insC n last, x = w := fun x hx => Classical.byContradiction fun hne => hc ⟨x, hx, hne⟩
      have hnd : (insC n last).Nodup := List.Pairwise.filter _ List.nodup_range
      match e : insC n last, hnd with
      | [], _ => rw [e] at h2; simp at h2
      | [x], _ => rw [e] at h2; simp at h2
      | x :: y :: l, hnd =>
        have e1 := hall x (by rw [e]; simp)
        have e2 := hall y (by rw [e]; simp)
        rw [List.nodup_cons] at hnd
        exact hnd.1 (by rw [e1, ← e2]; simp)
    obtain ⟨x, hx, hne⟩ := this
    have hx2 := insC_mem.1 hx
    have : x ∈ insC n (last.set w (-1)) := insC_mem.2 ⟨hx2.1, by rw [lastAt_set _ (by rw [h.len]; omega), if_neg hne]; exact hx2.2⟩
    exact List.ne_nil_of_mem this
end Go.Proofs.YtaljbebkooppiaaGreat.Sh

namespace Go.Proofs.YtaljbebkooppiaaGreat.Sh
open Go Go.RowKit
@[simp] def lastS (last : List Int) : SV := .agg (last.map (S1.int .i64))
theorem intsSet {l : List Int} {k : Nat} {x : Int} {s : S1} (h : s ∈ (l.map (S1.int .i64)).set k (S1.int .i64 x)) : ∃ i, s = S1.int .i64 i := by
  rcases List.mem_or_eq_of_mem_set h with h | h
  · obtain ⟨i, _, e⟩ := List.mem_map.1 h; exact ⟨i, e.symm⟩
  · exact ⟨x, h⟩
theorem fzInts (l : List Int) (k : Nat) (x : Int) (σ : SS) : List.foldl SS.fz1 σ ((l.map (S1.int .i64)).set k (S1.int .i64 x)) = σ := by
  have : ∀ (L : List S1) (σ : SS), (∀ s ∈ L, ∃ i, s = S1.int .i64 i) → List.foldl SS.fz1 σ L = σ := by
    intro L
    induction L with
    | nil => intro σ _; rfl
    | cons a L ih =>
      intro σ h
      obtain ⟨i, rfl⟩ := h a (by simp)
      exact ih σ fun s hs => h s (by simp [hs])
  exact this _ σ fun s hs => intsSet hs
theorem clInts (l : List Int) (k : Nat) (x : Int) : ((l.map (S1.int .i64)).set k (S1.int .i64 x)).all S1.closed = true := by
  rw [List.all_eq_true]
  intro s hs
  obtain ⟨i, rfl⟩ := intsSet hs
  rfl
theorem tkInts {l : List Int} (h : l.length = 3) (k : Nat) (x : Int) : ((l.map (S1.int .i64)).set k (S1.int .i64 x)).take 3 = (l.map (S1.int .i64)).set k (S1.int .i64 x) := List.take_of_length_le (by simp [h])
set_option maxRecDepth 20000 in
set_option maxHeartbeats 4000000 in
theorem vgrowC_s (values : List FR) (hv : ∀ f ∈ values, f.ok) (n : Nat) (hn : n ≤ 3) (hm : values.length ≤ 20) : ∀ (f v w : Nat) (last : List Int) (nodes : List Vn), todoC values.length n v w < f → f ≤ 24 → v ≤ values.length → w ≤ n → LastOk values.length n last → nodes ≠ [] → nodes.length + 2 ^ (f + 1) ≤ 1073741824 →
    CallsX Tryz.prog 47 [.one (.mp 0 0), .one (.int .i64 (v : Int)), .one (.int .i64 (w : Int)), lastS last] [⟨88, rowCl values (.ms 1 0 nodes.length 6 true) n⟩, ⟨110, flat rowVn nodes⟩] (.v (.one (.int .i64 (nodes.length : Int))))
      [some ⟨88, rowCl values (.ms 2 0 (nodes ++ (clkC values.length n f v w last nodes.length).map (toV values n)).length 6 true) n⟩, none, some ⟨110, flat rowVn (nodes ++ (clkC values.length n f v w last nodes.length).map (toV values n))⟩]
  | 0, _, _, _, _, h, _, _, _, _, _, _ => absurd h (by omega)
  | f + 1, v, w, last, nodes, hf, hf24, hvm, hwn, hL, hne, hsz => by
    have hlen3 := hL.len
    have hpow : 2 ^ (f + 1 + 1) = 2 ^ (f + 1) + 2 ^ (f + 1) := by rw [Nat.pow_succ]; omega
    have hp1 : 2 ≤ 2 ^ (f + 1) := by
      have := Nat.pow_le_pow_right (n := 2) (by decide) (show 1 ≤ f + 1 by omega)
      simpa using this
    obtain ⟨c1, c2, c3⟩ := firstC_mem hL.ne
    have hcl := insC_le n last
    have htk3 : (last.map (S1.int .i64)).take 3 = last.map (S1.int .i64) := List.take_of_length_le (by simp [hlen3])
    refine callsXM [19] Tryz.func47 rfl (by rfl) (by rfl) (by kernel_rfl) (by simp) ?_
    simp -dsimp -implicitDefEqProofs [Tryz.f47]
    refine sw_loop_e (fun q : {q : Nat // q ≤ n} => SS.of [(0, .v (.one (.mp 0 0))), (1, I .i64 v), (2, I .i64 w), (7, .v (.one (.mp 2 0))), (9, I .i64 nodes.length), (10, I .i64 (headI (insF n last q.1))), (11, I .i64 (insF n last q.1).length), (12, I .i64 ((q.1 : Int) - 1))] [(0, ⟨88, rowCl values (.ms 1 0 nodes.length 6 true) n⟩), (1, ⟨110, flat rowVn nodes⟩), (2, ⟨89, last.map (S1.int .i64)⟩)] 3)
      (fun q => q.1) ⟨n, Nat.le_refl _⟩ (by kernel_rfl) (Le.to (by simp [insF_end, headI]; exact wrap_i64 _ (by omega) (by omega)) (by simp) (by simp)) ?_
    rintro ⟨i, hi⟩
    by_cases i0 : 0 < i
    · obtain ⟨j, rfl⟩ : ∃ j, i = j + 1 := ⟨i - 1, by omega⟩
      have e1 : (((j + 1 : Nat) : Int) - 1) = (j : Int) := by omega
      have j3 : j < 3 := by omega
      have j3' : (j : Int) < 3 := by omega
      have jl : j < last.length := by omega
      have hst := insF_step hn last (i := j) (by omega)
      rw [hL.at j3] at hst
      have wj : IntKind.i64.wrap ((j : Int) - 1) = (j : Int) - 1 := wrap_i64 _ (by omega) (by omega)
      have hil : (insF n last (j + 1)).length ≤ n := filter_range_le _ n
      have wl : IntKind.i64.wrap (((insF n last (j + 1)).length : Int) + 1) = ((insF n last (j + 1)).length : Int) + 1 := wrap_i64 _ (by omega) (by omega)
      rw [e1]
      by_cases c : 0 ≤ last[j]
      · rw [if_pos c] at hst
        simp -dsimp -implicitDefEqProofs [j3, j3', jl, hlen3, c]
        exact Again.by ⟨j, by omega⟩ (Le.to (by simp [hst, headI, wj, wl]) (by simp) (by simp)) (by simp)
      · rw [if_neg c] at hst
        simp -dsimp -implicitDefEqProofs [j3, j3', jl, hlen3, c]
        exact Again.by ⟨j, by omega⟩ (Le.to (by simp [hst, wj]) (by simp) (by simp)) (by simp)
    obtain rfl : i = 0 := by omega
    rw [insF_zero, c3]
    simp -dsimp -implicitDefEqProofs
    have hfl : firstC n last < last.length := by omega
    have hf3 : firstC n last < 3 := by omega
    have hla := hL.at hf3
    rw [hla] at c2
    have hlm := (hL.lt _ hfl).2
    have hclk : clkC values.length n (f + 1) v w last nodes.length = if (insC n last).length ≤ 1 then [⟨false, firstC n last, (lastAt last (firstC n last)).toNat, 0, 0⟩] else match nextC values.length n last (todoC values.length n v w + 1) v w with
      | none => [⟨false, firstC n last, values.length - 1, 0, 0⟩]
      | some (v', w') =>
        ⟨true, w', v', nodes.length + 1, nodes.length + 1 + (clkC values.length n f v' w' (last.set w' (v' : Int)) (nodes.length + 1)).length⟩ :: (clkC values.length n f v' w' (last.set w' (v' : Int)) (nodes.length + 1) ++ clkC values.length n f v' w' (last.set w' (-1)) (nodes.length + 1 + (clkC values.length n f v' w' (last.set w' (v' : Int)) (nodes.length + 1)).length)) := rfl
    refine sw_cut (fun y : {p : Nat // p < values.length ∧ clkC values.length n (f + 1) v w last nodes.length = [⟨false, firstC n last, p, 0, 0⟩] ∧ (((insC n last).length ≤ 1 ∧ last[firstC n last] = (p : Int)) ∨ (1 < (insC n last).length ∧ p = values.length - 1))} => SS.of [(0, .v (.one (.mp 0 0))), (7, .v (.one (.mp 2 0))), (9, I .i64 nodes.length), (10, I .i64 (firstC n last)), (11, I .i64 (insC n last).length)] [(0, ⟨88, rowCl values (.ms 1 0 nodes.length 6 true) n⟩), (1, ⟨110, flat rowVn nodes⟩), (2, ⟨89, last.map (S1.int .i64)⟩)] 3) ?_ ?_
    rotate_left
    · rintro ⟨p, hp, hck, hpr⟩
      have hend := vcend_s values hv n (firstC n last) p hn c1 hp nodes (by omega)
      have wm : IntKind.i64.wrap ((values.length : Int) - 1) = ((values.length - 1 : Nat) : Int) := by rw [wrap_i64 _ (by omega) (by omega)]; omega
      have f3' : (firstC n last : Int) < 3 := by omega
      have hlen1 : (nodes ++ [endC values n (firstC n last) p]).length = nodes.length + 1 := by simp
      rw [hck, show List.map (toV values n) [⟨false, firstC n last, p, 0, 0⟩] = [endC values n (firstC n last) p] from rfl]
      show eM _ _ _ _ _ _
      rcases hpr with ⟨h1, h2⟩ | ⟨h1, h2⟩
      · have h1' : ¬ (1 : Int) < ((insC n last).length : Int) := by omega
        simp -dsimp -implicitDefEqProofs [hf3, f3', hfl, hlen3, h2, h1, h1']
        refine eCall.lend [0, 1] hend (by simp) (by simp) (by simp) ?_
        simp -dsimp -implicitDefEqProofs
        exact RetX.by [] [3] (by simp) (by simp) (by simp) (by simp)
      · have h1' : (1 : Int) < ((insC n last).length : Int) := by omega
        simp -dsimp -implicitDefEqProofs [hf3, f3', hfl, hlen3, h1, h1', wm]
        rw [← h2]
        refine eCall.lend [0, 1] hend (by simp) (by simp) (by simp) ?_
        simp -dsimp -implicitDefEqProofs
        exact RetX.by [] [3] (by simp) (by simp) (by simp) (by simp)
    refine sw_loop_m [19] (fun q : {q : Nat × Nat // q.1 ≤ values.length ∧ q.2 ≤ n ∧ todoC values.length n q.1 q.2 ≤ todoC values.length n v w ∧ nextC values.length n last (todoC values.length n q.1 q.2 + 1) q.1 q.2 = nextC values.length n last (todoC values.length n v w + 1) v w} => SS.of [(0, .v (.one (.mp 0 0))), (1, I .i64 q.1.1), (2, I .i64 q.1.2), (7, .v (.one (.mp 2 0))), (9, I .i64 nodes.length), (10, I .i64 (firstC n last)), (11, I .i64 (insC n last).length)] [(0, ⟨88, rowCl values (.ms 1 0 nodes.length 6 true) n⟩), (1, ⟨110, flat rowVn nodes⟩), (2, ⟨89, last.map (S1.int .i64)⟩)] 3)
      (fun q => todoC values.length n q.1.1 q.1.2) ⟨(v, w), hvm, hwn, Nat.le_refl _, rfl⟩ (by kernel_rfl) (Le.to (by simp) (by simp) (by simp)) ?_
    rintro ⟨⟨v', w'⟩, hv', hw', htd, hnx⟩
    simp only at hv' hw' htd hnx
    by_cases h1 : (insC n last).length ≤ 1
    · have h1' : ¬ (1 : Int) < ((insC n last).length : Int) := by omega
      rw [if_pos h1, hla] at hclk
      simp -dsimp -implicitDefEqProofs [h1, h1']
      exact Cut.by ⟨(last[firstC n last]).toNat, by omega, hclk, .inl ⟨h1, by omega⟩⟩ (Le.to (by simp) (by simp) (by simp))
    have h1' : (1 : Int) < ((insC n last).length : Int) := by omega
    have h1'' : 1 < (insC n last).length := by omega
    rw [if_neg h1] at hclk
    by_cases h2 : v' < values.length
    · have h2' : (v' : Int) < (values.length : Int) := by omega
      have ww : IntKind.i64.wrap ((w' : Int) - 1) = (w' : Int) - 1 := wrap_i64 _ (by omega) (by omega)
      by_cases w0 : w' = 0
      · subst w0
        have hn1 : nextC values.length n last (todoC values.length n v' 0 + 1) v' 0 = nextC values.length n last (todoC values.length n v' 0) (v' + 1) n := by
          conv => lhs; unfold nextC
          rw [if_pos h2]
        have wm1 : IntKind.i64.wrap (-1) = -1 := by decide
        have htt : todoC values.length n v' 0 = todoC values.length n (v' + 1) n + 1 := by
          unfold todoC
          have : values.length - v' = (values.length - (v' + 1)) + 1 := by omega
          rw [this, Nat.add_mul]; omega
        have wv : IntKind.i64.wrap ((v' : Int) + 1) = ((v' + 1 : Nat) : Int) := by rw [wrap_i64 _ (by omega) (by omega)]; rfl
        simp -dsimp -implicitDefEqProofs [h1, h1', h1'', h2, h2', wm1]
        exact Again.by ⟨(v' + 1, n), h2, Nat.le_refl _, by simp only; omega, by simp only; rw [← htt, ← hn1]; exact hnx⟩ (Le.to (by simp [wv]) (by simp) (by simp)) (by simp only; omega)
      · obtain ⟨k, rfl⟩ : ∃ k, w' = k + 1 := ⟨w' - 1, by omega⟩
        have hn1 : nextC values.length n last (todoC values.length n v' (k + 1) + 1) v' (k + 1) = if 0 ≤ lastAt last k then some (v', k) else nextC values.length n last (todoC values.length n v' (k + 1)) v' k := by
          conv => lhs; unfold nextC
          rw [if_pos h2]
        have hk3 : k < 3 := by omega
        have hk3' : (k : Int) < 3 := by omega
        have hkl : k < last.length := by omega
        have hk0 : ¬ (k : Int) < 0 := by omega
        have e1 : ((k + 1 : Nat) : Int) - 1 = (k : Int) := by omega
        have htt : todoC values.length n v' (k + 1) = todoC values.length n v' k + 1 := by unfold todoC; omega
        rw [hL.at hk3] at hn1
        have ww2 : IntKind.i64.wrap (k : Int) = (k : Int) := wrap_i64 _ (by omega) (by omega)
        by_cases c : last[k] < 0
        · rw [if_neg (by omega)] at hn1
          simp -dsimp -implicitDefEqProofs [h1, h1', h1'', h2, h2', ww2, hk0, hk3, hk3', hkl, hlen3, c]
          exact Again.by ⟨(v', k), hv', by simp only; omega, by simp only; omega, by simp only; rw [← htt, ← hn1]; exact hnx⟩ (Le.to (by simp) (by simp) (by simp)) (by simp only; omega)
        · rw [if_pos (by omega)] at hn1
          rw [hn1] at hnx
          rw [← hnx] at hclk
          simp only at hclk
          simp -dsimp -implicitDefEqProofs [h1, h1', h1'', h2, h2', ww2, hk0, hk3, hk3', hkl, hlen3, c]
          obtain ⟨pt, hpt⟩ : ∃ pt : List Int, pt = ((List.range values.length).drop v').map fun j : Nat => (j : Int) := ⟨_, rfl⟩
          have hptl : pt.length = values.length - v' := by rw [hpt]; simp
          have hptg : ∀ t (h : t < pt.length), pt[t] = ((v' + t : Nat) : Int) := fun t h => by subst hpt; simp
          refine sw_loop_e (fun q : {q : Nat × Nat // q.1 ≤ pt.length} => SS.of [(0, .v (.one (.mp 0 0))), (1, I .i64 v'), (2, I .i64 k), (7, .v (.one (.mp 2 0))), (9, I .i64 nodes.length), (13, if q.1.1 = 0 then .v (.one .nils) else .v (.one (.ms (q.1.2 + 4) 0 q.1.1 1 true))), (14, I .i64 ((v' + q.1.1 : Nat) : Int))]
              (([(0, ⟨88, rowCl values (.ms 1 0 nodes.length 6 true) n⟩), (1, ⟨110, flat rowVn nodes⟩), (2, ⟨89, last.map (S1.int .i64)⟩)] : List (Nat × SObj)) ++ (if q.1.1 = 0 then [] else [(q.1.2 + 4, ⟨3, flat rowInt (pt.take q.1.1)⟩)] : List (Nat × SObj))) (q.1.2 + 5))
            (fun q => pt.length - q.1.1) ⟨(0, 0), Nat.zero_le _⟩ (by kernel_rfl) (Le.to (by simp) (by simp) (by simp)) ?_
          rintro ⟨⟨t, d⟩, ht⟩
          simp only at ht
          by_cases a1 : t < pt.length
          · have wt : IntKind.i64.wrap (((v' + t : Nat) : Int) + 1) = ((v' + (t + 1) : Nat) : Int) := by rw [wrap_i64 _ (by omega) (by omega)]; omega
            have wt' : IntKind.i64.wrap ((v' : Int) + (t : Int) + 1) = ((v' : Int) + ((t : Int) + 1)) := by rw [wrap_i64 _ (by omega) (by omega)]; omega
            have hlt : (v' : Int) + (t : Int) < (values.length : Int) := by omega
            have hfl := flat_snoc (f := rowInt) pt[t] (pt.take t)
            rw [← takeSnoc pt t a1, hptg t a1] at hfl
            have htl : min t pt.length = t := by omega
            by_cases t0 : t = 0
            · subst t0
              have hif : ∀ {α : Type} (x y : α), (if 0 = 0 then x else y) = x := fun x y => if_pos rfl
              rw [List.take_zero, flat_nil, List.nil_append] at hfl
              simp at hfl
              have wt0 : IntKind.i64.wrap ((v' : Int) + 1) = (v' : Int) + 1 := wrap_i64 _ (by omega) (by omega)
              simp -dsimp -implicitDefEqProofs [hif, h2', slots]
              exact Again.by ⟨(1, d + 2), a1⟩ (Le.to (by simp [wt0]) (by simp [hfl]) (by simp)) (by simp <;> omega)
            · have hif : ∀ {α : Type} (x y : α), (if t = 0 then x else y) = y := fun x y => if_neg t0
              simp at hfl
              simp -dsimp -implicitDefEqProofs [hif, hlt, slots, htl]
              refine ⟨by omega, ?_⟩
              exact Again.by ⟨(t + 1, d + 2), a1⟩ (Le.to (by simp [wt']) (by simp [hfl]) (by simp)) (by simp <;> omega)
          have ht2 : t = pt.length := by omega
          subst ht2
          have hpne : ¬ pt = [] := fun e => by rw [e] at hptl; simp at hptl; omega
          have hif : ∀ {α : Type} (x y : α), (if pt.length = 0 then x else y) = y := fun x y => if_neg (by omega)
          have hlt : ¬ (v' : Int) + (pt.length : Int) < (values.length : Int) := by omega
          have hro := rowsOf_flat (f := rowInt) pt pt.length rfl
          obtain ⟨q0, hq0⟩ : ∃ q0 : Vn, q0 = ⟨(k : Int), pt, 0, 0, 0, []⟩ := ⟨_, rfl⟩
          have hfn := flat_snoc (f := rowVn) q0 nodes
          obtain ⟨nodes1, hn1'⟩ : ∃ nodes1, nodes1 = nodes ++ [q0] := ⟨_, rfl⟩
          rw [← hn1'] at hfn
          rw [hq0] at hfn
          simp at hfn
          have hn1l : nodes1.length = nodes.length + 1 := by rw [hn1']; simp
          simp -dsimp -implicitDefEqProofs [hif, hpne, hlt, slots, hro]
          refine ⟨by omega, ?_⟩
          refine sw_cutR (fun y : {y : Nat × Nat × Nat × Nat // 2 < y.1 ∧ y.1 < y.2.1 ∧ y.1 < y.2.2.1 ∧ y.2.1 ≠ y.2.2.1 ∧ y.2.1 < y.2.2.2 ∧ y.2.2.1 < y.2.2.2} => SS.of [(0, .v (.one (.mp 0 0))), (1, I .i64 v'), (2, I .i64 k), (9, I .i64 nodes.length), (15, .v (.one (.mp y.1.2.1 0))), (16, .v (.one (.mp y.1.2.2.1 0)))] [(0, ⟨88, rowCl values (.ms y.1.1 0 nodes1.length 6 true) n⟩), (y.1.1, ⟨110, flat rowVn nodes1⟩), (y.1.2.1, ⟨89, last.map (S1.int .i64)⟩), (y.1.2.2.1, ⟨89, last.map (S1.int .i64)⟩)] y.1.2.2.2) ?_ ?_
          · refine sw_draw_f 2 (pre := [_, _]) [(7, 15)] (by kernel_rfl) rfl rfl (by kernel_rfl) (by kernel_rfl) ?_
            simp -dsimp -implicitDefEqProofs [hlen3, htk3]
            have hp3 : putL [S1.int .i64 0, S1.int .i64 0, S1.int .i64 0] 0 (last.map (S1.int .i64)) = last.map (S1.int .i64) := by
              match last, hlen3 with
              | [_, _, _], _ => rfl
            exact ⟨Cut.by ⟨(d + 6, d + 7, d + 8, d + 9), by simp only; omega⟩ (Le.to (by simp [hn1l]) (by simp [hfn, hn1l, hp3]) (by simp)), Cut.by ⟨(d + 6, d + 8, d + 7, d + 9), by simp only; omega⟩ (Le.to (by simp [hn1l]) (by simp [hfn, hn1l, hp3]) (by simp))⟩
          · rintro ⟨⟨N', a, b, M⟩, y1, y2, y3, y4, y5, y6⟩
            simp only at y1 y2 y3 y4 y5 y6
            show eM _ _ _ _ _ _
            have hgk : todoC values.length n v' k < f := by omega
            have ylen := clkC_len values.length n f v' k (last.set k (v' : Int)) (nodes.length + 1)
            have ih1 := vgrowC_s values hv n hn hm f v' k (last.set k (v' : Int)) nodes1 hgk (by omega) hv' (by omega) (hL.stay hn (by omega) h2) (by rw [hn1']; simp) (by omega)
            rw [hn1l] at ih1
            obtain ⟨ys, hys⟩ : ∃ ys, ys = clkC values.length n f v' k (last.set k (v' : Int)) (nodes.length + 1) := ⟨_, rfl⟩
            rw [← hys] at ih1 ylen hclk
            obtain ⟨nodes2, hn2⟩ : ∃ nodes2, nodes2 = nodes1 ++ ys.map (toV values n) := ⟨_, rfl⟩
            have hn2l : nodes2.length = nodes.length + 1 + ys.length := by rw [hn2]; simp [hn1l]
            rw [← hn2] at ih1
            have ih2 := vgrowC_s values hv n hn hm f v' k (last.set k (-1)) nodes2 hgk (by omega) hv' (by omega) (hL.leave hn h1'' (by omega)) (by rw [hn2, hn1']; simp) (by omega)
            rw [hn2l] at ih1 ih2
            obtain ⟨ns, hns⟩ : ∃ ns, ns = clkC values.length n f v' k (last.set k (-1)) (nodes.length + 1 + ys.length) := ⟨_, rfl⟩
            rw [← hns] at ih2 hclk
            obtain ⟨nodes3, hn3⟩ : ∃ nodes3, nodes3 = nodes2 ++ ns.map (toV values n) := ⟨_, rfl⟩
            have hn3l : nodes3.length = nodes.length + 1 + ys.length + ns.length := by rw [hn3]; simp [hn2l]
            rw [← hn3] at ih2
            rw [hn3l] at ih2
            have d1 : a ≠ 0 := by omega
            have d2 : b ≠ 0 := by omega
            have d3 : N' ≠ 0 := by omega
            have d4 : a ≠ N' := by omega
            have d5 : b ≠ N' := by omega
            have d6 : M ≠ N' := by omega
            have d7 : M ≠ a := by omega
            have d8 : M ≠ b := by omega
            have d9 : M ≠ 0 := by omega
            have g1 : ¬ M ≤ b := by omega
            have g2 : ¬ M ≤ a := by omega
            have g3 : ¬ M ≤ N' := by omega
            simp -dsimp -implicitDefEqProofs [hk3, hk3', hkl, hlen3, d1, d2, d3, d4, d5, d1.symm, d2.symm, d3.symm, d4.symm, d5.symm, y4, y4.symm, tkInts hlen3, fzInts, clInts]
            refine ⟨by omega, ?_⟩
            refine eCall.lend [0, N'] ih1 (by simp) (by simp [d3.symm]) (by simp [hn1l, d1, d2, d3, d4, d5, d1.symm, d2.symm, d3.symm, d4.symm, d5.symm, y4, y4.symm]) ?_
            simp -dsimp -implicitDefEqProofs [d1, d2, d3, d4, d5, d1.symm, d2.symm, d3.symm, d4.symm, d5.symm, y4, y4.symm, hlen3, tkInts hlen3, fzInts, clInts, d6, d7, d8, d9, d6.symm, d7.symm, d8.symm, d9.symm, g1, g2, g3]
            refine eCall.lend [0, M] ih2 (by simp) (by simp [d9.symm]) (by simp [hn2l, d1, d2, d3, d4, d5, d1.symm, d2.symm, d3.symm, d4.symm, d5.symm, y4, y4.symm, d6, d7, d8, d9, d6.symm, d7.symm, d8.symm, d9.symm, g1, g2, g3]) ?_
            simp -dsimp -implicitDefEqProofs [d1, d2, d3, d4, d5, d1.symm, d2.symm, d3.symm, d4.symm, d5.symm, y4, y4.symm, hlen3, tkInts hlen3, fzInts, clInts, d6, d7, d8, d9, d6.symm, d7.symm, d8.symm, d9.symm, g1, g2, g3]
            have hq : nodes3[nodes.length]'(by omega) = q0 := by simp [hn3, hn2, hn1']
            have hfk := flat_kids nodes3 nodes.length (by omega) ((nodes.length + 1 : Nat) : Int) ((nodes.length + 1 + ys.length : Nat) : Int)
            have hset : nodes3.set nodes.length { q0 with yes := ((nodes.length + 1 : Nat) : Int), no := ((nodes.length + 1 + ys.length : Nat) : Int) } = nodes ++ List.map (toV values n) (⟨true, k, v', nodes.length + 1, nodes.length + 1 + ys.length⟩ :: (ys ++ ns)) := by
              rw [hn3, hn2, hn1', hq0, hpt]
              simp [vnC]
            rw [hq, hset, ← hclk] at hfk
            have hcl2 : (clkC values.length n (f + 1) v w last nodes.length).length = 1 + ys.length + ns.length := by rw [hclk]; simp; omega
            simp at hfk
            refine ⟨by omega, by omega, by omega, by omega, ?_⟩
            exact RetX.by [] [M + 1] (by simp) (by simp; omega) (by simp) (by simp [hfk, hcl2, hn3l, d1, d2, d3, d4, d5, d1.symm, d2.symm, d3.symm, d4.symm, d5.symm, y4, y4.symm, d6, d7, d8, d9, d6.symm, d7.symm, d8.symm, d9.symm, g1, g2, g3]; trace_state; omega)
    · have h2' : ¬ (v' : Int) < (values.length : Int) := by omega
      have hn1 : nextC values.length n last (todoC values.length n v' w' + 1) v' w' = none := by
        unfold nextC; rw [if_neg h2]
      rw [hn1] at hnx
      rw [← hnx] at hclk
      simp -dsimp -implicitDefEqProofs [h1, h1', h1'', h2, h2']
      exact Cut.by ⟨values.length - 1, by omega, hclk, .inr ⟨h1'', rfl⟩⟩ (Le.to (by simp) (by simp) (by simp))
end Go.Proofs.YtaljbebkooppiaaGreat.Sh

namespace Go.Proofs.YtaljbebkooppiaaGreat.Sh
open Go Go.RowKit
set_option maxRecDepth 20000 in
set_option maxHeartbeats 4000000 in
theorem vgrow0_s (values : List FR) (hv : ∀ f ∈ values, f.ok) (n : Nat) (hn : n ≤ 3) (hm : values.length ≤ 20) (f v w : Nat) (last : List Int) (hf : todoC values.length n v w < f + 1) (hf24 : f + 1 ≤ 24) (hvm : v ≤ values.length) (hwn : w ≤ n) (hL : LastOk values.length n last) (h1'' : 1 < (insC n last).length) (hnn : nextC values.length n last (todoC values.length n v w + 1) v w ≠ none) :
    CallsX Tryz.prog 47 [.one (.mp 0 0), .one (.int .i64 (v : Int)), .one (.int .i64 (w : Int)), lastS last] [⟨88, rowCl values .nils n⟩] (.v (.one (.int .i64 0)))
      [some ⟨88, rowCl values (.ms 1 0 ((clkC values.length n (f + 1) v w last 0).map (toV values n)).length 6 true) n⟩, some ⟨110, flat rowVn ((clkC values.length n (f + 1) v w last 0).map (toV values n))⟩] := by
    obtain ⟨nodes, hnodes⟩ : ∃ nodes : List Vn, nodes = [] := ⟨_, rfl⟩
    have hsz : 0 + 2 ^ (f + 1 + 1) ≤ 1073741824 := by
      have := Nat.pow_le_pow_right (n := 2) (by decide) (show f + 1 + 1 ≤ 25 by omega)
      have e : (2 : Nat) ^ 25 = 33554432 := by decide
      omega
    have hlen3 := hL.len
    have hpow : 2 ^ (f + 1 + 1) = 2 ^ (f + 1) + 2 ^ (f + 1) := by rw [Nat.pow_succ]; omega
    have hp1 : 2 ≤ 2 ^ (f + 1) := by
      have := Nat.pow_le_pow_right (n := 2) (by decide) (show 1 ≤ f + 1 by omega)
      simpa using this
    obtain ⟨c1, c2, c3⟩ := firstC_mem hL.ne
    have hcl := insC_le n last
    have htk3 : (last.map (S1.int .i64)).take 3 = last.map (S1.int .i64) := List.take_of_length_le (by simp [hlen3])
    refine callsXM [19] Tryz.func47 rfl (by rfl) (by rfl) (by kernel_rfl) (by simp) ?_
    simp -dsimp -implicitDefEqProofs [Tryz.f47]
    refine sw_loop_e (fun q : {q : Nat // q ≤ n} => SS.of [(0, .v (.one (.mp 0 0))), (1, I .i64 v), (2, I .i64 w), (7, .v (.one (.mp 1 0))), (9, I .i64 0), (10, I .i64 (headI (insF n last q.1))), (11, I .i64 (insF n last q.1).length), (12, I .i64 ((q.1 : Int) - 1))] [(0, ⟨88, rowCl values .nils n⟩), (1, ⟨89, last.map (S1.int .i64)⟩)] 2)
      (fun q => q.1) ⟨n, Nat.le_refl _⟩ (by kernel_rfl) (Le.to (by simp [insF_end, headI]; exact wrap_i64 _ (by omega) (by omega)) (by simp) (by simp)) ?_
    rintro ⟨i, hi⟩
    by_cases i0 : 0 < i
    · obtain ⟨j, rfl⟩ : ∃ j, i = j + 1 := ⟨i - 1, by omega⟩
      have e1 : (((j + 1 : Nat) : Int) - 1) = (j : Int) := by omega
      have j3 : j < 3 := by omega
      have j3' : (j : Int) < 3 := by omega
      have jl : j < last.length := by omega
      have hst := insF_step hn last (i := j) (by omega)
      rw [hL.at j3] at hst
      have wj : IntKind.i64.wrap ((j : Int) - 1) = (j : Int) - 1 := wrap_i64 _ (by omega) (by omega)
      have hil : (insF n last (j + 1)).length ≤ n := filter_range_le _ n
      have wl : IntKind.i64.wrap (((insF n last (j + 1)).length : Int) + 1) = ((insF n last (j + 1)).length : Int) + 1 := wrap_i64 _ (by omega) (by omega)
      rw [e1]
      by_cases c : 0 ≤ last[j]
      · rw [if_pos c] at hst
        simp -dsimp -implicitDefEqProofs [j3, j3', jl, hlen3, c]
        exact Again.by ⟨j, by omega⟩ (Le.to (by simp [hst, headI, wj, wl]) (by simp) (by simp)) (by simp)
      · rw [if_neg c] at hst
        simp -dsimp -implicitDefEqProofs [j3, j3', jl, hlen3, c]
        exact Again.by ⟨j, by omega⟩ (Le.to (by simp [hst, wj]) (by simp) (by simp)) (by simp)
    obtain rfl : i = 0 := by omega
    rw [insF_zero, c3]
    simp -dsimp -implicitDefEqProofs
    have hfl : firstC n last < last.length := by omega
    have hf3 : firstC n last < 3 := by omega
    have hla := hL.at hf3
    rw [hla] at c2
    have hlm := (hL.lt _ hfl).2
    have hclk : clkC values.length n (f + 1) v w last 0 = if (insC n last).length ≤ 1 then [⟨false, firstC n last, (lastAt last (firstC n last)).toNat, 0, 0⟩] else match nextC values.length n last (todoC values.length n v w + 1) v w with
      | none => [⟨false, firstC n last, values.length - 1, 0, 0⟩]
      | some (v', w') =>
        ⟨true, w', v', 0 + 1, 0 + 1 + (clkC values.length n f v' w' (last.set w' (v' : Int)) (0 + 1)).length⟩ :: (clkC values.length n f v' w' (last.set w' (v' : Int)) (0 + 1) ++ clkC values.length n f v' w' (last.set w' (-1)) (0 + 1 + (clkC values.length n f v' w' (last.set w' (v' : Int)) (0 + 1)).length)) := rfl
    refine sw_loop_m [19] (fun q : {q : Nat × Nat // q.1 ≤ values.length ∧ q.2 ≤ n ∧ todoC values.length n q.1 q.2 ≤ todoC values.length n v w ∧ nextC values.length n last (todoC values.length n q.1 q.2 + 1) q.1 q.2 = nextC values.length n last (todoC values.length n v w + 1) v w} => SS.of [(0, .v (.one (.mp 0 0))), (1, I .i64 q.1.1), (2, I .i64 q.1.2), (7, .v (.one (.mp 1 0))), (9, I .i64 0), (10, I .i64 (firstC n last)), (11, I .i64 (insC n last).length)] [(0, ⟨88, rowCl values .nils n⟩), (1, ⟨89, last.map (S1.int .i64)⟩)] 2)
      (fun q => todoC values.length n q.1.1 q.1.2) ⟨(v, w), hvm, hwn, Nat.le_refl _, rfl⟩ (by kernel_rfl) (Le.to (by simp) (by simp) (by simp)) ?_
    rintro ⟨⟨v', w'⟩, hv', hw', htd, hnx⟩
    simp only at hv' hw' htd hnx
    have h1 : ¬ (insC n last).length ≤ 1 := by omega
    have h1' : (1 : Int) < ((insC n last).length : Int) := by omega
    rw [if_neg h1] at hclk
    by_cases h2 : v' < values.length
    · have h2' : (v' : Int) < (values.length : Int) := by omega
      have ww : IntKind.i64.wrap ((w' : Int) - 1) = (w' : Int) - 1 := wrap_i64 _ (by omega) (by omega)
      by_cases w0 : w' = 0
      · subst w0
        have hn1 : nextC values.length n last (todoC values.length n v' 0 + 1) v' 0 = nextC values.length n last (todoC values.length n v' 0) (v' + 1) n := by
          conv => lhs; unfold nextC
          rw [if_pos h2]
        have wm1 : IntKind.i64.wrap (-1) = -1 := by decide
        have htt : todoC values.length n v' 0 = todoC values.length n (v' + 1) n + 1 := by
          unfold todoC
          have : values.length - v' = (values.length - (v' + 1)) + 1 := by omega
          rw [this, Nat.add_mul]; omega
        have wv : IntKind.i64.wrap ((v' : Int) + 1) = ((v' + 1 : Nat) : Int) := by rw [wrap_i64 _ (by omega) (by omega)]; rfl
        simp -dsimp -implicitDefEqProofs [h1, h1', h1'', h2, h2', wm1]
        exact Again.by ⟨(v' + 1, n), h2, Nat.le_refl _, by simp only; omega, by simp only; rw [← htt, ← hn1]; exact hnx⟩ (Le.to (by simp [wv]) (by simp) (by simp)) (by simp only; omega)
      · obtain ⟨k, rfl⟩ : ∃ k, w' = k + 1 := ⟨w' - 1, by omega⟩
        have hn1 : nextC values.length n last (todoC values.length n v' (k + 1) + 1) v' (k + 1) = if 0 ≤ lastAt last k then some (v', k) else nextC values.length n last (todoC values.length n v' (k + 1)) v' k := by
          conv => lhs; unfold nextC
          rw [if_pos h2]
        have hk3 : k < 3 := by omega
        have hk3' : (k : Int) < 3 := by omega
        have hkl : k < last.length := by omega
        have hk0 : ¬ (k : Int) < 0 := by omega
        have e1 : ((k + 1 : Nat) : Int) - 1 = (k : Int) := by omega
        have htt : todoC values.length n v' (k + 1) = todoC values.length n v' k + 1 := by unfold todoC; omega
        rw [hL.at hk3] at hn1
        have ww2 : IntKind.i64.wrap (k : Int) = (k : Int) := wrap_i64 _ (by omega) (by omega)
        by_cases c : last[k] < 0
        · rw [if_neg (by omega)] at hn1
          simp -dsimp -implicitDefEqProofs [h1, h1', h1'', h2, h2', ww2, hk0, hk3, hk3', hkl, hlen3, c]
          exact Again.by ⟨(v', k), hv', by simp only; omega, by simp only; omega, by simp only; rw [← htt, ← hn1]; exact hnx⟩ (Le.to (by simp) (by simp) (by simp)) (by simp only; omega)
        · rw [if_pos (by omega)] at hn1
          rw [hn1] at hnx
          rw [← hnx] at hclk
          simp only at hclk
          simp -dsimp -implicitDefEqProofs [h1, h1', h1'', h2, h2', ww2, hk0, hk3, hk3', hkl, hlen3, c]
          obtain ⟨pt, hpt⟩ : ∃ pt : List Int, pt = ((List.range values.length).drop v').map fun j : Nat => (j : Int) := ⟨_, rfl⟩
          have hptl : pt.length = values.length - v' := by rw [hpt]; simp
          have hptg : ∀ t (h : t < pt.length), pt[t] = ((v' + t : Nat) : Int) := fun t h => by subst hpt; simp
          refine sw_loop_e (fun q : {q : Nat × Nat // q.1 ≤ pt.length} => SS.of [(0, .v (.one (.mp 0 0))), (1, I .i64 v'), (2, I .i64 k), (7, .v (.one (.mp 1 0))), (9, I .i64 0), (13, if q.1.1 = 0 then .v (.one .nils) else .v (.one (.ms (q.1.2 + 3) 0 q.1.1 1 true))), (14, I .i64 ((v' + q.1.1 : Nat) : Int))]
              (([(0, ⟨88, rowCl values .nils n⟩), (1, ⟨89, last.map (S1.int .i64)⟩)] : List (Nat × SObj)) ++ (if q.1.1 = 0 then [] else [(q.1.2 + 3, ⟨3, flat rowInt (pt.take q.1.1)⟩)] : List (Nat × SObj))) (q.1.2 + 4))
            (fun q => pt.length - q.1.1) ⟨(0, 0), Nat.zero_le _⟩ (by kernel_rfl) (Le.to (by simp) (by simp) (by simp)) ?_
          rintro ⟨⟨t, d⟩, ht⟩
          simp only at ht
          by_cases a1 : t < pt.length
          · have wt : IntKind.i64.wrap (((v' + t : Nat) : Int) + 1) = ((v' + (t + 1) : Nat) : Int) := by rw [wrap_i64 _ (by omega) (by omega)]; omega
            have wt' : IntKind.i64.wrap ((v' : Int) + (t : Int) + 1) = ((v' : Int) + ((t : Int) + 1)) := by rw [wrap_i64 _ (by omega) (by omega)]; omega
            have hlt : (v' : Int) + (t : Int) < (values.length : Int) := by omega
            have hfl := flat_snoc (f := rowInt) pt[t] (pt.take t)
            rw [← takeSnoc pt t a1, hptg t a1] at hfl
            have htl : min t pt.length = t := by omega
            by_cases t0 : t = 0
            · subst t0
              have hif : ∀ {α : Type} (x y : α), (if 0 = 0 then x else y) = x := fun x y => if_pos rfl
              rw [List.take_zero, flat_nil, List.nil_append] at hfl
              simp at hfl
              have wt0 : IntKind.i64.wrap ((v' : Int) + 1) = (v' : Int) + 1 := wrap_i64 _ (by omega) (by omega)
              simp -dsimp -implicitDefEqProofs [hif, h2', slots]
              exact Again.by ⟨(1, d + 2), a1⟩ (Le.to (by simp [wt0]) (by simp [hfl]) (by simp)) (by simp <;> omega)
            · have hif : ∀ {α : Type} (x y : α), (if t = 0 then x else y) = y := fun x y => if_neg t0
              simp at hfl
              simp -dsimp -implicitDefEqProofs [hif, hlt, slots, htl]
              refine ⟨by omega, ?_⟩
              exact Again.by ⟨(t + 1, d + 2), a1⟩ (Le.to (by simp [wt']) (by simp [hfl]) (by simp)) (by simp <;> omega)
          have ht2 : t = pt.length := by omega
          subst ht2
          have hpne : ¬ pt = [] := fun e => by rw [e] at hptl; simp at hptl; omega
          have hif : ∀ {α : Type} (x y : α), (if pt.length = 0 then x else y) = y := fun x y => if_neg (by omega)
          have hlt : ¬ (v' : Int) + (pt.length : Int) < (values.length : Int) := by omega
          have hro := rowsOf_flat (f := rowInt) pt pt.length rfl
          obtain ⟨q0, hq0⟩ : ∃ q0 : Vn, q0 = ⟨(k : Int), pt, 0, 0, 0, []⟩ := ⟨_, rfl⟩
          have hfn := flat_snoc (f := rowVn) q0 nodes
          obtain ⟨nodes1, hn1'⟩ : ∃ nodes1, nodes1 = nodes ++ [q0] := ⟨_, rfl⟩
          rw [← hn1'] at hfn
          rw [hq0, hnodes, flat_nil, List.nil_append] at hfn
          simp at hfn
          have hn1l : nodes1.length = 0 + 1 := by rw [hn1', hnodes]; simp
          simp -dsimp -implicitDefEqProofs [hif, hpne, hlt, slots, hro]
          refine sw_cutR (fun y : {y : Nat × Nat × Nat × Nat // 1 < y.1 ∧ y.1 < y.2.1 ∧ y.1 < y.2.2.1 ∧ y.2.1 ≠ y.2.2.1 ∧ y.2.1 < y.2.2.2 ∧ y.2.2.1 < y.2.2.2} => SS.of [(0, .v (.one (.mp 0 0))), (1, I .i64 v'), (2, I .i64 k), (9, I .i64 0), (15, .v (.one (.mp y.1.2.1 0))), (16, .v (.one (.mp y.1.2.2.1 0)))] [(0, ⟨88, rowCl values (.ms y.1.1 0 nodes1.length 6 true) n⟩), (y.1.1, ⟨110, flat rowVn nodes1⟩), (y.1.2.1, ⟨89, last.map (S1.int .i64)⟩), (y.1.2.2.1, ⟨89, last.map (S1.int .i64)⟩)] y.1.2.2.2) ?_ ?_
          · refine sw_draw_f 2 (pre := [_, _]) [(7, 15)] (by kernel_rfl) rfl rfl (by kernel_rfl) (by kernel_rfl) ?_
            simp -dsimp -implicitDefEqProofs [hlen3, htk3]
            have hp3 : putL [S1.int .i64 0, S1.int .i64 0, S1.int .i64 0] 0 (last.map (S1.int .i64)) = last.map (S1.int .i64) := by
              match last, hlen3 with
              | [_, _, _], _ => rfl
            exact ⟨Cut.by ⟨(d + 5, d + 6, d + 7, d + 8), by simp only; omega⟩ (Le.to (by simp [hn1l]) (by simp [hfn, hn1l, hp3]) (by simp)), Cut.by ⟨(d + 5, d + 7, d + 6, d + 8), by simp only; omega⟩ (Le.to (by simp [hn1l]) (by simp [hfn, hn1l, hp3]) (by simp))⟩
          · rintro ⟨⟨N', a, b, M⟩, y1, y2, y3, y4, y5, y6⟩
            simp only at y1 y2 y3 y4 y5 y6
            show eM _ _ _ _ _ _
            have hgk : todoC values.length n v' k < f := by omega
            have ylen := clkC_len values.length n f v' k (last.set k (v' : Int)) (0 + 1)
            have ih1 := vgrowC_s values hv n hn hm f v' k (last.set k (v' : Int)) nodes1 hgk (by omega) hv' (by omega) (hL.stay hn (by omega) h2) (by rw [hn1']; simp) (by omega)
            rw [hn1l] at ih1
            obtain ⟨ys, hys⟩ : ∃ ys, ys = clkC values.length n f v' k (last.set k (v' : Int)) (0 + 1) := ⟨_, rfl⟩
            rw [← hys] at ih1 ylen hclk
            obtain ⟨nodes2, hn2⟩ : ∃ nodes2, nodes2 = nodes1 ++ ys.map (toV values n) := ⟨_, rfl⟩
            have hn2l : nodes2.length = 0 + 1 + ys.length := by rw [hn2]; simp [hn1l]
            rw [← hn2] at ih1
            have ih2 := vgrowC_s values hv n hn hm f v' k (last.set k (-1)) nodes2 hgk (by omega) hv' (by omega) (hL.leave hn h1'' (by omega)) (by rw [hn2, hn1']; simp) (by omega)
            rw [hn2l] at ih1 ih2
            obtain ⟨ns, hns⟩ : ∃ ns, ns = clkC values.length n f v' k (last.set k (-1)) (0 + 1 + ys.length) := ⟨_, rfl⟩
            rw [← hns] at ih2 hclk
            obtain ⟨nodes3, hn3⟩ : ∃ nodes3, nodes3 = nodes2 ++ ns.map (toV values n) := ⟨_, rfl⟩
            have hn3l : nodes3.length = 0 + 1 + ys.length + ns.length := by rw [hn3]; simp [hn2l]
            rw [← hn3] at ih2
            rw [hn3l] at ih2
            have d1 : a ≠ 0 := by omega
            have d2 : b ≠ 0 := by omega
            have d3 : N' ≠ 0 := by omega
            have d4 : a ≠ N' := by omega
            have d5 : b ≠ N' := by omega
            have d6 : M ≠ N' := by omega
            have d7 : M ≠ a := by omega
            have d8 : M ≠ b := by omega
            have d9 : M ≠ 0 := by omega
            have g1 : ¬ M ≤ b := by omega
            have g2 : ¬ M ≤ a := by omega
            have g3 : ¬ M ≤ N' := by omega
            simp -dsimp -implicitDefEqProofs [hk3, hk3', hkl, hlen3, d1, d2, d3, d4, d5, d1.symm, d2.symm, d3.symm, d4.symm, d5.symm, y4, y4.symm, tkInts hlen3, fzInts, clInts]
            refine ⟨by omega, ?_⟩
            refine eCall.lend [0, N'] ih1 (by simp) (by simp [d3.symm]) (by simp [hn1l, d1, d2, d3, d4, d5, d1.symm, d2.symm, d3.symm, d4.symm, d5.symm, y4, y4.symm]) ?_
            simp -dsimp -implicitDefEqProofs [d1, d2, d3, d4, d5, d1.symm, d2.symm, d3.symm, d4.symm, d5.symm, y4, y4.symm, hlen3, tkInts hlen3, fzInts, clInts, d6, d7, d8, d9, d6.symm, d7.symm, d8.symm, d9.symm, g1, g2, g3]
            refine eCall.lend [0, M] ih2 (by simp) (by simp [d9.symm]) (by simp [hn2l, d1, d2, d3, d4, d5, d1.symm, d2.symm, d3.symm, d4.symm, d5.symm, y4, y4.symm, d6, d7, d8, d9, d6.symm, d7.symm, d8.symm, d9.symm, g1, g2, g3]) ?_
            simp -dsimp -implicitDefEqProofs [d1, d2, d3, d4, d5, d1.symm, d2.symm, d3.symm, d4.symm, d5.symm, y4, y4.symm, hlen3, tkInts hlen3, fzInts, clInts, d6, d7, d8, d9, d6.symm, d7.symm, d8.symm, d9.symm, g1, g2, g3]
            have hq : nodes3[0]'(by omega) = q0 := by simp [hn3, hn2, hn1', hnodes]
            have hfk := flat_kids nodes3 0 (by omega) ((0 + 1 : Nat) : Int) ((0 + 1 + ys.length : Nat) : Int)
            have hset : nodes3.set 0 { q0 with yes := ((0 + 1 : Nat) : Int), no := ((0 + 1 + ys.length : Nat) : Int) } = nodes ++ List.map (toV values n) (⟨true, k, v', 0 + 1, 0 + 1 + ys.length⟩ :: (ys ++ ns)) := by
              rw [hn3, hn2, hn1', hq0, hpt, hnodes]
              simp [vnC]
            rw [hq, hset, ← hclk, hnodes, List.nil_append] at hfk
            have hcl2 : (clkC values.length n (f + 1) v w last 0).length = 1 + ys.length + ns.length := by rw [hclk]; simp; omega
            simp at hfk
            refine ⟨by omega, by omega, by omega, by omega, ?_⟩
            exact RetX.by [] [M + 1] (by simp) (by simp) (by simp) (by simp [hfk, hcl2, hn3l, d1, d2, d3, d4, d5, d1.symm, d2.symm, d3.symm, d4.symm, d5.symm, y4, y4.symm, d6, d7, d8, d9, d6.symm, d7.symm, d8.symm, d9.symm, g1, g2, g3])
    · have h2' : ¬ (v' : Int) < (values.length : Int) := by omega
      have hn1 : nextC values.length n last (todoC values.length n v' w' + 1) v' w' = none := by
        unfold nextC; rw [if_neg h2]
      rw [hn1] at hnx
      exact absurd hnx.symm hnn
end Go.Proofs.YtaljbebkooppiaaGreat.Sh

