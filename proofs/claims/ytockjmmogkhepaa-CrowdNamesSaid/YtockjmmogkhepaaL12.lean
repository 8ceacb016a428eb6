/- A part of the proof: R18, R19, R20, R21, R22, R23a -/
import Derived.Test.YtockjmmogkhepaaL11
set_option linter.unusedSimpArgs false
set_option linter.unusedVariables false
/- A thing is sold at the second price: the walks. -/
namespace Go.Proofs.Ytockjmmogkhepaa.Sh
open Go Go.RowKit

set_option maxRecDepth 20000 in
theorem secondR_long (l : List FR) (h1 : (12 : Int) < l.length) : CallsS Try.prog 21 [.one (frsS l)] (.tup [.one (.int .i64 0), .agg [.bool false, .nils, .nils], .one (.int .i64 1)]) := by
  refine calls Try.func21 rfl (by rfl) (by rfl) (by kernel_rfl) ?_
  simp -dsimp -implicitDefEqProofs [Try.f21, h1]

set_option maxRecDepth 20000 in
theorem secondC_long (l : List FR) (h1 : (12 : Int) < l.length) : CallsS Try.prog 22 [.one (frsS l)] (.tup [.one (.int .i64 0), .agg [.bool false, .nils, .nils], .one (.int .i64 1)]) := by
  refine calls Try.func22 rfl (by rfl) (by rfl) (by kernel_rfl) ?_
  simp -dsimp -implicitDefEqProofs [Try.f22, h1]

theorem payI_sz (L : List Rat) (h : ∀ q ∈ L, sz q ≤ 4096) (k : Int) : ∀ i, i ≤ L.length → sz (payI L k i) ≤ 4096
  | 0, _ => sz_zero'
  | i + 1, hi => by
    simp only [payI]
    split
    · rw [getD_of 0 (show i < L.length by omega)]; exact h _ (List.getElem_mem _)
    · exact payI_sz L h k i (by omega)

set_option maxRecDepth 20000 in
theorem secondR_s (l : List FR) (hl : ∀ f ∈ l, f.ok) (h1 : ¬ (12 : Int) < l.length) : CallsS Try.prog 21 [.one (frsS l)] (.tup [.one (.int .i64 (win (l.map FR.fix)).1), fS (win (l.map FR.fix)).2, .one (.int .i64 0)]) := by
  have i0 := intR_s 0 (by decide) (by decide)
  have hz : ∀ q ∈ l.map FR.fix, sz q ≤ 4096 := by
    intro q hq
    obtain ⟨f, hf, rfl⟩ := List.mem_map.1 hq
    exact sz_fix (hl f hf)
  have hL : (l.map FR.fix).length = l.length := by simp
  have hg : ∀ i, (h : i < l.length) → (l.map FR.fix).getD i 0 = l[i].fix := fun i h => by rw [getD_of 0 (by simpa using h)]; simp
  refine calls Try.func21 rfl (by rfl) (by rfl) (by kernel_rfl) ?_
  simp -dsimp -implicitDefEqProofs [Try.f21, h1]
  refine eCall.of i0 (by simp) ?_
  simp -dsimp -implicitDefEqProofs
  refine sw_loop_e (fun p : {p : Nat × FR // p.1 ≤ l.length ∧ p.2.ok ∧ p.2.fix = (topI (l.map FR.fix) p.1).2} => SS.of [(0, .v (.one (frsS l))), (3, .v (.one (.mp 0 0))), (5, I .i64 (topI (l.map FR.fix) p.1.1).1), (6, .v (.one (.mp 1 0))), (7, I .i64 p.1.1)] [(0, ⟨26, [.bool false, .nils, .nils]⟩), (1, ⟨26, rowFr p.1.2⟩)] 2)
    (fun p => l.length - p.1.1) ⟨(0, frQ 0), Nat.zero_le _, frQ_ok (by have := sz_zero'; omega), fix_frQ sz_zero'⟩ (by kernel_rfl) (Le.to (by simp [topI]) (by simp [frQ, ng]) (by simp)) ?_
  rintro ⟨⟨i, g⟩, hi, hgo, hgf⟩
  simp only at hi hgo hgf
  by_cases a1 : i < l.length
  · have wi : IntKind.i64.wrap ((i : Int) + 1) = ((i + 1 : Nat) : Int) := by rw [wrap_i64 _ (by omega) (by omega)]; rfl
    have hok : l[i].ok := hl _ (List.getElem_mem a1)
    have hc := cmpR_s l[i] g hok hgo
    simp -dsimp -implicitDefEqProofs [a1, wi]
    refine eCall.of hc (by simp) ?_
    by_cases c1 : g.fix < l[i].fix
    · have c2 : 0 < cmpQ l[i].fix g.fix := cmpQ_pos.2 c1
      have ht : topI (l.map FR.fix) (i + 1) = ((i : Int), l[i].fix) := by simp only [topI]; rw [← hgf, hg i a1, if_pos c1]
      simp -dsimp -implicitDefEqProofs [c2, a1]
      exact Again.by ⟨(i + 1, l[i]), a1, hok, by rw [ht]⟩ (Le.to (by simp [wi, ht]) (by simp) (by simp)) (by simp; omega)
    · have c2 : ¬ 0 < cmpQ l[i].fix g.fix := mt cmpQ_pos.1 c1
      have ht : topI (l.map FR.fix) (i + 1) = topI (l.map FR.fix) i := by simp only [topI]; rw [← hgf, hg i a1, if_neg c1]
      simp -dsimp -implicitDefEqProofs [c2, a1]
      exact Again.by ⟨(i + 1, g), a1, hgo, by rw [ht]; exact hgf⟩ (Le.to (by simp [wi, ht]) (by simp) (by simp)) (by simp; omega)
  have hi2 : i = l.length := by omega
  subst hi2
  have hw : win (l.map FR.fix) = ((topI (l.map FR.fix) l.length).1, if (topI (l.map FR.fix) l.length).1 < 0 then 0 else payI (l.map FR.fix) (topI (l.map FR.fix) l.length).1 l.length) := by unfold win; rw [hL]
  rw [hw]
  have hrng : (topI (l.map FR.fix) l.length).1 = -1 ∨ ∃ k : Nat, (topI (l.map FR.fix) l.length).1 = k ∧ k < l.length := by
    rcases topI_spec (l.map FR.fix) l.length (by omega) with ⟨h, _⟩ | ⟨k, h, h2, _⟩
    · exact Or.inl (by rw [h])
    · exact Or.inr ⟨k, by rw [h], h2⟩
  generalize (topI (l.map FR.fix) l.length).1 = A at *
  clear hw
  simp -dsimp -implicitDefEqProofs
  refine eCall.of i0 (by simp) ?_
  simp -dsimp -implicitDefEqProofs
  refine sw_loop_e (fun p : {p : Nat // p ≤ l.length ∧ (A < 0 → p = 0)} => SS.of [(0, .v (.one (frsS l))), (3, .v (.one (.mp 0 0))), (5, I .i64 A), (8, .v (.one (.mp 2 0))), (9, I .i64 p.1)] [(0, ⟨26, [.bool false, .nils, .nils]⟩), (2, ⟨26, rowFr (frQ (payI (l.map FR.fix) A p.1))⟩)] 3)
    (fun p => l.length - p.1) ⟨0, Nat.zero_le _, fun _ => rfl⟩ (by kernel_rfl) (Le.to (by simp) (by simp [payI, frQ, ng]) (by simp)) ?_
  rintro ⟨i, hi, hA⟩
  by_cases a0 : A < 0
  · obtain rfl := hA a0
    have a0' : ¬ 0 ≤ A := by omega
    by_cases a1 : 0 < l.length
    · simp -dsimp -implicitDefEqProofs [a1, a0, a0', payI, frQ, ng]
    · simp -dsimp -implicitDefEqProofs [a1, a0, payI, frQ, ng]
  have a0' : 0 ≤ A := by omega
  by_cases a1 : i < l.length
  · have wi : IntKind.i64.wrap ((i : Int) + 1) = ((i + 1 : Nat) : Int) := by rw [wrap_i64 _ (by omega) (by omega)]; rfl
    have hok : l[i].ok := hl _ (List.getElem_mem a1)
    by_cases e : (i : Int) = A
    · have hp : payI (l.map FR.fix) A (i + 1) = payI (l.map FR.fix) A i := by simp only [payI]; rw [if_neg (by intro h; exact h.1 e)]
      subst e
      simp -dsimp -implicitDefEqProofs [a1, a0', wi]
      exact Again.by ⟨i + 1, a1, fun h => by omega⟩ (Le.to (by simp [wi]) (by simp [hp]) (by simp)) (by simp; omega)
    · have hs := payI_sz _ hz A i (by omega)
      have hc := cmpR_s l[i] (frQ (payI (l.map FR.fix) A i)) hok (frQ_ok (by omega))
      rw [fix_frQ hs] at hc
      simp -dsimp -implicitDefEqProofs [a1, a0', wi, e]
      refine eCall.of hc (by simp) ?_
      by_cases c1 : payI (l.map FR.fix) A i < l[i].fix
      · have c2 : 0 < cmpQ l[i].fix (payI (l.map FR.fix) A i) := cmpQ_pos.2 c1
        have hp : payI (l.map FR.fix) A (i + 1) = l[i].fix := by simp only [payI]; rw [hg i a1, if_pos ⟨e, c1⟩]
        simp -dsimp -implicitDefEqProofs [c2, a1]
        refine eCall.of (fixR_s l[i] hok) (by simp) ?_
        simp -dsimp -implicitDefEqProofs
        exact Again.by ⟨i + 1, a1, fun h => by omega⟩ (Le.to (by simp [wi]) (by simp [hp, frQ, ng]) (by simp)) (by simp; omega)
      · have c2 : ¬ 0 < cmpQ l[i].fix (payI (l.map FR.fix) A i) := mt cmpQ_pos.1 c1
        have hp : payI (l.map FR.fix) A (i + 1) = payI (l.map FR.fix) A i := by simp only [payI]; rw [hg i a1, if_neg (fun h => c1 h.2)]
        simp -dsimp -implicitDefEqProofs [c2, a1]
        exact Again.by ⟨i + 1, a1, fun h => by omega⟩ (Le.to (by simp [wi]) (by simp [hp]) (by simp)) (by simp; omega)
  · have hi2 : i = l.length := by omega
    subst hi2
    simp -dsimp -implicitDefEqProofs [a0, frQ, ng]

set_option maxRecDepth 20000 in
theorem czero_s : CallsS Try.prog 49 [] (.v (fS 0)) := by
  have hs := fsum_s [] (by simp) (by simp)
  have e : cap (sumQ (List.map FR.fix [])) = 0 := cap_of (by show sz 0 ≤ _; rw [sz_zero]; omega)
  rw [e] at hs
  refine calls Try.func49 rfl (by rfl) (by rfl) (by kernel_rfl) ?_
  simp -dsimp -implicitDefEqProofs [Try.f49]
  refine eCall.of hs (by simp) ?_
  simp -dsimp -implicitDefEqProofs

theorem sgnQ_le {q : Rat} : sgnQ q ≤ 0 ↔ q ≤ 0 := by
  unfold sgnQ
  split
  · rename_i h; subst h; exact ⟨fun _ => Rat.le_refl, fun _ => by omega⟩
  · split
    · rename_i h; exact ⟨fun _ => by grind, fun _ => by omega⟩
    · exact ⟨fun h => by omega, fun h => by grind⟩

set_option maxRecDepth 20000 in
theorem secondC_s (l : List FR) (hl : ∀ f ∈ l, f.ok) (h1 : ¬ (12 : Int) < l.length) : CallsS Try.prog 22 [.one (frsS l)] (.tup [.one (.int .i64 (win (l.map FR.fix)).1), fS (win (l.map FR.fix)).2, .one (.int .i64 0)]) := by
  have hz : ∀ q ∈ l.map FR.fix, sz q ≤ 4096 := by
    intro q hq
    obtain ⟨f, hf, rfl⟩ := List.mem_map.1 hq
    exact sz_fix (hl f hf)
  have hL : (l.map FR.fix).length = l.length := by simp
  have hg : ∀ i, (h : i < l.length) → (l.map FR.fix).getD i 0 = l[i].fix := fun i h => by rw [getD_of 0 (by simpa using h)]; simp
  obtain ⟨mt1, mt2⟩ := most_top (l.map FR.fix)
  rw [hL] at mt1 mt2
  have hw : win (l.map FR.fix) = ((topI (l.map FR.fix) l.length).1, if (topI (l.map FR.fix) l.length).1 < 0 then 0 else payI (l.map FR.fix) (topI (l.map FR.fix) l.length).1 l.length) := by unfold win; rw [hL]
  have hm := most_s l hl (by omega)
  have hrng : mostF (l.map FR.fix) l.length = -1 ∨ ∃ k : Nat, mostF (l.map FR.fix) l.length = k ∧ k < l.length := by
    rcases mostF_spec (l.map FR.fix) l.length (by omega) with ⟨_, h⟩ | ⟨k, h, h2, _⟩
    · exact Or.inl h
    · exact Or.inr ⟨k, h, h2⟩
  rw [hw]
  refine calls Try.func22 rfl (by rfl) (by rfl) (by kernel_rfl) ?_
  simp -dsimp -implicitDefEqProofs [Try.f22, h1]
  refine eCall.of hm (by simp) ?_
  simp -dsimp -implicitDefEqProofs
  refine eCall.of czero_s (by simp) ?_
  rcases hrng with hr | ⟨k, hr, hk⟩
  · have ht := mt1 (by omega)
    rw [ht]
    simp -dsimp -implicitDefEqProofs [hr]
  obtain ⟨-, ht⟩ := mt2 k hr
  rw [hg k hk] at ht
  have k0 : ¬ ((k : Int) < 0) := by omega
  simp -dsimp -implicitDefEqProofs [hr, k0, hk]
  refine eCall.of (fsign_s l[k] (hl _ (List.getElem_mem hk))) (by simp) ?_
  by_cases c0 : l[k].fix ≤ 0
  · rw [if_pos c0] at ht
    rw [ht]
    simp -dsimp -implicitDefEqProofs [sgnQ_le.2 c0, k0]
  rw [if_neg c0] at ht
  rw [ht]
  have c0' : ¬ sgnQ l[k].fix ≤ 0 := mt sgnQ_le.1 c0
  simp -dsimp -implicitDefEqProofs [c0', k0]
  refine sw_loop_e (fun p : {p : Nat × Nat // p.1 ≤ l.length} => SS.of [(2, I .i64 k), (3, .v (.one (.mp 0 0))), (25, .v (.one (frsS l))), (26, I .i64 l.length), (27, I .i64 p.1.1)] [(0, ⟨26, rowFr (frQ (payI (l.map FR.fix) k p.1.1))⟩)] (p.1.2 + 1))
    (fun p => l.length - p.1.1) ⟨(0, 0), Nat.zero_le _⟩ (by kernel_rfl) (Le.to (by simp) (by simp [payI, frQ, ng]) (by simp)) ?_
  rintro ⟨⟨i, c⟩, hi⟩
  simp only at hi
  by_cases a1 : i < l.length
  · have wi : IntKind.i64.wrap ((i : Int) + 1) = ((i + 1 : Nat) : Int) := by rw [wrap_i64 _ (by omega) (by omega)]; rfl
    have hok : l[i].ok := hl _ (List.getElem_mem a1)
    by_cases e : i = k
    · have hp : payI (l.map FR.fix) k (i + 1) = payI (l.map FR.fix) k i := by simp only [payI]; rw [if_neg (by intro h; exact h.1 (by omega))]
      subst e
      simp -dsimp -implicitDefEqProofs [a1, wi]
      exact Again.by ⟨(i + 1, c + 1), a1⟩ (Le.to (by simp [wi]) (by simp [hp]) (by simp)) (by simp; omega)
    · have hs := payI_sz _ hz k i (by omega)
      have hc := fcmp_s l[i] (frQ (payI (l.map FR.fix) k i)) hok (frQ_ok (by omega))
      rw [fix_frQ hs] at hc
      simp -dsimp -implicitDefEqProofs [a1, wi, e]
      refine eCall.of hc (by simp) ?_
      by_cases c1 : payI (l.map FR.fix) k i < l[i].fix
      · have c2 : 0 < cmpQ l[i].fix (payI (l.map FR.fix) k i) := cmpQ_pos.2 c1
        have hp : payI (l.map FR.fix) k (i + 1) = l[i].fix := by simp only [payI]; rw [hg i a1, if_pos ⟨by omega, c1⟩]
        simp -dsimp -implicitDefEqProofs [c2, a1]
        refine eCall.of (ffix_s l[i] hok) (by simp) ?_
        simp -dsimp -implicitDefEqProofs
        exact Again.by ⟨(i + 1, c + 1), a1⟩ (Le.to (by simp [wi]) (by simp [hp, frQ, ng]) (by simp)) (by simp; omega)
      · have c2 : ¬ 0 < cmpQ l[i].fix (payI (l.map FR.fix) k i) := mt cmpQ_pos.1 c1
        have hp : payI (l.map FR.fix) k (i + 1) = payI (l.map FR.fix) k i := by simp only [payI]; rw [hg i a1, if_neg (fun h => c1 h.2)]
        simp -dsimp -implicitDefEqProofs [c2, a1]
        exact Again.by ⟨(i + 1, c + 1), a1⟩ (Le.to (by simp [wi]) (by simp [hp]) (by simp)) (by simp; omega)
  · have hi2 : i = l.length := by omega
    subst hi2
    simp -dsimp -implicitDefEqProofs [k0, frQ, ng]
end Go.Proofs.Ytockjmmogkhepaa.Sh

/- Lists joined; a weight grows. -/
namespace Go.Proofs.Ytockjmmogkhepaa.Sh
open Go Go.RowKit

theorem i64_one' : IntKind.i64.wrap 1 = 1 := by decide
theorem take_snoc {α : Type} (l : List α) (i : Nat) (h : i < l.length) : l.take (i + 1) = l.take i ++ [l[i]] := by
  rw [List.take_add_one, List.getElem?_eq_getElem h]; rfl

set_option maxRecDepth 20000 in
theorem joined_s (a b : List FR) (ha : a.length ≤ 1048576) (hb : b.length ≤ 1048576) : CallsS Try.prog 24 [.one (frsS a), .one (frsS b)] (.v (.one (frsS (a ++ b)))) := by
  refine calls Try.func24 rfl (by rfl) (by rfl) (by kernel_rfl) ?_
  simp -dsimp -implicitDefEqProofs [Try.f24]
  refine sw_loop_e (fun p : {p : Nat × Nat × Nat // p.1 ≤ a.length ∧ p.2.2 ≤ p.2.1 ∧ (p.1 ≠ 0 → p.2.2 < p.2.1)} => SS.of [(0, .v (.one (frsS a))), (1, .v (.one (frsS b))), (5, if p.1.1 = 0 then .v (.one .nils) else .v (.one (.ms p.1.2.2 0 p.1.1 3 true))), (6, I .i64 p.1.1)] (if p.1.1 = 0 then [] else [(p.1.2.2, ⟨26, flat rowFr (a.take p.1.1)⟩)]) p.1.2.1)
    (fun p => a.length - p.1.1) ⟨(0, 0, 0), Nat.zero_le _, Nat.le_refl _, fun h => absurd rfl h⟩ (by kernel_rfl) (Le.to (by simp) (by simp) (by simp)) ?_
  rintro ⟨⟨i, c, o⟩, hi, hoc, hoc'⟩
  simp only at hi hoc hoc'
  by_cases a1 : i < a.length
  · have wi : IntKind.i64.wrap ((i : Int) + 1) = ((i + 1 : Nat) : Int) := by rw [wrap_i64 _ (by omega) (by omega)]; rfl
    have hfl := flat_snoc (f := rowFr) a[i] (a.take i)
    rw [← take_snoc a i a1] at hfl
    have hll : (a.take i).length = i := by simp; omega
    by_cases i0 : i = 0
    · subst i0
      simp -dsimp -implicitDefEqProofs [a1, wi, slots]
      rw [show a.take 0 = [] from rfl, flat_nil, List.nil_append] at hfl
      exact Again.by ⟨(1, c + 2, c + 1), by omega, by simp only; omega, by simp only; omega⟩ (Le.to (by simp [i64_one']) (by simp [hfl]) (by simp)) (by simp; omega)
    · have oc1 : ¬ o = c := by have := hoc' i0; omega
      simp -dsimp -implicitDefEqProofs [a1, wi, i0, slots, hll, oc1]
      refine ⟨by omega, ?_⟩
      exact Again.by ⟨(i + 1, c + 2, c + 1), by omega, by simp only; omega, by simp only; omega⟩ (Le.to (by simp [wi]) (by simp [hfl]) (by simp)) (by simp; omega)
  have hi2 : i = a.length := by omega
  subst hi2
  simp -dsimp -implicitDefEqProofs
  refine sw_loop_e (fun p : {p : Nat × Nat × Nat // p.1 ≤ b.length ∧ p.2.2 ≤ p.2.1 ∧ (a.length + p.1 ≠ 0 → p.2.2 < p.2.1)} => SS.of [(1, .v (.one (frsS b))), (5, if a.length + p.1.1 = 0 then .v (.one .nils) else .v (.one (.ms p.1.2.2 0 (a.length + p.1.1) 3 true))), (7, I .i64 p.1.1)] (if a.length + p.1.1 = 0 then [] else [(p.1.2.2, ⟨26, flat rowFr (a ++ b.take p.1.1)⟩)]) p.1.2.1)
    (fun p => b.length - p.1.1) ⟨(0, c, o), Nat.zero_le _, hoc, by simpa using hoc'⟩ (by kernel_rfl) (by by_cases e : a = [] <;> exact Le.to (by simp [e]) (by simp [e]) (by simp)) ?_
  rintro ⟨⟨j, d, q⟩, hj, hqd, hqd'⟩
  simp only at hj hqd hqd'
  by_cases b1 : j < b.length
  · have wi : IntKind.i64.wrap ((j : Int) + 1) = ((j + 1 : Nat) : Int) := by rw [wrap_i64 _ (by omega) (by omega)]; rfl
    have hfl := flat_snoc (f := rowFr) b[j] (a ++ b.take j)
    rw [List.append_assoc, ← take_snoc b j b1] at hfl
    have hll : (a ++ b.take j).length = a.length + j := by simp; omega
    by_cases i0 : a.length + j = 0
    · obtain rfl : j = 0 := by omega
      obtain rfl : a = [] := List.length_eq_zero_iff.1 (by omega)
      simp -dsimp -implicitDefEqProofs [b1, wi, slots]
      rw [show b.take 0 = [] from rfl, List.append_nil, flat_nil, List.nil_append] at hfl
      exact Again.by ⟨(1, d + 2, d + 1), by omega, by simp only; omega, by simp only; omega⟩ (Le.to (by simp [i64_one']) (by simp [hfl]) (by simp)) (by simp; omega)
    · have oc1 : ¬ q = d := by have := hqd' i0; omega
      have i0' : ¬ (a = [] ∧ j = 0) := fun h => i0 (by rw [h.1, h.2]; rfl)
      have i1 : ¬ (a = [] ∧ j + 1 = 0) := fun h => by omega
      simp -dsimp -implicitDefEqProofs [b1, wi, i0', slots, hll, oc1]
      refine ⟨by omega, ?_⟩
      exact Again.by ⟨(j + 1, d + 2, d + 1), by omega, by simp only; omega, by simp only; omega⟩ (Le.to (by simp [wi, Nat.add_assoc]) (by simp [hfl]) (by simp)) (by simp; omega)
  · have hj2 : j = b.length := by omega
    subst hj2
    by_cases i0 : a.length + b.length = 0
    · obtain rfl : a = [] := List.length_eq_zero_iff.1 (by omega)
      obtain rfl : b = [] := List.length_eq_zero_iff.1 (by omega)
      simp -dsimp -implicitDefEqProofs
    · have i0' : ¬ (a = [] ∧ b = []) := fun h => i0 (by rw [h.1, h.2]; rfl)
      have i2 : ¬ (a = [] ∧ b.length = 0) := fun h => i0 (by rw [h.1, h.2]; rfl)
      simp -dsimp -implicitDefEqProofs [i0', i2]
end Go.Proofs.Ytockjmmogkhepaa.Sh

/- One who learns by weights: plain; the reference's Grows and Gains. -/
namespace Go.Proofs.Ytockjmmogkhepaa.Sh
open Go Go.RowKit

/-- A weight behind a gain. -/
def grow (w x : Rat) : Rat := w * (1 + (1 / 2) * x)

theorem half_eq : (((1 : Int) : Rat) / ((2 : Int) : Rat)) = 1 / 2 := by decide +kernel
theorem mz_half : mz (1 / 2) = 1 := by decide +kernel
theorem mz_one : mz 1 = 1 := by decide +kernel
theorem mz_gain (x : Rat) : mz (1 + (1 / 2) * x) ≤ mz x + 3 := by
  have h1 := mz_mul (1 / 2) x
  have h2 := mz_add 1 ((1 / 2) * x)
  rw [mz_half] at h1
  rw [mz_one] at h2
  omega
theorem mz_grow (w x : Rat) : mz (grow w x) ≤ mz w + mz x + 3 := by
  have h1 := mz_mul w (1 + (1 / 2) * x)
  have h2 := mz_gain x
  unfold grow
  omega
theorem cap_mz {q : Rat} (h : mz q ≤ 2048) : cap q = q := cap_of (by have := sz_mz q; omega)
theorem fix_mz {q : Rat} (h : mz q ≤ 2048) : (frQ q).fix = q := fix_frQ (by have := sz_mz q; omega)
theorem ok_mz {q : Rat} (h : mz q ≤ 2048) : (frQ q).ok := frQ_ok (by have := sz_mz q; omega)

set_option maxRecDepth 20000 in
theorem grows_s (w x : FR) (hw : w.ok) (hx : x.ok) (h1 : mz x.fix ≤ 2000) (h2 : mz (grow w.fix x.fix) ≤ 2048) : CallsS Try.prog 17 [frS w, frS x] (.v (fS (grow w.fix x.fix))) := by
  have mk := makeR_s 1 2 (by decide) (by decide) (by decide) (by decide) (by decide)
  rw [half_eq] at mk
  have i1 := intR_s 1 (by decide) (by decide)
  have g1 := mz_mul (1 / 2) x.fix
  have g2 := mz_gain x.fix
  rw [mz_half] at g1
  have hh : mz (1 / 2) ≤ 2048 := by rw [mz_half]; omega
  have ho : mz 1 ≤ 2048 := by rw [mz_one]; omega
  have m1 := mulR_s (frQ (1 / 2)) x (ok_mz hh) hx
  rw [fix_mz hh, cap_mz (by omega), frS_frQ] at m1
  have m2 := addR_s (frQ 1) (frQ (1 / 2 * x.fix)) (ok_mz ho) (ok_mz (by omega))
  rw [fix_mz ho, fix_mz (by omega), cap_mz (by omega), frS_frQ, frS_frQ] at m2
  have m3 := mulR_s w (frQ (1 + 1 / 2 * x.fix)) hw (ok_mz (by omega))
  rw [fix_mz (by omega), show w.fix * (1 + 1 / 2 * x.fix) = grow w.fix x.fix from rfl, cap_mz h2, frS_frQ] at m3
  generalize (1 / 2 : Rat) = H at *
  generalize H * x.fix = HX at *
  generalize 1 + HX = G at *
  generalize grow w.fix x.fix = R at *
  refine calls Try.func17 rfl (by rfl) (by rfl) (by kernel_rfl) ?_
  simp -dsimp -implicitDefEqProofs [Try.f17]
  refine eCall.of mk (by simp) ?_
  simp -dsimp -implicitDefEqProofs
  refine eCall.of i1 (by simp) ?_
  simp -dsimp -implicitDefEqProofs
  refine eCall.of m1 (by simp) ?_
  simp -dsimp -implicitDefEqProofs
  refine eCall.of m2 (by simp) ?_
  simp -dsimp -implicitDefEqProofs
  refine eCall.of m3 (by simp) ?_
  simp -dsimp -implicitDefEqProofs

/-- Gains, as they are handed in. -/
@[simp] def rowsS (g : List (List FR)) : S1 := .sl true 1 (g.map fun l => [frsS l])

def goodX (f : FR) : Prop := f.fix ≤ 1 ∧ -1 ≤ f.fix
def goodRow (n : Nat) (l : List FR) : Prop := l.length ≠ 0 ∧ l.length = n ∧ ∀ f ∈ l, goodX f
def picks (g : List (List FR)) : Nat := (g.headD []).length

/-- What is wrong with gains. -/
def isGains (g : List (List FR)) (r : Int) : Prop :=
  (60 < g.length ∧ r = 1) ∨ (g.length ≤ 60 ∧ (∃ l ∈ g, 8 < l.length) ∧ r = 1) ∨ (g.length ≤ 60 ∧ (∀ l ∈ g, l.length ≤ 8) ∧ (∃ l ∈ g, ¬ goodRow (picks g) l) ∧ r = 140) ∨
  (g.length ≤ 60 ∧ (∀ l ∈ g, l.length ≤ 8) ∧ (∀ l ∈ g, goodRow (picks g) l) ∧ r = 0)

theorem isGains_of (g : List (List FR)) : ∃ r, isGains g r := by
  by_cases h1 : 60 < g.length
  · exact ⟨1, Or.inl ⟨h1, rfl⟩⟩
  · by_cases h2 : ∃ l ∈ g, 8 < l.length
    · exact ⟨1, Or.inr (Or.inl ⟨by omega, h2, rfl⟩)⟩
    · have h2' : ∀ l ∈ g, l.length ≤ 8 := fun l hl => Nat.not_lt.1 (fun h => h2 ⟨l, hl, h⟩)
      by_cases h3 : ∃ l ∈ g, ¬ goodRow (picks g) l
      · exact ⟨140, Or.inr (Or.inr (Or.inl ⟨by omega, h2', h3, rfl⟩))⟩
      · exact ⟨0, Or.inr (Or.inr (Or.inr ⟨by omega, h2', fun l hl => Classical.byContradiction fun h => h3 ⟨l, hl, h⟩, rfl⟩))⟩

theorem forall_take {α : Type} {P : α → Prop} {l : List α} {i : Nat} (h : i < l.length) (h1 : ∀ x ∈ l.take i, P x) (h2 : P l[i]) : ∀ x ∈ l.take (i + 1), P x := by
  intro x hx
  rw [take_snoc l i h] at hx
  rcases List.mem_append.1 hx with hx | hx
  · exact h1 x hx
  · simp at hx; subst hx; exact h2

theorem picks_zero {g : List (List FR)} (h : 0 < g.length) : g[0].length = picks g := by
  cases g with
  | nil => simp at h
  | cons x l => rfl

theorem fix_neg1 : (frQ (-1)).fix = -1 ∧ (frQ (-1)).ok := by
  have : mz (-1) ≤ 2048 := by have : mz (-1) = 1 := by decide +kernel
                              omega
  exact ⟨fix_mz this, ok_mz this⟩

set_option maxRecDepth 20000 in
set_option maxHeartbeats 2000000 in
theorem gains_s (g : List (List FR)) (hg : ∀ l ∈ g, ∀ f ∈ l, f.ok) (h0 : g.length ≤ 1048576) (h1 : ∀ l ∈ g, l.length ≤ 1048576) (r : Int) (hr : isGains g r) : CallsS Try.prog 11 [.one (rowsS g)] (I .i64 r) := by
  have i1 := intR_s 1 (by decide) (by decide)
  have i2 := intR_s (-1) (by decide) (by decide)
  obtain ⟨o1, o2, o3⟩ := fix_one
  obtain ⟨n1, n2⟩ := fix_neg1
  rw [show (((1 : Int) : Rat)) = 1 from rfl] at i1
  rw [show (((-1 : Int) : Rat)) = -1 by decide +kernel] at i2
  refine calls Try.func11 rfl (by rfl) (by rfl) (by kernel_rfl) ?_
  by_cases c0 : (60 : Int) < g.length
  · have : r = 1 := by
      rcases hr with ⟨_, h⟩ | ⟨h, _⟩ | ⟨h, _⟩ | ⟨h, _⟩
      · exact h
      all_goals omega
    simp -dsimp -implicitDefEqProofs [Try.f11, c0, this]
  simp -dsimp -implicitDefEqProofs [Try.f11, c0]
  refine sw_loop_e (fun p : {p : Nat // p ≤ g.length ∧ ∀ l ∈ g.take p, l.length ≤ 8} => SS.of [(0, .v (.one (rowsS g))), (3, I .i64 p.1)] [] 0)
    (fun p => g.length - p.1) ⟨0, Nat.zero_le _, by simp⟩ (by kernel_rfl) (Le.to (by simp) (by simp) (by simp)) ?_
  rintro ⟨i, hi, hq⟩
  by_cases a1 : i < g.length
  · have wi : IntKind.i64.wrap ((i : Int) + 1) = ((i + 1 : Nat) : Int) := by rw [wrap_i64 _ (by omega) (by omega)]; rfl
    by_cases c1 : (8 : Int) < g[i].length
    · have : r = 1 := by
        rcases hr with ⟨_, h⟩ | ⟨_, _, h⟩ | ⟨_, h, _⟩ | ⟨_, h, _⟩
        · exact h
        · exact h
        all_goals (have := h _ (List.getElem_mem a1); omega)
      simp -dsimp -implicitDefEqProofs [a1, wi, c1, this]
    · simp -dsimp -implicitDefEqProofs [a1, wi, c1]
      exact Again.by ⟨i + 1, a1, forall_take a1 hq (by omega)⟩ (Le.to (by simp [wi]) (by simp) (by simp)) (by simp; omega)
  have hi2 : i = g.length := by omega
  subst hi2
  rw [List.take_length] at hq
  simp -dsimp -implicitDefEqProofs
  refine sw_loop_e (fun p : {p : Nat // p ≤ g.length ∧ ∀ l ∈ g.take p, goodRow (picks g) l} => SS.of [(0, .v (.one (rowsS g))), (4, I .i64 p.1)] [] 0)
    (fun p => g.length - p.1) ⟨0, Nat.zero_le _, by simp⟩ (by kernel_rfl) (Le.to (by simp) (by simp) (by simp)) ?_
  rintro ⟨t, ht, hq2⟩
  have bad : ∀ l ∈ g, ¬ goodRow (picks g) l → r = 140 := fun l hl hb => by
    rcases hr with ⟨h, _⟩ | ⟨_, ⟨l', h, h'⟩, _⟩ | ⟨_, _, _, h⟩ | ⟨_, _, h, _⟩
    · omega
    · have := hq l' h; omega
    · exact h
    · exact absurd (h l hl) hb
  by_cases a1 : t < g.length
  · have wt : IntKind.i64.wrap ((t : Int) + 1) = ((t + 1 : Nat) : Int) := by rw [wrap_i64 _ (by omega) (by omega)]; rfl
    have g0 : 0 < g.length := by omega
    have hp := picks_zero g0
    have hrow := hg _ (List.getElem_mem a1)
    have hrl := h1 _ (List.getElem_mem a1)
    have hmem := List.getElem_mem a1
    generalize hR : g[t] = R at *
    by_cases c1 : R.length = 0
    · have := bad R hmem (fun h => h.1 c1)
      have c1' : R = [] := List.length_eq_zero_iff.1 c1
      simp -dsimp -implicitDefEqProofs [a1, wt, hR, c1', this]
    by_cases c2 : R.length = picks g
    case neg =>
      have := bad R hmem (fun h => c2 h.2.1)
      have c1' : ¬ R = [] := fun h => c1 (by rw [h]; rfl)
      have c2' : ¬ R.length = g[0].length := by rw [hp]; exact c2
      simp -dsimp -implicitDefEqProofs [a1, wt, hR, c1', c2', g0, this]
    have c1' : ¬ R = [] := fun h => c1 (by rw [h]; rfl)
    have c2' : R.length = g[0].length := by rw [hp]; exact c2
    have c3' : ¬ g[0] = [] := fun h => c1 (by rw [c2', h]; rfl)
    simp -dsimp -implicitDefEqProofs [a1, wt, hR, c1', c2', c3', g0]
    refine sw_loop_e (fun p : {p : Nat // p ≤ R.length ∧ ∀ f ∈ R.take p, goodX f} => SS.of [(0, .v (.one (rowsS g))), (4, I .i64 t), (5, I .i64 p.1)] [] 0)
      (fun p => R.length - p.1) ⟨0, Nat.zero_le _, by simp⟩ (by kernel_rfl) (Le.to (by simp) (by simp) (by simp)) ?_
    rintro ⟨k, hk, hq3⟩
    by_cases b1 : k < R.length
    · have wk : IntKind.i64.wrap ((k : Int) + 1) = ((k + 1 : Nat) : Int) := by rw [wrap_i64 _ (by omega) (by omega)]; rfl
      have hok : R[k].ok := hrow _ (List.getElem_mem b1)
      have hc1 := cmpR_s R[k] (frQ 1) hok o2
      have hc2 := cmpR_s R[k] (frQ (-1)) hok n2
      rw [o1, frS_frQ] at hc1
      rw [n1, frS_frQ] at hc2
      simp -dsimp -implicitDefEqProofs [a1, wk, hR, b1]
      refine eCall.of i1 (by simp) ?_
      simp -dsimp -implicitDefEqProofs
      refine eCall.of hc1 (by simp) ?_
      by_cases d1 : 1 < R[k].fix
      · have d2 : 0 < cmpQ R[k].fix 1 := cmpQ_pos.2 d1
        have := bad R hmem (fun h => absurd (h.2.2 _ (List.getElem_mem b1)).1 (Rat.not_le.2 d1))
        simp -dsimp -implicitDefEqProofs [d2, this]
      have d2 : ¬ 0 < cmpQ R[k].fix 1 := mt cmpQ_pos.1 d1
      simp -dsimp -implicitDefEqProofs [d2, a1, hR, b1]
      refine eCall.of i2 (by simp) ?_
      simp -dsimp -implicitDefEqProofs [d2]
      refine eCall.of hc2 (by simp) ?_
      by_cases e1 : R[k].fix < -1
      · have e2 : cmpQ R[k].fix (-1) < 0 := cmpQ_neg.2 e1
        have := bad R hmem (fun h => absurd (h.2.2 _ (List.getElem_mem b1)).2 (Rat.not_le.2 e1))
        simp -dsimp -implicitDefEqProofs [d2, e2, this]
      have e2 : ¬ cmpQ R[k].fix (-1) < 0 := mt cmpQ_neg.1 e1
      simp -dsimp -implicitDefEqProofs [d2, e2]
      exact Again.by ⟨k + 1, b1, forall_take b1 hq3 ⟨Rat.not_lt.1 d1, Rat.not_lt.1 e1⟩⟩ (Le.to (by simp [wk]) (by simp) (by simp)) (by simp; omega)
    · have hk2 : k = R.length := by omega
      subst hk2
      rw [List.take_length] at hq3
      simp -dsimp -implicitDefEqProofs [a1, hR]
      exact Again.by ⟨t + 1, a1, forall_take a1 hq2 (by rw [hR]; exact ⟨c1, c2, hq3⟩)⟩ (Le.to (by simp [wt]) (by simp) (by simp)) (by simp; omega)
  · have ht2 : t = g.length := by omega
    subst ht2
    rw [List.take_length] at hq2
    have : r = 0 := by
      rcases hr with ⟨h, _⟩ | ⟨_, ⟨l', h, h'⟩, _⟩ | ⟨_, _, ⟨l', h, h'⟩, _⟩ | ⟨_, _, _, h⟩
      · omega
      · have := hq l' h; omega
      · exact absurd (hq2 l' h) h'
      · exact h
    simp -dsimp -implicitDefEqProofs [this]
end Go.Proofs.Ytockjmmogkhepaa.Sh

/- One who learns by weights: plain. -/
namespace Go.Proofs.Ytockjmmogkhepaa.Sh
open Go Go.RowKit

@[simp] def rowG (l : List FR) : List S1 := [frsS l]
instance : RowF 1 rowG := ⟨fun _ => rfl, fun x s h => by simp at h; subst h; rfl⟩

/-- The weights behind a round. -/
def stepW (w : List Rat) (xs : List FR) : List Rat := List.zipWith (fun q x => grow q x.fix) w xs
/-- The weights ahead of round t. -/
def wAt (n : Nat) (g : List (List FR)) : Nat → List Rat
  | 0 => List.replicate n 1
  | t + 1 => stepW (wAt n g t) (g.getD t [])
/-- The chances by some weights. -/
def chanceW (w : List Rat) : List Rat := w.map fun q => cap (q / sumQ w)
/-- The chances, round by round. -/
def outF (n : Nat) (g : List (List FR)) (i : Nat) : List (List FR) := (List.range i).map fun t => (chanceW (wAt n g t)).map frQ

theorem outF_snoc (n : Nat) (g : List (List FR)) (i : Nat) : outF n g (i + 1) = outF n g i ++ [(chanceW (wAt n g i)).map frQ] := by
  unfold outF; rw [List.range_succ, List.map_append]; rfl
theorem outF_len (n : Nat) (g : List (List FR)) (i : Nat) : (outF n g i).length = i := by simp [outF]

/-- Gains that are right and small. -/
structure GW (g : List (List FR)) (n : Nat) : Prop where
  n0 : n ≠ 0
  n8 : n ≤ 8
  len : g.length ≤ 60
  row : ∀ l ∈ g, l.length = n
  ok : ∀ l ∈ g, ∀ f ∈ l, f.ok
  good : ∀ l ∈ g, ∀ f ∈ l, goodX f
  mz : ∀ l ∈ g, ∀ f ∈ l, mz f.fix ≤ 1

section
variable {g : List (List FR)} {n : Nat}
theorem wAt_len (h : GW g n) : ∀ t, t ≤ g.length → (wAt n g t).length = n
  | 0, _ => by simp [wAt]
  | t + 1, ht => by
    have h1 := wAt_len h t (by omega)
    have h2 := h.row _ (List.getElem_mem (show t < g.length by omega))
    simp only [wAt, stepW, List.length_zipWith, h1]
    rw [getD_of [] (show t < g.length by omega), h2, Nat.min_self]

theorem grow_pos {q x : Rat} (h : 0 < q) (h1 : -1 ≤ x) : 0 < grow q x := by
  unfold grow
  exact Rat.mul_pos h (by grind)

theorem wAt_ok (h : GW g n) : ∀ t, t ≤ g.length → ∀ q ∈ wAt n g t, 0 < q ∧ mz q ≤ 1 + 4 * t
  | 0, _ => by
    intro q hq
    have := (List.mem_replicate.1 hq).2
    subst this
    rw [mz_one]
    exact ⟨by decide, by omega⟩
  | t + 1, ht => by
    intro q hq
    simp only [wAt, stepW] at hq
    rw [getD_of [] (show t < g.length by omega)] at hq
    obtain ⟨i, hi, rfl⟩ := List.getElem_of_mem hq
    rw [List.length_zipWith] at hi
    rw [List.getElem_zipWith]
    have hm := List.getElem_mem (show t < g.length by omega)
    have hx := List.getElem_mem (show i < g[t].length by omega)
    obtain ⟨h1, h2⟩ := wAt_ok h t (by omega) _ (List.getElem_mem (show i < (wAt n g t).length by omega))
    have h3 := h.good _ hm _ hx
    have h4 := h.mz _ hm _ hx
    refine ⟨grow_pos h1 h3.2, ?_⟩
    have := mz_grow (wAt n g t)[i] (g[t])[i].fix
    omega

theorem sumQ_pos : ∀ {l : List Rat}, l ≠ [] → (∀ q ∈ l, 0 < q) → 0 < sumQ l
  | [], h, _ => absurd rfl h
  | [q], _, h => by have := h q (by simp); simp only [sumQ]; grind
  | q :: r :: l, _, h => by
    have h1 := h q (by simp)
    have h2 : 0 < sumQ (r :: l) := sumQ_pos (by simp) (fun x hx => h x (by simp at hx ⊢; exact Or.inr hx))
    rw [sumQ]; grind

theorem wAt_sum (h : GW g n) (t : Nat) (ht : t ≤ g.length) : 0 < sumQ (wAt n g t) ∧ mz (sumQ (wAt n g t)) ≤ 8 * (2 + 4 * t) + 1 := by
  have h1 := wAt_len h t ht
  have hne : wAt n g t ≠ [] := fun e => h.n0 (by rw [← h1, e]; rfl)
  refine ⟨sumQ_pos hne (fun q hq => (wAt_ok h t ht q hq).1), ?_⟩
  have h2 := mz_sum (wAt n g t) (1 + 4 * t) (fun q hq => (wAt_ok h t ht q hq).2)
  rw [h1] at h2
  have h3 := Nat.mul_le_mul_right (1 + 4 * t + 1) h.n8
  have e : 1 + 4 * t + 1 = 2 + 4 * t := by omega
  rw [e] at h2 h3
  omega

theorem fix_map {l : List Rat} (h : ∀ q ∈ l, mz q ≤ 2048) : (l.map frQ).map FR.fix = l := by
  rw [List.map_map]
  conv => rhs; rw [← List.map_id l]
  exact List.map_congr_left (fun q hq => fix_mz (h q hq))

theorem wAt_small (h : GW g n) (t : Nat) (ht : t ≤ g.length) : Small ((wAt n g t).map frQ) (1 + 4 * t) := by
  have hl := h.len
  have hm : ∀ q ∈ wAt n g t, mz q ≤ 2048 := fun q hq => by have := (wAt_ok h t ht q hq).2; omega
  refine ⟨fun f hf => ?_, fun q hq => ?_, ?_⟩
  · obtain ⟨q, hq, rfl⟩ := List.mem_map.1 hf
    exact ok_mz (hm q hq)
  · rw [fix_map hm] at hq
    exact (wAt_ok h t ht q hq).2
  · rw [List.length_map, wAt_len h t ht]
    have h3 := Nat.mul_le_mul_right (1 + 4 * t + 1) h.n8
    omega

theorem wAt_next (h : GW g n) (t : Nat) (ht : t < g.length) (k : Nat) (h1 : k < (wAt n g t).length) (h2 : k < g[t].length) (h3 : k < (wAt n g (t + 1)).length) : (wAt n g (t + 1))[k] = grow (wAt n g t)[k] (g[t])[k].fix := by
  simp only [wAt, stepW]
  simp only [getD_of [] ht]
  rw [List.getElem_zipWith]

theorem chanceW_len (w : List Rat) : (chanceW w).length = w.length := by simp [chanceW]
end
end Go.Proofs.Ytockjmmogkhepaa.Sh

/- One who learns by weights: the reference's walk. -/
namespace Go.Proofs.Ytockjmmogkhepaa.Sh
open Go Go.RowKit

theorem gw_gains {g : List (List FR)} {n : Nat} (h : GW g n) (hp : picks g = n) : isGains g 0 :=
  Or.inr (Or.inr (Or.inr ⟨h.len, fun l hl => by rw [h.row l hl]; exact h.n8, fun l hl => ⟨by rw [h.row l hl]; exact h.n0, by rw [h.row l hl, hp], h.good l hl⟩, rfl⟩))

theorem ne_off {x c : Nat} (h : x < c) : ¬ x = c ∧ ¬ x = c + 1 ∧ ¬ x = c + 1 + 1 ∧ ¬ x = c + 1 + 1 + 1 ∧ ¬ x = c + 1 + 1 + 1 + 1 ∧ ¬ x = c + 1 + 1 + 1 + 1 + 1 ∧ ¬ x = c + 2 ∧ ¬ x = c + 3 ∧ ¬ x = c + 4 := by omega

theorem rep_snoc {α : Type} (i : Nat) (x : α) : List.replicate (i + 1) x = List.replicate i x ++ [x] := List.replicate_succ'

set_option maxRecDepth 20000 in
set_option maxHeartbeats 4000000 in
theorem weighR_s (g : List (List FR)) (n : Nat) (h : GW g n) (hne : g ≠ []) (hp : picks g = n) : CallsS Try.prog 13 [.one (rowsS g)] (.tup [.one (rowsS (outF n g g.length)), .one (.int .i64 0)]) := by
  have i1 := intR_s 1 (by decide) (by decide)
  rw [show (((1 : Int) : Rat)) = 1 from rfl] at i1
  have hlen := h.len
  have hn8 := h.n8
  have hn0 := h.n0
  have g0 : 0 < g.length := List.length_pos_iff.2 hne
  have hp0 : g[0].length = n := (picks_zero g0).trans hp
  rw [← frS_frQ] at i1
  obtain ⟨F, hF⟩ : ∃ F, F = frQ 1 := ⟨_, rfl⟩
  rw [← hF] at i1
  have hgs := gains_s g h.ok (by omega) (fun l hl => by rw [h.row l hl]; omega) 0 (gw_gains h hp)
  refine calls Try.func13 rfl (by rfl) (by rfl) (by kernel_rfl) ?_
  simp -dsimp -implicitDefEqProofs [Try.f13]
  refine eCall.of hgs (by simp) ?_
  simp -dsimp -implicitDefEqProofs [hne]
  refine sw_loop_e (fun p : {p : Nat × Nat × Nat // p.1 ≤ n ∧ (p.1 ≠ 0 → p.2.2 < p.2.1)} => SS.of [(0, .v (.one (rowsS g))), (5, if p.1.1 = 0 then .v (.one .nils) else .v (.one (.ms p.1.2.2 0 p.1.1 3 true))), (6, I .i64 p.1.1)] (if p.1.1 = 0 then [] else [(p.1.2.2, ⟨26, flat rowFr (List.replicate p.1.1 F)⟩)]) p.1.2.1)
    (fun p => n - p.1.1) ⟨(0, 0, 0), Nat.zero_le _, fun h => absurd rfl h⟩ (by kernel_rfl) (Le.to (by simp) (by simp) (by simp)) ?_
  rintro ⟨⟨i, c, o⟩, hi, hoc⟩
  simp only at hi hoc
  by_cases a1 : i < n
  · have wi : IntKind.i64.wrap ((i : Int) + 1) = ((i + 1 : Nat) : Int) := by rw [wrap_i64 _ (by omega) (by omega)]; rfl
    have hfl := flat_snoc (f := rowFr) F (List.replicate i F)
    rw [← rep_snoc] at hfl
    simp -dsimp -implicitDefEqProofs [g0, hp0, a1, wi]
    refine eCall.of i1 (by simp) ?_
    by_cases i0 : i = 0
    · subst i0
      simp -dsimp -implicitDefEqProofs [slots]
      have hfl : flat rowFr [F] = rowFr F := by simp [flat]
      exact Again.by ⟨(1, c + 2, c + 1), by omega, by simp only; omega⟩ (Le.to (by simp [i64_one']) (by simp [hfl]) (by simp)) (by simp; omega)
    · have oc1 : ¬ o = c := by have := hoc i0; omega
      simp -dsimp -implicitDefEqProofs [i0, slots, oc1]
      refine ⟨by omega, ?_⟩
      exact Again.by ⟨(i + 1, c + 2, c + 1), by omega, by simp only; omega⟩ (Le.to (by simp [wi]) (by simp [hfl]) (by simp)) (by simp; omega)
  have hi2 : i = n := by omega
  subst hi2
  simp -dsimp -implicitDefEqProofs [g0, hp0, hn0]
  refine sw_loop_e (fun p : {p : Nat × Nat × Nat // p.1 ≤ g.length ∧ (p.1 ≠ 0 → p.2.2 < p.2.1)} => SS.of [(0, .v (.one (rowsS g))), (5, .v (.one (frsS ((wAt i g p.1.1).map frQ)))), (7, if p.1.1 = 0 then .v (.one .nils) else .v (.one (.ms p.1.2.2 0 p.1.1 1 true))), (8, I .i64 p.1.1)] (if p.1.1 = 0 then [] else [(p.1.2.2, ⟨23, flat rowG (outF i g p.1.1)⟩)]) p.1.2.1)
    (fun p => g.length - p.1.1) ⟨(0, c, 0), Nat.zero_le _, fun h => absurd rfl h⟩ (by kernel_rfl) (Le.fzF [o] (Le.to (by simp [wAt, ← hF]) (by simp) (by simp))) ?_
  rintro ⟨⟨t, c1, oo⟩, ht, hoo⟩
  simp only at ht hoo
  by_cases b1 : t < g.length
  · have wt : IntKind.i64.wrap ((t : Int) + 1) = ((t + 1 : Nat) : Int) := by rw [wrap_i64 _ (by omega) (by omega)]; rfl
    have hWl := wAt_len h t ht
    have hWl' := wAt_len h (t + 1) b1
    have hWm := fun q hq => (wAt_ok h t ht q hq).2
    have hsum := sumF_s _ _ (wAt_small h t ht)
    rw [fix_map (fun q hq => by have := hWm q hq; omega)] at hsum
    obtain ⟨hS1, hS2⟩ := wAt_sum h t ht
    obtain ⟨w, hw⟩ : ∃ w, w = (wAt i g t).map frQ := ⟨_, rfl⟩
    obtain ⟨rowL, hrow⟩ : ∃ w, w = (chanceW (wAt i g t)).map frQ := ⟨_, rfl⟩
    obtain ⟨nextL, hnext⟩ : ∃ w, w = (wAt i g (t + 1)).map frQ := ⟨_, rfl⟩
    obtain ⟨SF, hSF⟩ : ∃ w, w = frQ (sumQ (wAt i g t)) := ⟨_, rfl⟩
    have hgt := h.row _ (List.getElem_mem b1)
    have wl : w.length = i := by rw [hw]; simp [hWl]
    have rl : rowL.length = i := by rw [hrow]; simp [chanceW_len, hWl]
    have nl : nextL.length = i := by rw [hnext]; simp [hWl']
    have hdiv : ∀ k (h1 : k < w.length) (h2 : k < rowL.length), CallsS Try.prog 27 [frS w[k], frS SF] (.tup [frS rowL[k], .one (.int .i64 0)]) := by
      intro k h1 h2
      have hk : k < (wAt i g t).length := by omega
      have m1 := hWm _ (List.getElem_mem hk)
      have e1 : w[k] = frQ (wAt i g t)[k] := by simp [hw]
      have e2 : rowL[k] = frQ (cap ((wAt i g t)[k] / sumQ (wAt i g t))) := by simp [hrow, chanceW]
      have := divR_s (frQ (wAt i g t)[k]) (frQ (sumQ (wAt i g t))) (ok_mz (by omega)) (ok_mz (by omega)) (by rw [fix_mz (by omega)]; grind)
      rw [fix_mz (by omega), fix_mz (by omega), ← frS_frQ, ← e1, ← e2, ← hSF] at this
      exact this
    have hgrow : ∀ k (h1 : k < w.length) (h2 : k < nextL.length) (h3 : k < g[t].length), CallsS Try.prog 17 [frS w[k], frS g[t][k]] (.v (frS nextL[k])) := by
      intro k h1 h2 h3
      have hk : k < (wAt i g t).length := by omega
      have hk' : k < (wAt i g (t + 1)).length := by omega
      have m1 := hWm _ (List.getElem_mem hk)
      have m2 := h.mz _ (List.getElem_mem b1) _ (List.getElem_mem h3)
      have m3 := (wAt_ok h (t + 1) b1 _ (List.getElem_mem hk')).2
      have e1 : w[k] = frQ (wAt i g t)[k] := by simp [hw]
      have e2 : nextL[k] = frQ (wAt i g (t + 1))[k] := by simp [hnext]
      have e3 := wAt_next h t b1 k hk h3 hk'
      rw [e3] at m3
      have := grows_s (frQ (wAt i g t)[k]) g[t][k] (ok_mz (by omega)) (h.ok _ (List.getElem_mem b1) _ (List.getElem_mem h3)) (by omega) (by rw [fix_mz (by omega)]; omega)
      rw [fix_mz (by omega), ← e3, ← frS_frQ, ← e1, ← e2] at this
      exact this
    rw [← frS_frQ, ← hSF, ← hw] at hsum
    have hsnoc := outF_snoc i g t
    rw [← hrow] at hsnoc
    have holen := outF_len i g t
    rw [← hw]
    have hflo := flat_snoc (f := rowG) rowL (outF i g t)
    rw [← hsnoc] at hflo
    have hflo' : flat rowG (outF i g t ++ [rowL]) = flat rowG (outF i g t) ++ [S1.sl true 3 (rowL.map rowFr)] := by rw [← hsnoc]; exact hflo
    by_cases t0 : t = 0
    · subst t0
      simp -dsimp -implicitDefEqProofs [b1, hgt]
      refine eCall.of hsum (by simp) ?_
      simp -dsimp -implicitDefEqProofs [hgt]
      refine sw_loop_e (fun p : {p : Nat × Nat × Nat × Nat // p.1 ≤ i ∧ c1 < p.2.1 ∧ (p.1 ≠ 0 → c1 < p.2.2.1 ∧ p.2.2.1 < p.2.1 ∧ c1 < p.2.2.2 ∧ p.2.2.2 < p.2.1 ∧ p.2.2.1 ≠ p.2.2.2)} => SS.of [(0, .v (.one (rowsS g))), (5, .v (.one (frsS w))), (7, .v (.one .nils)), (8, I .i64 0), (9, .v (.one (.mp c1 0))), (10, if p.1.1 = 0 then .v (.one .nils) else .v (.one (.ms p.1.2.2.1 0 p.1.1 3 true))), (11, if p.1.1 = 0 then .v (.one .nils) else .v (.one (.ms p.1.2.2.2 0 p.1.1 3 true))), (12, I .i64 p.1.1)]
          ((if p.1.1 = 0 then [] else [(p.1.2.2.1, ⟨26, flat rowFr (rowL.take p.1.1)⟩), (p.1.2.2.2, ⟨26, flat rowFr (nextL.take p.1.1)⟩)]) ++ (c1, ⟨26, rowFr SF⟩) :: []) p.1.2.1)
        (fun p => i - p.1.1) ⟨(0, c1 + 1, 0, 0), Nat.zero_le _, by simp only; omega, fun h => absurd rfl h⟩ (by kernel_rfl) (Le.to (by simp [hgt]) (by simp [hgt, hgt]) (by simp)) ?_
      rintro ⟨⟨k, c, orow, omore⟩, hk, hc1, hoc⟩
      simp only at hk hc1 hoc
      by_cases d1 : k < i
      · have wk : IntKind.i64.wrap ((k : Int) + 1) = ((k + 1 : Nat) : Int) := by rw [wrap_i64 _ (by omega) (by omega)]; rfl
        have k1 : k < w.length := by omega
        have k2 : k < rowL.length := by omega
        have k3 : k < nextL.length := by omega
        have k4 : k < g[0].length := by omega
        have hfl1 := flat_snoc (f := rowFr) rowL[k] (rowL.take k)
        rw [← take_snoc rowL k k2] at hfl1
        have hfl2 := flat_snoc (f := rowFr) nextL[k] (nextL.take k)
        rw [← take_snoc nextL k k3] at hfl2
        have hd := hdiv k k1 k2
        have hg := hgrow k k1 k3 k4
        generalize rowL[k] = RK at *
        generalize nextL[k] = NK at *
        have z1 := ne_off (show c1 < c by omega)
        by_cases k0 : k = 0
        · subst k0
          simp -dsimp -implicitDefEqProofs [d1, wl, z1, b1, hgt, hgt]
          refine eCall.of hd (by simp) ?_
          simp -dsimp -implicitDefEqProofs [d1, wl, z1, b1, hgt, slots, hgt]
          refine eCall.of hg (by simp) ?_
          simp -dsimp -implicitDefEqProofs [d1, wl, z1, b1, hgt, slots, hgt]
          have f1 : flat rowFr (rowL.take 1) = rowFr RK := by simpa [flat_nil] using hfl1
          have f2 : flat rowFr (nextL.take 1) = rowFr NK := by simpa [flat_nil] using hfl2
          exact Again.by ⟨(1, c + 5, c + 2, c + 4), by omega, by simp only; omega, fun _ => by simp only; omega⟩ (Le.to (by simp [i64_one', hgt]) (by simp [f1, f2, z1, hgt]) (by simp)) (by simp; omega)
        · obtain ⟨g1, g2, g3, g4, g5⟩ := hoc k0
          have y1 : ¬ c1 = orow := by omega
          have y2 : ¬ c1 = omore := by omega
          have y3 : ¬ orow = omore := g5
          have y3' : ¬ omore = orow := fun h => g5 h.symm
          have y4 := ne_off (show orow < c by omega)
          have y5 := ne_off (show omore < c by omega)
          have y7 : ¬ c + 2 = omore := by omega
          have L1 : (rowL.take k).length = k := by simp; omega
          have L2 : (nextL.take k).length = k := by simp; omega
          simp -dsimp -implicitDefEqProofs [d1, wl, k1, b1, hgt, wk, k0, z1, y1, y2, hgt]
          refine eCall.of hd (by simp) ?_
          simp -dsimp -implicitDefEqProofs [d1, wl, k1, b1, hgt, wk, k0, z1, y1, y2, y3, y3', y4, y5, L1, L2, slots, hgt]
          refine ⟨by omega, ?_⟩
          refine eCall.of hg (by simp) ?_
          simp -dsimp -implicitDefEqProofs [d1, wl, k1, b1, hgt, wk, k0, z1, y1, y2, y3, y3', y4, y5, L1, L2, slots, hgt]
          refine ⟨by omega, ?_⟩
          exact Again.by ⟨(k + 1, c + 5, c + 2, c + 4), by omega, by simp only; omega, fun _ => by simp only; omega⟩ (Le.to (by simp [wk, hgt]) (by simp [hfl1, hfl2, z1, y1, y2, y7, hgt]) (by simp)) (by simp; omega)
      · have k0 : ¬ k = 0 := by omega
        obtain ⟨g1, g2, g3, g4, g5⟩ := hoc k0
        have y1 : ¬ c1 = orow := by omega
        have y2 : ¬ c1 = omore := by omega
        have y3 : ¬ orow = omore := g5
        have y3' : ¬ omore = orow := fun h => g5 h.symm
        have y4 := ne_off (show orow < c by omega)
        have y5 := ne_off (show omore < c by omega)
        have y6 : ¬ c = omore ∧ ¬ c + 1 = omore ∧ ¬ c = orow ∧ ¬ c + 1 = orow := by omega
        obtain rfl : k = i := by omega
        have T1 : rowL.take k = rowL := List.take_of_length_le (by omega)
        have T2 : nextL.take k = nextL := List.take_of_length_le (by omega)
        simp -dsimp -implicitDefEqProofs [wl, rl, nl, k0, T1, T2, y1, y2, y3, y3', y4, y5, slots, holen, hgt, hgt]
        rw [show outF k g 0 = [] from rfl, flat_nil, List.nil_append] at hflo
        refine Again.by ⟨(1, c + 2, c + 1), by omega, fun _ => by simp only; omega⟩ (Le.fzF [omore] (Le.to ?_ ?_ ?_)) (by simp; omega)
        · simp [← hnext, nl, y1, y2, y3, y3', y4, y5, y6, i64_one']
        · simp [y1, y2, y3, y3', y4, y5, y6, hflo]
        · simp [y3, y3', y5]
    · have o1 := hoo t0
      have o2 : ¬ oo = c1 := by omega
      simp -dsimp -implicitDefEqProofs [b1, t0]
      refine eCall.of hsum (by simp) ?_
      simp -dsimp -implicitDefEqProofs [t0]
      refine sw_loop_e (fun p : {p : Nat × Nat × Nat × Nat // p.1 ≤ i ∧ c1 < p.2.1 ∧ (p.1 ≠ 0 → c1 < p.2.2.1 ∧ p.2.2.1 < p.2.1 ∧ c1 < p.2.2.2 ∧ p.2.2.2 < p.2.1 ∧ p.2.2.1 ≠ p.2.2.2)} => SS.of [(0, .v (.one (rowsS g))), (5, .v (.one (frsS w))), (7, .v (.one (.ms oo 0 t 1 true))), (8, I .i64 t), (9, .v (.one (.mp c1 0))), (10, if p.1.1 = 0 then .v (.one .nils) else .v (.one (.ms p.1.2.2.1 0 p.1.1 3 true))), (11, if p.1.1 = 0 then .v (.one .nils) else .v (.one (.ms p.1.2.2.2 0 p.1.1 3 true))), (12, I .i64 p.1.1)]
          ((if p.1.1 = 0 then [] else [(p.1.2.2.1, ⟨26, flat rowFr (rowL.take p.1.1)⟩), (p.1.2.2.2, ⟨26, flat rowFr (nextL.take p.1.1)⟩)]) ++ (c1, ⟨26, rowFr SF⟩) :: [(oo, ⟨23, flat rowG (outF i g t)⟩)]) p.1.2.1)
        (fun p => i - p.1.1) ⟨(0, c1 + 1, 0, 0), Nat.zero_le _, by simp only; omega, fun h => absurd rfl h⟩ (by kernel_rfl) (Le.to (by simp [t0]) (by simp [t0, o2]) (by simp)) ?_
      rintro ⟨⟨k, c, orow, omore⟩, hk, hc1, hoc⟩
      simp only at hk hc1 hoc
      have o3 := ne_off (show oo < c by omega)
      by_cases d1 : k < i
      · have wk : IntKind.i64.wrap ((k : Int) + 1) = ((k + 1 : Nat) : Int) := by rw [wrap_i64 _ (by omega) (by omega)]; rfl
        have k1 : k < w.length := by omega
        have k2 : k < rowL.length := by omega
        have k3 : k < nextL.length := by omega
        have k4 : k < g[t].length := by omega
        have hfl1 := flat_snoc (f := rowFr) rowL[k] (rowL.take k)
        rw [← take_snoc rowL k k2] at hfl1
        have hfl2 := flat_snoc (f := rowFr) nextL[k] (nextL.take k)
        rw [← take_snoc nextL k k3] at hfl2
        have hd := hdiv k k1 k2
        have hg := hgrow k k1 k3 k4
        generalize rowL[k] = RK at *
        generalize nextL[k] = NK at *
        have z1 := ne_off (show c1 < c by omega)
        by_cases k0 : k = 0
        · subst k0
          simp -dsimp -implicitDefEqProofs [d1, wl, z1, b1, hgt, t0]
          refine eCall.of hd (by simp) ?_
          simp -dsimp -implicitDefEqProofs [d1, wl, z1, b1, hgt, slots, t0]
          refine eCall.of hg (by simp) ?_
          simp -dsimp -implicitDefEqProofs [d1, wl, z1, b1, hgt, slots, t0]
          have f1 : flat rowFr (rowL.take 1) = rowFr RK := by simpa [flat_nil] using hfl1
          have f2 : flat rowFr (nextL.take 1) = rowFr NK := by simpa [flat_nil] using hfl2
          exact Again.by ⟨(1, c + 5, c + 2, c + 4), by omega, by simp only; omega, fun _ => by simp only; omega⟩ (Le.to (by simp [i64_one', t0]) (by simp [f1, f2, z1, o2, o3]) (by simp)) (by simp; omega)
        · obtain ⟨g1, g2, g3, g4, g5⟩ := hoc k0
          have y1 : ¬ c1 = orow := by omega
          have y2 : ¬ c1 = omore := by omega
          have y3 : ¬ orow = omore := g5
          have y3' : ¬ omore = orow := fun h => g5 h.symm
          have y4 := ne_off (show orow < c by omega)
          have y5 := ne_off (show omore < c by omega)
          have y7 : ¬ c + 2 = omore := by omega
          have L1 : (rowL.take k).length = k := by simp; omega
          have L2 : (nextL.take k).length = k := by simp; omega
          simp -dsimp -implicitDefEqProofs [d1, wl, k1, b1, hgt, wk, k0, z1, y1, y2, t0]
          refine eCall.of hd (by simp) ?_
          simp -dsimp -implicitDefEqProofs [d1, wl, k1, b1, hgt, wk, k0, z1, y1, y2, y3, y3', y4, y5, L1, L2, slots, t0]
          refine ⟨by omega, ?_⟩
          refine eCall.of hg (by simp) ?_
          simp -dsimp -implicitDefEqProofs [d1, wl, k1, b1, hgt, wk, k0, z1, y1, y2, y3, y3', y4, y5, L1, L2, slots, t0]
          refine ⟨by omega, ?_⟩
          exact Again.by ⟨(k + 1, c + 5, c + 2, c + 4), by omega, by simp only; omega, fun _ => by simp only; omega⟩ (Le.to (by simp [wk, t0]) (by simp [hfl1, hfl2, z1, y1, y2, y7, o2, o3, (show ¬ oo = orow by omega), (show ¬ oo = omore by omega)]) (by simp)) (by simp; omega)
      · have k0 : ¬ k = 0 := by omega
        obtain ⟨g1, g2, g3, g4, g5⟩ := hoc k0
        have y1 : ¬ c1 = orow := by omega
        have y2 : ¬ c1 = omore := by omega
        have y3 : ¬ orow = omore := g5
        have y3' : ¬ omore = orow := fun h => g5 h.symm
        have y4 := ne_off (show orow < c by omega)
        have y5 := ne_off (show omore < c by omega)
        have y6 : ¬ c = omore ∧ ¬ c + 1 = omore ∧ ¬ c = orow ∧ ¬ c + 1 = orow := by omega
        have p1 : ¬ oo = orow := by omega
        have p2 : ¬ oo = omore := by omega
        have p1' : ¬ orow = oo := by omega
        have p2' : ¬ omore = oo := by omega
        obtain rfl : k = i := by omega
        have T1 : rowL.take k = rowL := List.take_of_length_le (by omega)
        have T2 : nextL.take k = nextL := List.take_of_length_le (by omega)
        simp -dsimp -implicitDefEqProofs [wl, rl, nl, k0, T1, T2, y1, y2, y3, y3', y4, y5, slots, holen, o2, o3, p1, p2, p1', p2', t0]
        refine ⟨by omega, ?_⟩
        refine Again.by ⟨(t + 1, c + 2, c + 1), by omega, fun _ => by simp only; omega⟩ (Le.fzF [omore] (Le.to ?_ ?_ ?_)) (by simp; omega)
        · simp [← hnext, nl, wt, y1, y2, y3, y3', y4, y5, y6, o3, p1, p2, p1', p2']
        · simp [y1, y2, y3, y3', y4, y5, y6, hflo, p1, p2, p1', p2', o3]
        · simp [y3, y3', y5, p1, p2, p1', p2', o3]
  · obtain rfl : t = g.length := by omega
    have t0 : ¬ g.length = 0 := by omega
    have holen := outF_len i g g.length
    simp -dsimp -implicitDefEqProofs [t0, hne, holen]
end Go.Proofs.Ytockjmmogkhepaa.Sh

/- One who learns by weights: lists for the walk of crowd.Weigh. -/
namespace Go.Proofs.Ytockjmmogkhepaa.Sh
open Go Go.RowKit

/-- The first ones from one list, the others from another. -/
def mix {α : Type} (a b : List α) (k : Nat) : List α := a.take k ++ b.drop k
theorem mix_len {α : Type} {a b : List α} (h : a.length = b.length) (k : Nat) : (mix a b k).length = b.length := by
  unfold mix; rw [List.length_append, List.length_take, List.length_drop]; omega
theorem mix_zero {α : Type} (a b : List α) : mix a b 0 = b := by simp [mix]
theorem mix_get {α : Type} {a b : List α} (h : a.length = b.length) {k : Nat} (hk : k < b.length) (h2 : k < (mix a b k).length) : (mix a b k)[k] = b[k] := by
  have h3 : (mix a b k)[k]? = b[k]? := by
    unfold mix
    rw [List.getElem?_append_right (by rw [List.length_take]; omega), List.getElem?_drop, List.length_take, Nat.min_eq_left (by omega), Nat.sub_self, Nat.add_zero]
  rw [List.getElem?_eq_getElem h2, List.getElem?_eq_getElem hk] at h3
  exact Option.some.inj h3
theorem mix_set {α : Type} {a b : List α} (h : a.length = b.length) {k : Nat} (hk : k < b.length) (hk' : k < a.length) : (mix a b k).set k a[k] = mix a b (k + 1) := by
  unfold mix
  rw [List.set_append_right _ _ (by rw [List.length_take]; omega), List.length_take, Nat.min_eq_left (by omega), Nat.sub_self, take_snoc a k hk', List.append_assoc, List.drop_eq_getElem_cons hk]
  rfl
theorem mix_pad {α : Type} {a b p : List α} (h : a.length = b.length) : mix (a ++ p) (b ++ p) a.length = a ++ p := by
  unfold mix
  rw [List.take_left, h, List.drop_left]

/-- Cells of an array, put out one after the other. -/
theorem rows_take {e : Nat} {α : Type} {f : α → List S1} [RowF e f] (a p : List α) : rowsOf (flat f (a ++ p)) 0 e a.length = a.map f := by
  apply List.ext_getElem
  · simp [rowsOf]
  · intro i h1 h2
    simp [rowsOf] at h1 ⊢
    rw [flat_row (e := e) (f := f) (a ++ p) i (by simp; omega)]
    rw [List.getElem_append_left h1]

theorem sum_peek (w p : List FR) (n : Nat) (o full) (ty : Nat) (hn : w.length = n) (hw : ∀ f ∈ w, f.ok) (h1 : n ≤ 1048576) (h0 : o = 0) :
    CallsX Try.prog 35 [.one (.ms o 0 n 3 full)] [⟨ty, flat rowFr (w ++ p)⟩] (.v (fS (cap (sumQ (w.map FR.fix))))) [some ⟨ty, flat rowFr (w ++ p)⟩] := by
  subst hn h0
  refine CallsX.peek (ys := [.one (.ms 0 0 w.length 3 full)]) (objs := [⟨ty, flat rowFr (w ++ p)⟩]) ?_ ?_
  · have hcl : (flat rowFr (w ++ p)).map S1.close = flat rowFr (w ++ p) := close_flat (e := 3) _
    have hle : 0 + w.length * 3 ≤ (flat rowFr (w ++ p)).length := by rw [flat_len (e := 3)]; simp; omega
    have := fsum_g false w hw h1
    show CallsS Try.prog 35 [.one (S1.peek [⟨ty, flat rowFr (w ++ p)⟩] (.ms 0 0 w.length 3 full))] _
    simp only [S1.peek, List.getElem?_cons_zero]
    rw [if_pos hle, hcl, rows_take (e := 3)]
    exact this
  · intro s hs
    simp at hs
    rcases hs with rfl | rfl | rfl
    · exact .bool _
    · exact .ints _ _
    · exact .ints _ _
end Go.Proofs.Ytockjmmogkhepaa.Sh

