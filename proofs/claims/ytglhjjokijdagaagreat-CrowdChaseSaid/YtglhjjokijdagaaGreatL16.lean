/- A part of the proof: R33, R34, R35, R36, R37 -/
import Derived.Test.YtglhjjokijdagaaGreatL15
set_option linter.unusedSimpArgs false
set_option linter.unusedVariables false
set_option linter.unusedSectionVars false
/- Lists of names, sizes, swaps, rising lists in the reference. -/
namespace Go.Proofs.YtglhjjokijdagaaGreat.Sh
open Go Go.RowKit

def NamesOk (l : List ByteArray) : Prop := (∀ s ∈ l, isNm s = true) ∧ l.Nodup
theorem placeS_lt {s : ByteArray} {l : List ByteArray} {i : Nat} (h : s ∈ l.take i) : ∃ k, k < i ∧ placeS s l = some k := by
  induction l generalizing i with
  | nil => simp at h
  | cons x l ih =>
    cases i with
    | zero => simp at h
    | succ i =>
      rw [placeS]
      by_cases e : x = s
      · exact ⟨0, by omega, if_pos e⟩
      · rw [List.take_succ_cons, List.mem_cons] at h
        rcases h with h | h
        · exact absurd h.symm e
        · obtain ⟨k, hk, he⟩ := ih h
          exact ⟨k + 1, by omega, by rw [if_neg e, he]; rfl⟩
theorem nodup_take {α : Type} {l : List α} {i : Nat} (h : i < l.length) (h1 : (l.take i).Nodup) (h2 : l[i] ∉ l.take i) : (l.take (i + 1)).Nodup := by
  rw [List.take_add_one, List.getElem?_eq_getElem h]
  refine List.nodup_append.2 ⟨h1, by simp, ?_⟩
  intro a ha b hb
  simp at hb; subst hb
  exact fun e => h2 (e ▸ ha)
theorem not_nodup {α : Type} {l : List α} {i : Nat} (h : i < l.length) (h2 : l[i] ∈ l.take i) : ¬ l.Nodup := by
  intro hn
  rw [← List.take_append_drop i l, List.drop_eq_getElem_cons h] at hn
  exact (List.nodup_append.1 hn).2.2 _ h2 _ (List.mem_cons_self ..) rfl
theorem all_take {α : Type} {P : α → Prop} {l : List α} {i : Nat} (h : i < l.length) (h1 : ∀ x ∈ l.take i, P x) (h2 : P l[i]) : ∀ x ∈ l.take (i + 1), P x := by
  intro x hx
  rw [List.take_add_one, List.getElem?_eq_getElem h] at hx
  rcases List.mem_append.1 hx with hx | hx
  · exact h1 x hx
  · simp at hx; subst hx; exact h2

set_option maxRecDepth 20000 in
theorem names_s (l : List ByteArray) (hl : lenOk l) (ho : ∀ s ∈ l, s.size ≤ 140737488355328) : ∀ b, (b = true ↔ NamesOk l) → CallsS Tryz.prog 112 [.one (strsS l)] (B b) := by
  intro b hb
  have hlo := hl
  unfold lenOk at hl
  refine calls Tryz.func112 rfl (by rfl) (by rfl) (by kernel_rfl) ?_
  simp -dsimp -implicitDefEqProofs [Tryz.f112]
  refine sw_loop_e (fun p : {p : Nat // p ≤ l.length ∧ (∀ s ∈ l.take p, isNm s = true) ∧ (l.take p).Nodup} => SS.of [(0, .v (.one (strsS l))), (3, I .i64 p.1)] [] 0)
    (fun p => l.length - p.1) ⟨0, Nat.zero_le _, by simp, by simp⟩ (by kernel_rfl) (Le.to (by simp) (by simp) (by simp)) ?_
  rintro ⟨i, hi, hp, hq⟩
  by_cases a1 : i < l.length
  · have wi : IntKind.i64.wrap ((i : Int) + 1) = ((i + 1 : Nat) : Int) := by rw [wrap_i64 _ (by omega) (by omega)]; rfl
    have hn := name_s l[i] (ho _ (List.getElem_mem a1))
    have hpl := place_s l l[i] hlo
    simp -dsimp -implicitDefEqProofs [a1, wi]
    by_cases c1 : isNm l[i] = true
    · rw [c1] at hn
      refine eCall.of hn (by simp) ?_
      simp -dsimp -implicitDefEqProofs [a1]
      by_cases c2 : l[i] ∈ l.take i
      · obtain ⟨k, hk, he⟩ := placeS_lt c2
        rw [he, show placeI (some k) = (k : Int) from rfl] at hpl
        have hb' : b = false := by cases b; rfl; exact absurd (hb.1 rfl).2 (not_nodup a1 c2)
        refine eCall.of hpl (by simp) ?_
        simp -dsimp -implicitDefEqProofs [show ¬ k = i by omega, hb']
      · have hd := placeS_drop (s := l[i]) (l := l) i (fun x hx => fun e => c2 (e ▸ hx))
        rw [List.drop_eq_getElem_cons a1, placeS, if_pos rfl, Option.map_some, Nat.zero_add] at hd
        rw [hd, show placeI (some i) = (i : Int) from rfl] at hpl
        refine eCall.of hpl (by simp) ?_
        simp -dsimp -implicitDefEqProofs
        exact Again.by ⟨i + 1, a1, all_take a1 hp c1, nodup_take a1 hq c2⟩ (Le.to (by simp [wi]) (by simp) (by simp)) (by simp; omega)
    · have c1 : isNm l[i] = false := by simpa using c1
      rw [c1] at hn
      have hb' : b = false := by cases b; rfl; exact absurd ((hb.1 rfl).1 _ (List.getElem_mem a1)) (by rw [c1]; decide)
      refine eCall.of hn (by simp) ?_
      simp -dsimp -implicitDefEqProofs [hb']
  have hi2 : i = l.length := by omega
  subst hi2
  rw [List.take_length] at hp hq
  have hb' : b = true := hb.2 ⟨hp, hq⟩
  simp -dsimp -implicitDefEqProofs [hb']

theorem takeSnoc {α : Type} (l : List α) (i : Nat) (h : i < l.length) : l.take (i + 1) = l.take i ++ [l[i]] := by rw [List.take_add_one, List.getElem?_eq_getElem h]; rfl

theorem i64_1 : IntKind.i64.wrap 1 = 1 := by decide
@[simp] def rowStr (s : ByteArray) : List S1 := [.str s]
instance : RowF 1 rowStr := ⟨fun _ => rfl, fun x s h => by simp at h; subst h; rfl⟩
theorem strs_row (l : List ByteArray) : (l.map fun s => [S1.str s]) = l.map rowStr := rfl

set_option maxRecDepth 20000 in
theorem agents_s (g : Gm) (h : g.agents.length ≤ 1048576) : CallsS Tryz.prog 113 [gmS g] (.v (.one (strsS (g.agents.map Ag.name)))) := by
  refine calls Tryz.func113 rfl (by rfl) (by rfl) (by kernel_rfl) ?_
  simp -dsimp -implicitDefEqProofs [Tryz.f113]
  refine sw_loop_e (fun p : {p : Nat × Nat × Nat // p.1 ≤ g.agents.length ∧ p.2.2 < p.2.1 + 1 ∧ (p.1 ≠ 0 → 0 < p.2.2)} => SS.of [(1, .v (.one (.mp 0 0))), (3, if p.1.1 = 0 then .v (.one .nils) else .v (.one (.ms p.1.2.2 0 p.1.1 1 true))), (4, I .i64 p.1.1)] ((0, ⟨26, rowGm g⟩) :: if p.1.1 = 0 then [] else [(p.1.2.2, ⟨9, flat rowStr ((g.agents.map Ag.name).take p.1.1)⟩)]) (p.1.2.1 + 1))
    (fun p => g.agents.length - p.1.1) ⟨(0, 0, 0), Nat.zero_le _, by decide, fun h => absurd rfl h⟩ (by kernel_rfl) (Le.to (by simp) (by simp) (by simp)) ?_
  rintro ⟨⟨i, c, o⟩, hi, hoc, hoc'⟩
  simp only at hi hoc hoc'
  by_cases a1 : i < g.agents.length
  · have wi : IntKind.i64.wrap ((i : Int) + 1) = ((i + 1 : Nat) : Int) := by rw [wrap_i64 _ (by omega) (by omega)]; rfl
    have hfl := flat_snoc (f := rowStr) g.agents[i].name ((g.agents.map Ag.name).take i)
    have hsn := takeSnoc (g.agents.map Ag.name) i (by simpa using a1)
    rw [List.getElem_map] at hsn
    rw [← hsn] at hfl
    have hll : ((g.agents.map Ag.name).take i).length = i := by simp; omega
    by_cases i0 : i = 0
    · subst i0
      simp -dsimp -implicitDefEqProofs [a1, wi, slots]
      rw [show (g.agents.map Ag.name).take 0 = [] from rfl, flat_nil, List.nil_append] at hfl
      exact Again.by ⟨(1, c + 2, c + 2), by omega, by simp only; omega, by simp only; omega⟩ (Le.to (by simp [i64_1]) (by simp [hfl]) (by simp)) (by simp; omega)
    · have oc1 : ¬ o = c + 1 := by omega
      have o0 : ¬ o = 0 := by have := hoc' i0; omega
      simp -dsimp -implicitDefEqProofs [a1, wi, i0, slots, hll, oc1, o0]
      refine ⟨by omega, ?_⟩
      exact Again.by ⟨(i + 1, c + 2, c + 2), by omega, by simp only; omega, by simp only; omega⟩ (Le.to (by simp [wi]) (by simp [hfl, show ¬ 0 = o by omega]) (by simp)) (by simp; omega)
  have hi2 : i = g.agents.length := by omega
  subst hi2
  by_cases i0 : g.agents.length = 0
  · simp -dsimp -implicitDefEqProofs [i0, List.length_eq_zero_iff.1 i0]
  · have o0 : ¬ o = 0 := by have := hoc' i0; omega
    simp -dsimp -implicitDefEqProofs [i0, o0]
    rw [List.take_of_length_le (by simp)]; rfl
set_option maxRecDepth 20000 in
theorem kinds_s (a : Ag) (h : a.kinds.length ≤ 1048576) : CallsS Tryz.prog 149 [agS a] (.v (.one (strsS (a.kinds.map Kd.name)))) := by
  refine calls Tryz.func149 rfl (by rfl) (by rfl) (by kernel_rfl) ?_
  simp -dsimp -implicitDefEqProofs [Tryz.f149]
  refine sw_loop_e (fun p : {p : Nat × Nat × Nat // p.1 ≤ a.kinds.length ∧ p.2.2 < p.2.1 + 1 ∧ (p.1 ≠ 0 → 0 < p.2.2)} => SS.of [(1, .v (.one (.mp 0 0))), (3, if p.1.1 = 0 then .v (.one .nils) else .v (.one (.ms p.1.2.2 0 p.1.1 1 true))), (4, I .i64 p.1.1)] ((0, ⟨63, rowAg a⟩) :: if p.1.1 = 0 then [] else [(p.1.2.2, ⟨9, flat rowStr ((a.kinds.map Kd.name).take p.1.1)⟩)]) (p.1.2.1 + 1))
    (fun p => a.kinds.length - p.1.1) ⟨(0, 0, 0), Nat.zero_le _, by decide, fun h => absurd rfl h⟩ (by kernel_rfl) (Le.to (by simp) (by simp) (by simp)) ?_
  rintro ⟨⟨i, c, o⟩, hi, hoc, hoc'⟩
  simp only at hi hoc hoc'
  by_cases a1 : i < a.kinds.length
  · have wi : IntKind.i64.wrap ((i : Int) + 1) = ((i + 1 : Nat) : Int) := by rw [wrap_i64 _ (by omega) (by omega)]; rfl
    have hfl := flat_snoc (f := rowStr) a.kinds[i].name ((a.kinds.map Kd.name).take i)
    have hsn := takeSnoc (a.kinds.map Kd.name) i (by simpa using a1)
    rw [List.getElem_map] at hsn
    rw [← hsn] at hfl
    have hll : ((a.kinds.map Kd.name).take i).length = i := by simp; omega
    by_cases i0 : i = 0
    · subst i0
      simp -dsimp -implicitDefEqProofs [a1, wi, slots]
      rw [show (a.kinds.map Kd.name).take 0 = [] from rfl, flat_nil, List.nil_append] at hfl
      exact Again.by ⟨(1, c + 2, c + 2), by omega, by simp only; omega, by simp only; omega⟩ (Le.to (by simp [i64_1]) (by simp [hfl]) (by simp)) (by simp; omega)
    · have oc1 : ¬ o = c + 1 := by omega
      have o0 : ¬ o = 0 := by have := hoc' i0; omega
      simp -dsimp -implicitDefEqProofs [a1, wi, i0, slots, hll, oc1, o0]
      refine ⟨by omega, ?_⟩
      exact Again.by ⟨(i + 1, c + 2, c + 2), by omega, by simp only; omega, by simp only; omega⟩ (Le.to (by simp [wi]) (by simp [hfl, show ¬ 0 = o by omega]) (by simp)) (by simp; omega)
  have hi2 : i = a.kinds.length := by omega
  subst hi2
  by_cases i0 : a.kinds.length = 0
  · simp -dsimp -implicitDefEqProofs [i0, List.length_eq_zero_iff.1 i0]
  · have o0 : ¬ o = 0 := by have := hoc' i0; omega
    simp -dsimp -implicitDefEqProofs [i0, o0]
    rw [List.take_of_length_le (by simp)]; rfl

def prodK (l : List Ag) : Nat := l.foldl (fun n a => n * a.kinds.length) 1
def sizeOk (g : Gm) : Bool := decide (g.agents.length ≤ 4) && decide (g.outs.length ≤ 6) && decide (g.needs.length ≤ 12) && g.agents.all (fun a => decide (a.kinds.length ≤ 4)) && decide (prodK g.agents ≤ 16)

theorem prodK_take {l : List Ag} {i : Nat} (h : i < l.length) : prodK (l.take (i + 1)) = prodK (l.take i) * l[i].kinds.length := foldl_take _ 1 l i h
theorem prodK_le {l : List Ag} (h : ∀ a ∈ l, a.kinds.length ≤ 4) : ∀ i, i ≤ l.length → prodK (l.take i) ≤ 4 ^ i
  | 0, _ => Nat.le_refl _
  | i + 1, hi => by
    rw [prodK_take (by omega), Nat.pow_succ]
    exact Nat.mul_le_mul (prodK_le h i (by omega)) (h _ (List.getElem_mem _))

set_option maxRecDepth 20000 in
theorem size_s (g : Gm) (hg : g.agents.length ≤ 1048576) : CallsS Tryz.prog 111 [gmS g] (B (sizeOk g)) := by
  refine calls Tryz.func111 rfl (by rfl) (by rfl) (by kernel_rfl) ?_
  by_cases l1 : (4 : Int) < (g.agents.length : Int)
  · have hb : sizeOk g = false := by unfold sizeOk; rw [decide_eq_false (show ¬ g.agents.length ≤ 4 by omega)]; simp
    simp -dsimp -implicitDefEqProofs [Tryz.f111, l1, hb]
  by_cases l2 : (6 : Int) < (g.outs.length : Int)
  · have hb : sizeOk g = false := by unfold sizeOk; rw [decide_eq_false (show ¬ g.outs.length ≤ 6 by omega)]; simp
    simp -dsimp -implicitDefEqProofs [Tryz.f111, l1, l2, hb]
  by_cases l3 : (12 : Int) < (g.needs.length : Int)
  · have hb : sizeOk g = false := by unfold sizeOk; rw [decide_eq_false (show ¬ g.needs.length ≤ 12 by omega)]; simp
    simp -dsimp -implicitDefEqProofs [Tryz.f111, l1, l2, l3, hb]
  simp -dsimp -implicitDefEqProofs [Tryz.f111, l1, l2, l3]
  refine sw_loop_e (fun p : {p : Nat // p ≤ g.agents.length ∧ ∀ a ∈ g.agents.take p, a.kinds.length ≤ 4} => SS.of [(1, .v (.one (.mp 0 0))), (3, I .i64 (prodK (g.agents.take p.1))), (4, I .i64 p.1)] [(0, ⟨26, rowGm g⟩)] 1)
    (fun p => g.agents.length - p.1) ⟨0, Nat.zero_le _, by simp⟩ (by kernel_rfl) (Le.to (by simp [prodK]) (by simp) (by simp)) ?_
  rintro ⟨i, hi, hp⟩
  by_cases a1 : i < g.agents.length
  · have wi : IntKind.i64.wrap ((i : Int) + 1) = ((i + 1 : Nat) : Int) := by rw [wrap_i64 _ (by omega) (by omega)]; rfl
    by_cases c1 : (4 : Int) < (g.agents[i].kinds.length : Int)
    · have hb : sizeOk g = false := by
        unfold sizeOk
        rw [List.all_eq_false.2 ⟨_, List.getElem_mem a1, by simp; omega⟩]; simp
      simp -dsimp -implicitDefEqProofs [a1, wi, c1, hb]
    have c2 : g.agents[i].kinds.length ≤ 4 := by omega
    have hp2 := all_take a1 hp c2
    have h4 := prodK_le (l := g.agents.take (i + 1)) hp2 (i + 1) (by simp; omega)
    rw [List.take_take, Nat.min_self] at h4
    have h5 : (4 : Nat) ^ (i + 1) ≤ 4 ^ 4 := Nat.pow_le_pow_right (by decide) (by omega)
    have ht := prodK_take a1
    have wm : IntKind.i64.wrap ((prodK (g.agents.take i) : Int) * (g.agents[i].kinds.length : Int)) = (prodK (g.agents.take (i + 1)) : Int) := by
      rw [ht] at h4 ⊢
      rw [← Int.natCast_mul, wrap_i64 _ (by omega) (by omega)]
    simp -dsimp -implicitDefEqProofs [a1, wi, c1]
    exact Again.by ⟨i + 1, a1, hp2⟩ (Le.to (by simp [wi, wm]) (by simp) (by simp)) (by simp; omega)
  have hi2 : i = g.agents.length := by omega
  subst hi2
  rw [List.take_length] at hp
  have hb : sizeOk g = decide ((prodK g.agents : Int) ≤ 16) := by
    unfold sizeOk
    rw [decide_eq_true (show g.agents.length ≤ 4 by omega), decide_eq_true (show g.outs.length ≤ 6 by omega), decide_eq_true (show g.needs.length ≤ 12 by omega), List.all_eq_true.2 (fun a ha => by simpa using hp a ha)]
    simp only [Bool.true_and]
    exact decide_eq_decide.2 (by omega)
  simp -dsimp -implicitDefEqProofs [hb]

def SwapOk (l : List Int) (outs : Nat) : Prop := l.length = outs ∧ ∀ i (h : i < l.length), (0 ≤ l[i] ∧ l[i] < (outs : Int)) ∧ l[l[i].toNat]? = some (i : Int)

set_option maxRecDepth 20000 in
theorem swap_s (l : List Int) (n : Nat) (hn : n ≤ 1048576) : ∀ b, (b = true ↔ SwapOk l n) → CallsS Tryz.prog 150 [.one (intsS l), .one (.int .i64 (n : Int))] (B b) := by
  intro b hb
  refine calls Tryz.func150 rfl (by rfl) (by rfl) (by kernel_rfl) ?_
  by_cases l1 : l.length = n
  · subst l1
    simp -dsimp -implicitDefEqProofs [Tryz.f150]
    refine sw_loop_e (fun p : {p : Nat // p ≤ l.length ∧ ∀ x ∈ l.take p, 0 ≤ x ∧ x < (l.length : Int)} => SS.of [(0, .v (.one (intsS l))), (1, I .i64 l.length), (5, I .i64 p.1)] [] 0)
      (fun p => l.length - p.1) ⟨0, Nat.zero_le _, by simp⟩ (by kernel_rfl) (Le.to (by simp) (by simp) (by simp)) ?_
    rintro ⟨i, hi, hp⟩
    by_cases a1 : i < l.length
    · have wi : IntKind.i64.wrap ((i : Int) + 1) = ((i + 1 : Nat) : Int) := by rw [wrap_i64 _ (by omega) (by omega)]; rfl
      by_cases c1 : l[i] < 0
      · have hb' : b = false := by cases b; rfl; exact absurd ((hb.1 rfl).2 i a1).1.1 (by omega)
        simp -dsimp -implicitDefEqProofs [a1, wi, c1, hb']
      by_cases c2 : (l.length : Int) ≤ l[i]
      · have hb' : b = false := by cases b; rfl; exact absurd ((hb.1 rfl).2 i a1).1.2 (by omega)
        simp -dsimp -implicitDefEqProofs [a1, wi, c1, c2, hb']
      simp -dsimp -implicitDefEqProofs [a1, wi, c1, c2]
      exact Again.by ⟨i + 1, a1, all_take a1 hp ⟨by omega, by omega⟩⟩ (Le.to (by simp [wi]) (by simp) (by simp)) (by simp; omega)
    have hi2 : i = l.length := by omega
    subst hi2
    rw [List.take_length] at hp
    simp -dsimp -implicitDefEqProofs
    refine sw_loop_e (fun p : {p : Nat // p ≤ l.length ∧ ∀ i (h : i < l.length), i < p → l[l[i].toNat]? = some (i : Int)} => SS.of [(0, .v (.one (intsS l))), (6, I .i64 p.1)] [] 0)
      (fun p => l.length - p.1) ⟨0, Nat.zero_le _, fun i _ h => absurd h (by omega)⟩ (by kernel_rfl) (Le.to (by simp) (by simp) (by simp)) ?_
    rintro ⟨i, hi, hq⟩
    by_cases a1 : i < l.length
    · have wi : IntKind.i64.wrap ((i : Int) + 1) = ((i + 1 : Nat) : Int) := by rw [wrap_i64 _ (by omega) (by omega)]; rfl
      obtain ⟨p1, p2⟩ := hp _ (List.getElem_mem a1)
      have p3 : l[i].toNat < l.length := by omega
      by_cases c1 : l[l[i].toNat] = (i : Int)
      · simp -dsimp -implicitDefEqProofs [a1, wi, p1, p2, p3, c1]
        refine Again.by ⟨i + 1, a1, fun j hj hji => ?_⟩ (Le.to (by simp [wi]) (by simp) (by simp)) (by simp; omega)
        by_cases e : j = i
        · subst e; rw [List.getElem?_eq_getElem p3, c1]
        · exact hq j hj (by omega)
      · have hb' : b = false := by
          cases b; rfl
          have := ((hb.1 rfl).2 i a1).2
          rw [List.getElem?_eq_getElem p3] at this
          exact absurd (Option.some.inj this) c1
        simp -dsimp -implicitDefEqProofs [a1, wi, p1, p2, p3, c1, hb']
    have hi2 : i = l.length := by omega
    subst hi2
    have hb' : b = true := hb.2 ⟨rfl, fun i h => ⟨hp _ (List.getElem_mem h), hq i h h⟩⟩
    simp -dsimp -implicitDefEqProofs [hb']
  · have hb' : b = false := by cases b; rfl; exact absurd (hb.1 rfl).1 l1
    simp -dsimp -implicitDefEqProofs [Tryz.f150, hb', show ¬ (l.length : Int) = n by omega]

def RiseOk (l : List Int) (outs : Nat) : Prop := 0 < l.length ∧ ∀ i (h : i < l.length), (0 ≤ l[i] ∧ l[i] < (outs : Int)) ∧ (0 < i → ∃ x, l[i - 1]? = some x ∧ x < l[i])

set_option maxRecDepth 20000 in
theorem rising_s (l : List Int) (n : Nat) (hn : n ≤ 1048576) (hl : lenOk l) : ∀ b, (b = true ↔ RiseOk l n) → CallsS Tryz.prog 151 [.one (intsS l), .one (.int .i64 (n : Int))] (B b) := by
  intro b hb
  unfold lenOk at hl
  refine calls Tryz.func151 rfl (by rfl) (by rfl) (by kernel_rfl) ?_
  simp -dsimp -implicitDefEqProofs [Tryz.f151]
  refine sw_loop_e (fun p : {p : Nat // p ≤ l.length ∧ ∀ i (h : i < l.length), i < p → (0 ≤ l[i] ∧ l[i] < (n : Int)) ∧ (0 < i → ∃ x, l[i - 1]? = some x ∧ x < l[i])} => SS.of [(0, .v (.one (intsS l))), (1, I .i64 n), (5, I .i64 p.1)] [] 0)
    (fun p => l.length - p.1) ⟨0, Nat.zero_le _, fun i _ h => absurd h (by omega)⟩ (by kernel_rfl) (Le.to (by simp) (by simp) (by simp)) ?_
  rintro ⟨i, hi, hp⟩
  by_cases a1 : i < l.length
  · have wi : IntKind.i64.wrap ((i : Int) + 1) = ((i + 1 : Nat) : Int) := by rw [wrap_i64 _ (by omega) (by omega)]; rfl
    by_cases c1 : l[i] < 0
    · have hb' : b = false := by cases b; rfl; exact absurd ((hb.1 rfl).2 i a1).1.1 (by omega)
      simp -dsimp -implicitDefEqProofs [a1, wi, c1, hb']
    by_cases c2 : (n : Int) ≤ l[i]
    · have hb' : b = false := by cases b; rfl; exact absurd ((hb.1 rfl).2 i a1).1.2 (by omega)
      simp -dsimp -implicitDefEqProofs [a1, wi, c1, c2, hb']
    by_cases i0 : i = 0
    · subst i0
      simp -dsimp -implicitDefEqProofs [a1, wi, c1, c2]
      refine Again.by ⟨0 + 1, a1, fun j hj hji => ?_⟩ (Le.to (by simp [i64_1]) (by simp) (by simp)) (by simp; omega)
      obtain rfl : j = 0 := by omega
      exact ⟨⟨by omega, by omega⟩, fun h => absurd h (by omega)⟩
    · obtain ⟨k, hk⟩ : ∃ k, i = k + 1 := ⟨i - 1, by omega⟩
      have wk : IntKind.i64.wrap ((i : Int) - 1) = (k : Int) := by rw [wrap_i64 _ (by omega) (by omega)]; omega
      have a2 : k < l.length := by omega
      have i1 : 0 < i := by omega
      by_cases c3 : l[i] ≤ l[k]
      · have hb' : b = false := by
          cases b; rfl
          obtain ⟨x, hx, hx2⟩ := ((hb.1 rfl).2 i a1).2 (by omega)
          rw [show i - 1 = k by omega, List.getElem?_eq_getElem a2] at hx
          have := Option.some.inj hx
          omega
        simp -dsimp -implicitDefEqProofs [a1, wi, c1, c2, c3, wk, a2, i1, hb']
      · simp -dsimp -implicitDefEqProofs [a1, wi, c1, c2, c3, wk, a2, i1]
        refine Again.by ⟨i + 1, a1, fun j hj hji => ?_⟩ (Le.to (by simp [wi]) (by simp) (by simp)) (by simp; omega)
        by_cases e : j = i
        · subst e; exact ⟨⟨by omega, by omega⟩, fun _ => ⟨l[k], by rw [show j - 1 = k by omega, List.getElem?_eq_getElem a2], by omega⟩⟩
        · exact hp j hj (by omega)
  have hi2 : i = l.length := by omega
  subst hi2
  by_cases c1 : 0 < l.length
  · have hb' : b = true := hb.2 ⟨c1, fun i h => hp i h h⟩
    simp -dsimp -implicitDefEqProofs [hb', c1]
  · have hb' : b = false := by cases b; rfl; exact absurd (hb.1 rfl).1 c1
    simp -dsimp -implicitDefEqProofs [hb', c1]
end Go.Proofs.YtglhjjokijdagaaGreat.Sh

/- A right game in the reference. -/
namespace Go.Proofs.YtglhjjokijdagaaGreat.Sh
open Go Go.RowKit

theorem nf {b : Bool} {P : Prop} (h : b = true ↔ P) (hn : ¬ P) : b = false := by
  cases b
  · rfl
  · exact absurd (h.1 rfl) hn

def ShapedOk (na no : Nat) (n : Nd) : Prop :=
  if n.kind = 1 ∨ n.kind = 2 ∨ n.kind = 3 then n.agent = 0 ∧ n.other = 0 ∧ sgnQ n.bound.fix = 0 ∧ n.outs = [] ∧ n.swap = []
  else if n.kind = 4 then n.agent = 0 ∧ n.other = 0 ∧ 0 ≤ sgnQ n.bound.fix ∧ n.outs = [] ∧ n.swap = []
  else if n.kind = 5 then 0 ≤ n.agent ∧ n.agent < n.other ∧ n.other < (na : Int) ∧ sgnQ n.bound.fix = 0 ∧ n.outs = [] ∧ SwapOk n.swap no
  else if n.kind = 6 then 0 ≤ n.agent ∧ n.agent < (na : Int) ∧ n.other = 0 ∧ sgnQ n.bound.fix = 0 ∧ RiseOk n.outs no ∧ n.swap = []
  else False

set_option maxRecDepth 20000 in
set_option maxHeartbeats 1000000 in
theorem shaped_s (g : Gm) (n : Nd) (hn : n.ok) (hg : g.outs.length ≤ 1048576) : ∀ b, (b = true ↔ ShapedOk g.agents.length g.outs.length n) → CallsS Tryz.prog 115 [gmS g, ndS n] (B b) := by
  intro b hb
  obtain ⟨-, -, -, n4, n5, n6, -, -⟩ := hn
  have hs := signR_s n.bound n4
  unfold ShapedOk at hb
  refine calls_cut 2 (fun q : {q : Bool × Bool // (q.1 = true ↔ n.agent = 0 ∧ n.other = 0) ∧ (q.2 = true ↔ sgnQ n.bound.fix = 0)} => SS.of [(2, .v (.one (.mp 0 0))), (3, .v (.one (.mp 1 0))), (5, B q.1.1), (6, B q.1.2)] [(0, ⟨26, rowGm g⟩), (1, ⟨132, rowNd n⟩)] 2) Tryz.func115 rfl (by rfl) (by rfl) (by rfl) (by kernel_rfl) (by kernel_rfl) ?_ ?_
  · simp -dsimp -implicitDefEqProofs
    by_cases e1 : n.agent = 0
    · simp -dsimp -implicitDefEqProofs [e1]
      refine eCall.of hs (by simp) ?_
      simp -dsimp -implicitDefEqProofs
      exact Cut.by ⟨(n.other == 0, sgnQ n.bound.fix == 0), by simp [e1], by simp⟩ (Le.to (by simp) (by simp [e1]) (by simp))
    · simp -dsimp -implicitDefEqProofs [e1]
      refine eCall.of hs (by simp) ?_
      simp -dsimp -implicitDefEqProofs
      exact Cut.by ⟨(false, sgnQ n.bound.fix == 0), by simp [e1], by simp⟩ (Le.to (by simp) (by simp) (by simp))
  · rintro ⟨⟨n0, b0⟩, h0, h1⟩
    simp only at h0 h1
    rw [← h1, ← and_assoc (a := n.agent = 0), ← h0, ← and_assoc (a := n.agent = 0), ← h0] at hb
    generalize sgnQ n.bound.fix = s at *
    by_cases k1 : n.kind = 1 ∨ n.kind = 2 ∨ n.kind = 3
    · rw [if_pos k1] at hb
      cases n0 with
      | false =>
        have hb' := nf hb (by simp)
        rcases k1 with k1 | k1 | k1 <;> simp -dsimp -implicitDefEqProofs [k1, hb']
      | true =>
        cases b0 with
        | false =>
          have hb' := nf hb (by simp)
          rcases k1 with k1 | k1 | k1 <;> simp -dsimp -implicitDefEqProofs [k1, hb']
        | true =>
          by_cases e4 : n.outs = []
          · have hb' : b = ((n.swap.length : Int) == 0) := by rw [Bool.eq_iff_iff, hb]; simp [e4]
            rcases k1 with k1 | k1 | k1 <;> simp -dsimp -implicitDefEqProofs [k1, e4, hb']
          · have hb' := nf hb (by simp [e4])
            rcases k1 with k1 | k1 | k1 <;> simp -dsimp -implicitDefEqProofs [k1, e4, hb']
    rw [if_neg k1] at hb
    have k1a : ¬ n.kind = 1 := fun h => k1 (.inl h)
    have k1b : ¬ n.kind = 2 := fun h => k1 (.inr (.inl h))
    have k1c : ¬ n.kind = 3 := fun h => k1 (.inr (.inr h))
    by_cases k4 : n.kind = 4
    · rw [if_pos k4] at hb
      cases n0 with
      | false =>
        have hb' := nf hb (by simp)
        simp -dsimp -implicitDefEqProofs [k4, hb']
      | true =>
        simp -dsimp -implicitDefEqProofs [k4]
        refine eCall.of hs (by simp) ?_
        by_cases e3 : 0 ≤ s
        · by_cases e4 : n.outs = []
          · have hb' : b = ((n.swap.length : Int) == 0) := by rw [Bool.eq_iff_iff, hb]; simp [e3, e4]
            simp -dsimp -implicitDefEqProofs [e3, e4, hb']
          · have hb' := nf hb (by simp [e4])
            simp -dsimp -implicitDefEqProofs [e3, e4, hb']
        · have hb' := nf hb (by simp [e3])
          simp -dsimp -implicitDefEqProofs [e3, hb']
    rw [if_neg k4] at hb
    by_cases k5 : n.kind = 5
    · rw [if_pos k5] at hb
      by_cases e1 : 0 ≤ n.agent
      · by_cases e2 : n.agent < n.other
        · by_cases e3 : n.other < (g.agents.length : Int)
          · cases b0 with
            | false =>
              have hb' := nf hb (by simp)
              simp -dsimp -implicitDefEqProofs [k5, e1, e2, e3, hb']
            | true =>
              by_cases e5 : n.outs = []
              · simp -dsimp -implicitDefEqProofs [k5, e1, e2, e3, e5]
                by_cases e6 : SwapOk n.swap g.outs.length
                · have hb' : b = true := hb.2 ⟨e1, e2, e3, rfl, e5, e6⟩
                  refine eCall.of (swap_s n.swap g.outs.length hg true (by simp [e6])) (by simp) ?_
                  simp -dsimp -implicitDefEqProofs [hb']
                · have hb' := nf hb (by simp [e6])
                  refine eCall.of (swap_s n.swap g.outs.length hg false (by simp [e6])) (by simp) ?_
                  simp -dsimp -implicitDefEqProofs [hb']
              · have hb' := nf hb (by simp [e5])
                simp -dsimp -implicitDefEqProofs [k5, e1, e2, e3, e5, hb']
          · have hb' := nf hb (by simp [e3])
            simp -dsimp -implicitDefEqProofs [k5, e1, e2, e3, hb']
        · have hb' := nf hb (by simp [e2])
          simp -dsimp -implicitDefEqProofs [k5, e1, e2, hb']
      · have hb' := nf hb (by simp [e1])
        simp -dsimp -implicitDefEqProofs [k5, e1, hb']
    rw [if_neg k5] at hb
    by_cases k6 : n.kind = 6
    · rw [if_pos k6] at hb
      by_cases e1 : 0 ≤ n.agent
      · by_cases e2 : n.agent < (g.agents.length : Int)
        · by_cases e3 : n.other = 0
          · cases b0 with
            | false =>
              have hb' := nf hb (by simp)
              simp -dsimp -implicitDefEqProofs [k6, e1, e2, e3, hb']
            | true =>
              simp -dsimp -implicitDefEqProofs [k6, e1, e2, e3]
              by_cases e6 : RiseOk n.outs g.outs.length
              · have hb' : b = ((n.swap.length : Int) == 0) := by rw [Bool.eq_iff_iff, hb]; simp [e1, e2, e3, e6]
                refine eCall.of (rising_s n.outs g.outs.length hg n5 true (by simp [e6])) (by simp) ?_
                simp -dsimp -implicitDefEqProofs [hb']
              · have hb' := nf hb (by simp [e6])
                refine eCall.of (rising_s n.outs g.outs.length hg n5 false (by simp [e6])) (by simp) ?_
                simp -dsimp -implicitDefEqProofs [hb']
          · have hb' := nf hb (by simp [e3])
            simp -dsimp -implicitDefEqProofs [k6, e1, e2, e3, hb']
        · have hb' := nf hb (by simp [e2])
          simp -dsimp -implicitDefEqProofs [k6, e1, e2, hb']
      · have hb' := nf hb (by simp [e1])
        simp -dsimp -implicitDefEqProofs [k6, e1, hb']
    rw [if_neg k6] at hb
    have hb' := nf hb (fun h => h)
    simp -dsimp -implicitDefEqProofs [k1a, k1b, k1c, k4, k5, k6, hb']
end Go.Proofs.YtglhjjokijdagaaGreat.Sh

/- A right game in the reference, further. -/
namespace Go.Proofs.YtglhjjokijdagaaGreat.Sh
open Go Go.RowKit

def sameNd (m n : Nd) : Prop := m.kind = n.kind ∧ n.kind ≠ 6 ∧ m.agent = n.agent ∧ m.other = n.other
def AgainOk (l : List Nd) (n : Nd) : Prop := ∃ m ∈ l, sameNd m n

set_option maxRecDepth 20000 in
theorem again_s (l : List Nd) (n : Nd) (hl : lenOk l) : ∀ b, (b = true ↔ AgainOk l n) → CallsS Tryz.prog 116 [.one (ndsS l), ndS n] (B b) := by
  intro b hb
  unfold lenOk at hl
  refine calls Tryz.func116 rfl (by rfl) (by rfl) (by kernel_rfl) ?_
  simp -dsimp -implicitDefEqProofs [Tryz.f116]
  refine sw_loop_e (fun p : {p : Nat // p ≤ l.length ∧ ∀ m ∈ l.take p, ¬ sameNd m n} => SS.of [(0, .v (.one (ndsS l))), (3, .v (.one (.mp 0 0))), (5, I .i64 p.1)] [(0, ⟨132, rowNd n⟩)] 1)
    (fun p => l.length - p.1) ⟨0, Nat.zero_le _, by simp⟩ (by kernel_rfl) (Le.to (by simp) (by simp) (by simp)) ?_
  rintro ⟨i, hi, hp⟩
  by_cases a1 : i < l.length
  · have wi : IntKind.i64.wrap ((i : Int) + 1) = ((i + 1 : Nat) : Int) := by rw [wrap_i64 _ (by omega) (by omega)]; rfl
    by_cases c1 : l[i].kind = n.kind
    · by_cases c2 : n.kind = 6
      · have hn : ¬ sameNd l[i] n := fun h => h.2.1 c2
        simp -dsimp -implicitDefEqProofs [a1, wi, c1, c2]
        exact Again.by ⟨i + 1, a1, all_take a1 hp hn⟩ (Le.to (by simp [wi]) (by simp [c2]) (by simp)) (by simp; omega)
      · by_cases c3 : l[i].agent = n.agent
        · by_cases c4 : l[i].other = n.other
          · have hb' : b = true := hb.2 ⟨_, List.getElem_mem a1, c1, c2, c3, c4⟩
            simp -dsimp -implicitDefEqProofs [a1, wi, c1, c2, c3, c4, hb']
          · have hn : ¬ sameNd l[i] n := fun h => c4 h.2.2.2
            simp -dsimp -implicitDefEqProofs [a1, wi, c1, c2, c3, c4]
            exact Again.by ⟨i + 1, a1, all_take a1 hp hn⟩ (Le.to (by simp [wi]) (by simp) (by simp)) (by simp; omega)
        · have hn : ¬ sameNd l[i] n := fun h => c3 h.2.2.1
          simp -dsimp -implicitDefEqProofs [a1, wi, c1, c2, c3]
          exact Again.by ⟨i + 1, a1, all_take a1 hp hn⟩ (Le.to (by simp [wi]) (by simp) (by simp)) (by simp; omega)
    · have hn : ¬ sameNd l[i] n := fun h => c1 h.1
      simp -dsimp -implicitDefEqProofs [a1, wi, c1]
      exact Again.by ⟨i + 1, a1, all_take a1 hp hn⟩ (Le.to (by simp [wi]) (by simp) (by simp)) (by simp; omega)
  have hi2 : i = l.length := by omega
  subst hi2
  rw [List.take_length] at hp
  have hb' := nf hb (fun ⟨m, hm, h⟩ => hp m hm h)
  simp -dsimp -implicitDefEqProofs [hb']

def RKd (no : Nat) (k : Kd) : Prop := ¬ sgnQ k.weight.fix < 0 ∧ k.worth.length = no
def RAgOk (no : Nat) (a : Ag) : Prop := a.kinds ≠ [] ∧ NamesOk (a.kinds.map Kd.name) ∧ ∀ k ∈ a.kinds, RKd no k

set_option maxRecDepth 20000 in
theorem rightAgent_s (a : Ag) (no : Nat) (ha : a.ok) (h1 : a.kinds.length ≤ 1048576) : ∀ b, (b = true ↔ RAgOk no a) → CallsS Tryz.prog 114 [agS a, .one (.int .i64 (no : Int))] (B b) := by
  intro b hb
  obtain ⟨-, -, hk⟩ := ha
  have hns := names_s (a.kinds.map Kd.name) (by unfold lenOk; rw [List.length_map]; omega) (fun s hs => by obtain ⟨k, hk1, rfl⟩ := List.mem_map.1 hs; exact (hk k hk1).1)
  refine calls Tryz.func114 rfl (by rfl) (by rfl) (by kernel_rfl) ?_
  by_cases e1 : a.kinds = []
  · have hb' := nf hb (fun h => h.1 e1)
    simp -dsimp -implicitDefEqProofs [Tryz.f114, e1, hb']
  simp -dsimp -implicitDefEqProofs [Tryz.f114, e1]
  refine eCall.of (kinds_s a h1) (by simp) ?_
  simp -dsimp -implicitDefEqProofs
  by_cases e2 : NamesOk (a.kinds.map Kd.name)
  · refine eCall.of (hns true (by simp [e2])) (by simp) ?_
    simp -dsimp -implicitDefEqProofs
    refine sw_loop_e (fun p : {p : Nat // p ≤ a.kinds.length ∧ ∀ k ∈ a.kinds.take p, RKd no k} => SS.of [(1, I .i64 no), (2, .v (.one (.mp 0 0))), (5, I .i64 p.1)] [(0, ⟨63, rowAg a⟩)] 1)
      (fun p => a.kinds.length - p.1) ⟨0, Nat.zero_le _, by simp⟩ (by kernel_rfl) (Le.to (by simp) (by simp) (by simp)) ?_
    rintro ⟨i, hi, hp⟩
    by_cases a1 : i < a.kinds.length
    · have wi : IntKind.i64.wrap ((i : Int) + 1) = ((i + 1 : Nat) : Int) := by rw [wrap_i64 _ (by omega) (by omega)]; rfl
      obtain ⟨k1, k2, k3, k4, k5⟩ := hk _ (List.getElem_mem a1)
      have hs := signR_s a.kinds[i].weight k2
      simp -dsimp -implicitDefEqProofs [a1, wi]
      refine eCall.of hs (by simp) ?_
      by_cases c1 : sgnQ a.kinds[i].weight.fix < 0
      · have hb' := nf hb (fun h => (h.2.2 _ (List.getElem_mem a1)).1 c1)
        simp -dsimp -implicitDefEqProofs [c1, hb']
      · by_cases c2 : a.kinds[i].worth.length = no
        · simp -dsimp -implicitDefEqProofs [a1, c1, c2]
          exact Again.by ⟨i + 1, a1, all_take a1 hp ⟨c1, c2⟩⟩ (Le.to (by simp [wi]) (by simp) (by simp)) (by simp; omega)
        · have hb' := nf hb (fun h => c2 (h.2.2 _ (List.getElem_mem a1)).2)
          simp -dsimp -implicitDefEqProofs [a1, c1, show ¬ (a.kinds[i].worth.length : Int) = no by omega, c2, hb']
    have hi2 : i = a.kinds.length := by omega
    subst hi2
    rw [List.take_length] at hp
    have hb' : b = true := hb.2 ⟨e1, e2, hp⟩
    simp -dsimp -implicitDefEqProofs [hb']
  · have hb' := nf hb (fun h => e2 h.2.1)
    refine eCall.of (hns false (by simp [e2])) (by simp) ?_
    simp -dsimp -implicitDefEqProofs [hb']

structure RightOk (g : Gm) : Prop where
  ag : g.agents ≠ []
  ou : g.outs ≠ []
  an : NamesOk (g.agents.map Ag.name)
  on : NamesOk g.outs
  aim : g.aim = 1 ∨ g.aim = 2 ∨ g.aim = 3
  all : ∀ a ∈ g.agents, RAgOk g.outs.length a
  needs : ∀ i (h : i < g.needs.length), ShapedOk g.agents.length g.outs.length g.needs[i] ∧ ¬ AgainOk (g.needs.take i) g.needs[i]

def isRight (g : Gm) (e : Int) : Prop := (sizeOk g = false ∧ e = 1) ∨ (sizeOk g = true ∧ ¬ RightOk g ∧ e = 2) ∨ (sizeOk g = true ∧ RightOk g ∧ e = 0)
theorem isRight_bad {g : Gm} {e : Int} (h : isRight g e) (h1 : sizeOk g = true) (h2 : ¬ RightOk g) : e = 2 := by
  rcases h with h | h | h
  · rw [h1] at h; exact absurd h.1 (by decide)
  · exact h.2.2
  · exact absurd h.2.1 h2
theorem isRight_ok {g : Gm} {e : Int} (h : isRight g e) (h1 : sizeOk g = true) (h2 : RightOk g) : e = 0 := by
  rcases h with h | h | h
  · rw [h1] at h; exact absurd h.1 (by decide)
  · exact absurd h2 h.2.1
  · exact h.2.2

set_option maxRecDepth 20000 in
set_option maxHeartbeats 1000000 in
theorem right_s (g : Gm) (hg : g.ok) (hb : beyond g = false) : ∀ e, isRight g e → CallsS Tryz.prog 63 [gmS g] (I .i64 e) := by
  intro e he
  obtain ⟨b1, b2, b3, b4⟩ := beyond_len hb
  obtain ⟨ga, go, gn, hA, hO, hN, -⟩ := id hg
  have hsz := size_s g (by omega)
  have hns := names_s (g.agents.map Ag.name) (by unfold lenOk; rw [List.length_map]; omega) (fun s hs => by obtain ⟨k, hk1, rfl⟩ := List.mem_map.1 hs; exact (hA k hk1).1)
  have hos := names_s g.outs go hO
  refine calls_cut 3 (fun _ : {u : Unit // sizeOk g = true ∧ g.agents ≠ [] ∧ g.outs ≠ [] ∧ NamesOk (g.agents.map Ag.name) ∧ NamesOk g.outs ∧ (g.aim = 1 ∨ g.aim = 2 ∨ g.aim = 3)} => SS.of [(1, .v (.one (.mp 0 0)))] [(0, ⟨26, rowGm g⟩)] 1) Tryz.func63 rfl (by rfl) (by rfl) (by rfl) (by kernel_rfl) (by kernel_rfl) ?_ ?_
  case refine_2 =>
    rintro ⟨-, s1, e1, e1b, e3, e4, e5⟩
    simp -dsimp -implicitDefEqProofs
    refine sw_loop_e (fun p : {p : Nat // p ≤ g.agents.length ∧ ∀ a ∈ g.agents.take p, RAgOk g.outs.length a} => SS.of [(1, .v (.one (.mp 0 0))), (3, I .i64 p.1)] [(0, ⟨26, rowGm g⟩)] 1)
      (fun p => g.agents.length - p.1) ⟨0, Nat.zero_le _, by simp⟩ (by kernel_rfl) (Le.to (by simp) (by simp) (by simp)) ?_
    rintro ⟨i, hi, hp⟩
    by_cases a1 : i < g.agents.length
    · have wi : IntKind.i64.wrap ((i : Int) + 1) = ((i + 1 : Nat) : Int) := by rw [wrap_i64 _ (by omega) (by omega)]; rfl
      have hm := List.getElem_mem a1
      have hra := rightAgent_s g.agents[i] g.outs.length (hA _ hm) (by have := b4 _ hm; omega)
      simp -dsimp -implicitDefEqProofs [a1, wi]
      by_cases c1 : RAgOk g.outs.length g.agents[i]
      · refine eCall.of (hra true (by simp [c1])) (by simp) ?_
        simp -dsimp -implicitDefEqProofs
        exact Again.by ⟨i + 1, a1, all_take a1 hp c1⟩ (Le.to (by simp [wi]) (by simp) (by simp)) (by simp; omega)
      · have e2 := isRight_bad he s1 (fun h => c1 (h.all _ hm))
        refine eCall.of (hra false (by simp [c1])) (by simp) ?_
        simp -dsimp -implicitDefEqProofs [e2]
    have hi2 : i = g.agents.length := by omega
    subst hi2
    rw [List.take_length] at hp
    simp -dsimp -implicitDefEqProofs
    refine sw_loop_e (fun p : {p : Nat // p ≤ g.needs.length ∧ ∀ i (h : i < g.needs.length), i < p → ShapedOk g.agents.length g.outs.length g.needs[i] ∧ ¬ AgainOk (g.needs.take i) g.needs[i]} => SS.of [(1, .v (.one (.mp 0 0))), (4, I .i64 p.1)] [(0, ⟨26, rowGm g⟩)] 1)
      (fun p => g.needs.length - p.1) ⟨0, Nat.zero_le _, fun i _ h => absurd h (by omega)⟩ (by kernel_rfl) (Le.to (by simp) (by simp) (by simp)) ?_
    rintro ⟨i, hi, hq⟩
    by_cases a1 : i < g.needs.length
    · have wi : IntKind.i64.wrap ((i : Int) + 1) = ((i + 1 : Nat) : Int) := by rw [wrap_i64 _ (by omega) (by omega)]; rfl
      have hm := List.getElem_mem a1
      have hsh := shaped_s g g.needs[i] (hN _ hm) (by omega)
      have hag := again_s (g.needs.take i) g.needs[i] (by unfold lenOk at gn ⊢; rw [List.length_take]; omega)
      simp -dsimp -implicitDefEqProofs [a1, wi]
      by_cases c1 : ShapedOk g.agents.length g.outs.length g.needs[i]
      · refine eCall.of (hsh true (by simp [c1])) (by simp) ?_
        simp -dsimp -implicitDefEqProofs [a1, hi]
        by_cases c2 : AgainOk (g.needs.take i) g.needs[i]
        · have e2 := isRight_bad he s1 (fun h => (h.needs i a1).2 c2)
          refine eCall.of (hag true (by simp [c2])) (by simp) ?_
          simp -dsimp -implicitDefEqProofs [e2]
        · refine eCall.of (hag false (by simp [c2])) (by simp) ?_
          simp -dsimp -implicitDefEqProofs
          refine Again.by ⟨i + 1, a1, fun j hj hji => ?_⟩ (Le.to (by simp [wi]) (by simp) (by simp)) (by simp; omega)
          by_cases e : j = i
          · subst e; exact ⟨c1, c2⟩
          · exact hq j hj (by omega)
      · have e2 := isRight_bad he s1 (fun h => c1 (h.needs i a1).1)
        refine eCall.of (hsh false (by simp [c1])) (by simp) ?_
        simp -dsimp -implicitDefEqProofs [e2]
    have hi2 : i = g.needs.length := by omega
    subst hi2
    have e2 := isRight_ok he s1 ⟨e1, e1b, e3, e4, e5, hp, fun i h => hq i h h⟩
    simp -dsimp -implicitDefEqProofs [e2]
  simp -dsimp -implicitDefEqProofs
  by_cases s1 : sizeOk g = true
  · rw [s1] at hsz
    refine eCall.of hsz (by simp) ?_
    by_cases e1 : g.agents = []
    · have e2 := isRight_bad he s1 (fun h => h.ag e1)
      simp -dsimp -implicitDefEqProofs [e1, e2]
    by_cases e1b : g.outs = []
    · have e2 := isRight_bad he s1 (fun h => h.ou e1b)
      simp -dsimp -implicitDefEqProofs [e1, e1b, e2]
    simp -dsimp -implicitDefEqProofs [e1, e1b]
    refine eCall.of (agents_s g (by omega)) (by simp) ?_
    simp -dsimp -implicitDefEqProofs
    by_cases e3 : NamesOk (g.agents.map Ag.name)
    · refine eCall.of (hns true (by simp [e3])) (by simp) ?_
      simp -dsimp -implicitDefEqProofs
      by_cases e4 : NamesOk g.outs
      · refine eCall.of (hos true (by simp [e4])) (by simp) ?_
        by_cases e5 : g.aim = 1 ∨ g.aim = 2 ∨ g.aim = 3
        · rcases id e5 with e6 | e6 | e6 <;>
          · simp -dsimp -implicitDefEqProofs [e6]
            exact Cut.by ⟨(), s1, e1, e1b, e3, e4, e5⟩ (Le.to (by simp) (by simp [e6]) (by simp))
        · have e2 := isRight_bad he s1 (fun h => e5 h.aim)
          have c1 : ¬ g.aim = 1 := fun h => e5 (.inl h)
          have c2 : ¬ g.aim = 2 := fun h => e5 (.inr (.inl h))
          have c3 : ¬ g.aim = 3 := fun h => e5 (.inr (.inr h))
          simp -dsimp -implicitDefEqProofs [c1, c2, c3, e2]
      · have e2 := isRight_bad he s1 (fun h => e4 h.on)
        refine eCall.of (hos false (by simp [e4])) (by simp) ?_
        simp -dsimp -implicitDefEqProofs [e2]
    · have e2 := isRight_bad he s1 (fun h => e3 h.an)
      refine eCall.of (hns false (by simp [e3])) (by simp) ?_
      simp -dsimp -implicitDefEqProofs [e2]
  · have s1 : sizeOk g = false := by simpa using s1
    have e2 : e = 1 := by
      rcases he with h | h | h
      · exact h.2
      · rw [s1] at h; exact absurd h.1 (by decide)
      · rw [s1] at h; exact absurd h.1 (by decide)
    rw [s1] at hsz
    refine eCall.of hsz (by simp) ?_
    simp -dsimp -implicitDefEqProofs [e2]
end Go.Proofs.YtglhjjokijdagaaGreat.Sh

/- speech: names, sizes, lists of names, swaps, rising lists. -/
namespace Go.Proofs.YtglhjjokijdagaaGreat.Sh
open Go Go.RowKit

set_option maxRecDepth 20000 in
theorem isName_s (s : ByteArray) (hs : s.size ≤ 140737488355328) : CallsS Tryz.prog 163 [.one (.str s)] (B (isNm s)) := by
  refine calls Tryz.func163 rfl (by rfl) (by rfl) (by kernel_rfl) ?_
  by_cases c1 : (s.size : Int) < 1
  · have c2 : s = ByteArray.empty := ByteArray.size_eq_zero_iff.1 (by omega)
    have hn : isNm s = false := by
      unfold isNm; rw [decide_eq_false (show ¬ 0 < s.size by omega)]; simp
    subst c2
    simp -dsimp -implicitDefEqProofs [Tryz.f163, hn]
  by_cases c3 : (12 : Int) < (s.size : Int)
  · have hn : isNm s = false := by
      unfold isNm; rw [decide_eq_false (show ¬ s.size ≤ 12 by omega)]; simp
    simp -dsimp -implicitDefEqProofs [Tryz.f163, c1, c3, hn]
  simp -dsimp -implicitDefEqProofs [Tryz.f163, c1, c3]
  refine sw_loop_e (fun p : {p : Nat // p ≤ s.size ∧ lettersTo s p = true} => SS.of [(0, .v (.one (.str s))), (3, I .i64 p.1)] [] 0)
    (fun p => s.size - p.1) ⟨0, Nat.zero_le _, rfl⟩ (by kernel_rfl) (Le.to (by simp) (by simp) (by simp)) ?_
  rintro ⟨i, hi, hp⟩
  by_cases a1 : i < s.size
  · have wi : IntKind.i64.wrap ((i : Int) + 1) = ((i + 1 : Nat) : Int) := by rw [wrap_i64 _ (by omega) (by omega)]; rfl
    by_cases c1 : byteAt s (i : Int) < 97
    · have hn : isNm s = false := by
        unfold isNm; rw [letters_at a1 (by unfold letterB; rw [decide_eq_false (by omega)]; rfl)]; rfl
      simp -dsimp -implicitDefEqProofs [a1, wi, c1, hn]
    by_cases c2 : 122 < byteAt s (i : Int)
    · have hn : isNm s = false := by
        unfold isNm; rw [letters_at a1 (by unfold letterB; rw [decide_eq_false (show ¬ byteAt s (i : Int) ≤ 122 by omega)]; simp)]; rfl
      simp -dsimp -implicitDefEqProofs [a1, wi, c1, c2, hn]
    simp -dsimp -implicitDefEqProofs [a1, wi, c1, c2]
    exact Again.by ⟨i + 1, a1, by simp only [lettersTo, hp, letterB]; rw [decide_eq_true (by omega), decide_eq_true (by omega)]; rfl⟩ (Le.to (by simp [wi]) (by simp) (by simp)) (by simp; omega)
  have hi2 : i = s.size := by omega
  subst hi2
  have hn : isNm s = true := by
    unfold isNm; rw [hp, decide_eq_true (show 0 < s.size by omega), decide_eq_true (show s.size ≤ 12 by omega)]; rfl
  simp -dsimp -implicitDefEqProofs [hn]

set_option maxRecDepth 20000 in
theorem swaps_s (l : List Int) (n : Nat) (hn : n ≤ 1048576) : ∀ b, (b = true ↔ SwapOk l n) → CallsS Tryz.prog 164 [.one (intsS l), .one (.int .i64 (n : Int))] (B b) := by
  intro b hb
  refine calls Tryz.func164 rfl (by rfl) (by rfl) (by kernel_rfl) ?_
  by_cases l1 : l.length = n
  · subst l1
    simp -dsimp -implicitDefEqProofs [Tryz.f164]
    refine sw_loop_e (fun p : {p : Nat // p ≤ l.length ∧ ∀ i (h : i < l.length), i < p → (0 ≤ l[i] ∧ l[i] < (l.length : Int)) ∧ l[l[i].toNat]? = some (i : Int)} => SS.of [(0, .v (.one (intsS l))), (1, I .i64 l.length), (11, .v (.one (intsS l))), (12, I .i64 l.length), (13, I .i64 p.1)] [] 0)
      (fun p => l.length - p.1) ⟨0, Nat.zero_le _, fun i _ h => absurd h (by omega)⟩ (by kernel_rfl) (Le.to (by simp) (by simp) (by simp)) ?_
    rintro ⟨i, hi, hq⟩
    by_cases a1 : i < l.length
    · have wi : IntKind.i64.wrap ((i : Int) + 1) = ((i + 1 : Nat) : Int) := by rw [wrap_i64 _ (by omega) (by omega)]; rfl
      by_cases c1 : l[i] < 0
      · have hb' := nf hb (fun h => absurd (h.2 i a1).1.1 (by omega))
        simp -dsimp -implicitDefEqProofs [a1, wi, c1, hb']
      by_cases c2 : (l.length : Int) ≤ l[i]
      · have hb' := nf hb (fun h => absurd (h.2 i a1).1.2 (by omega))
        simp -dsimp -implicitDefEqProofs [a1, wi, c1, c2, hb']
      have p1 : 0 ≤ l[i] := by omega
      have p2 : l[i] < (l.length : Int) := by omega
      have p3 : l[i].toNat < l.length := by omega
      by_cases c3 : l[l[i].toNat] = (i : Int)
      · simp -dsimp -implicitDefEqProofs [a1, wi, c1, c2, p1, p2, p3, c3]
        refine Again.by ⟨i + 1, a1, fun j hj hji => ?_⟩ (Le.to (by simp [wi]) (by simp) (by simp)) (by simp; omega)
        by_cases e : j = i
        · subst e; exact ⟨⟨p1, p2⟩, by rw [List.getElem?_eq_getElem p3, c3]⟩
        · exact hq j hj (by omega)
      · have hb' := nf hb (fun h => by
          have := (h.2 i a1).2
          rw [List.getElem?_eq_getElem p3] at this
          exact c3 (Option.some.inj this))
        simp -dsimp -implicitDefEqProofs [a1, wi, c1, c2, p1, p2, p3, c3, hb']
    have hi2 : i = l.length := by omega
    subst hi2
    have hb' : b = true := hb.2 ⟨rfl, fun i h => hq i h h⟩
    simp -dsimp -implicitDefEqProofs [hb']
  · have hb' := nf hb (fun h => l1 h.1)
    simp -dsimp -implicitDefEqProofs [Tryz.f164, hb', show ¬ (l.length : Int) = n by omega]

set_option maxRecDepth 20000 in
theorem rises_s (l : List Int) (n : Nat) (hn : n ≤ 1048576) (hl : lenOk l) : ∀ b, (b = true ↔ RiseOk l n) → CallsS Tryz.prog 165 [.one (intsS l), .one (.int .i64 (n : Int))] (B b) := by
  intro b hb
  unfold lenOk at hl
  refine calls Tryz.func165 rfl (by rfl) (by rfl) (by kernel_rfl) ?_
  simp -dsimp -implicitDefEqProofs [Tryz.f165]
  refine sw_loop_e (fun p : {p : Nat // p ≤ l.length ∧ ∀ i (h : i < l.length), i < p → (0 ≤ l[i] ∧ l[i] < (n : Int)) ∧ (0 < i → ∃ x, l[i - 1]? = some x ∧ x < l[i])} => SS.of [(0, .v (.one (intsS l))), (1, I .i64 n), (7, .v (.one (intsS l))), (8, I .i64 l.length), (9, I .i64 p.1)] [] 0)
    (fun p => l.length - p.1) ⟨0, Nat.zero_le _, fun i _ h => absurd h (by omega)⟩ (by kernel_rfl) (Le.to (by simp) (by simp) (by simp)) ?_
  rintro ⟨i, hi, hp⟩
  by_cases a1 : i < l.length
  · have wi : IntKind.i64.wrap ((i : Int) + 1) = ((i + 1 : Nat) : Int) := by rw [wrap_i64 _ (by omega) (by omega)]; rfl
    by_cases c1 : l[i] < 0
    · have hb' := nf hb (fun h => absurd (h.2 i a1).1.1 (by omega))
      simp -dsimp -implicitDefEqProofs [a1, wi, c1, hb']
    by_cases c2 : (n : Int) ≤ l[i]
    · have hb' := nf hb (fun h => absurd (h.2 i a1).1.2 (by omega))
      simp -dsimp -implicitDefEqProofs [a1, wi, c1, c2, hb']
    by_cases i0 : i = 0
    · subst i0
      simp -dsimp -implicitDefEqProofs [a1, wi, c1, c2]
      refine Again.by ⟨0 + 1, a1, fun j hj hji => ?_⟩ (Le.to (by simp [i64_1]) (by simp) (by simp)) (by simp; omega)
      obtain rfl : j = 0 := by omega
      exact ⟨⟨by omega, by omega⟩, fun h => absurd h (by omega)⟩
    · obtain ⟨k, hk⟩ : ∃ k, i = k + 1 := ⟨i - 1, by omega⟩
      have wk : IntKind.i64.wrap ((i : Int) - 1) = (k : Int) := by rw [wrap_i64 _ (by omega) (by omega)]; omega
      have a2 : k < l.length := by omega
      have i1 : 0 < i := by omega
      by_cases c3 : l[i] ≤ l[k]
      · have hb' := nf hb (fun h => by
          obtain ⟨x, hx, hx2⟩ := (h.2 i a1).2 (by omega)
          rw [show i - 1 = k by omega, List.getElem?_eq_getElem a2] at hx
          have := Option.some.inj hx
          omega)
        simp -dsimp -implicitDefEqProofs [a1, wi, c1, c2, c3, wk, a2, i1, hb']
      · simp -dsimp -implicitDefEqProofs [a1, wi, c1, c2, c3, wk, a2, i1]
        refine Again.by ⟨i + 1, a1, fun j hj hji => ?_⟩ (Le.to (by simp [wi]) (by simp) (by simp)) (by simp; omega)
        by_cases e : j = i
        · subst e; exact ⟨⟨by omega, by omega⟩, fun _ => ⟨l[k], by rw [show j - 1 = k by omega, List.getElem?_eq_getElem a2], by omega⟩⟩
        · exact hp j hj (by omega)
  have hi2 : i = l.length := by omega
  subst hi2
  by_cases c1 : 0 < l.length
  · have hb' : b = true := hb.2 ⟨c1, fun i h => hp i h h⟩
    simp -dsimp -implicitDefEqProofs [hb', c1]
  · have hb' := nf hb (fun h => c1 h.1)
    simp -dsimp -implicitDefEqProofs [hb', c1]

theorem mem_strs {s : ByteArray} {l : List ByteArray} : MK.str s ∈ l.map MK.str ↔ s ∈ l := by
  constructor
  · intro h; obtain ⟨x, hx, e⟩ := List.mem_map.1 h; cases e; exact hx
  · exact fun h => List.mem_map.2 ⟨s, h, rfl⟩
theorem strs_of {l : List ByteArray} : ∀ x ∈ l.map MK.str, x.of .str = true := by
  intro x hx; obtain ⟨s, -, rfl⟩ := List.mem_map.1 hx; rfl

set_option maxRecDepth 20000 in
theorem distinct_s (l : List ByteArray) (hl : lenOk l) (ho : ∀ s ∈ l, s.size ≤ 140737488355328) : ∀ b, (b = true ↔ NamesOk l) → CallsS Tryz.prog 141 [.one (strsS l)] (B b) := by
  intro b hb
  unfold lenOk at hl
  have mk : mapKT Tryz.prog 194 = some .str := by kernel_rfl
  refine calls Tryz.func141 rfl (by rfl) (by rfl) (by kernel_rfl) ?_
  simp -dsimp -implicitDefEqProofs [Tryz.f141]
  refine spec_makeMap (fun r hr => ?_)
  simp -dsimp -implicitDefEqProofs
  refine sw_loop_e (fun p : {p : Nat × Nat // p.1 ≤ l.length ∧ (∀ s ∈ l.take p.1, isNm s = true) ∧ (l.take p.1).Nodup} => (SS.of [(0, .v (.one (strsS l))), (3, .v (.one (.val (.map (some r))))), (7, .v (.one (strsS l))), (8, I .i64 l.length), (9, I .i64 p.1.1)] [] p.1.2).wx { XS.nil with maps := [(r, (l.take p.1.1).map MK.str)] })
    (fun p => l.length - p.1.1) ⟨(0, 0), Nat.zero_le _, by simp, by simp⟩ (by kernel_rfl) (Le.toX (by simp) (by simp) (by simp) (by simp)) ?_
  rintro ⟨⟨i, c⟩, hi, hp, hq⟩
  simp only at hi hp hq
  by_cases a1 : i < l.length
  · have wi : IntKind.i64.wrap ((i : Int) + 1) = ((i + 1 : Nat) : Int) := by rw [wrap_i64 _ (by omega) (by omega)]; rfl
    have hn := isName_s l[i] (ho _ (List.getElem_mem a1))
    simp -dsimp -implicitDefEqProofs [a1, wi]
    by_cases c1 : isNm l[i] = true
    · rw [c1] at hn
      refine eCall.of hn (by simp) ?_
      simp -dsimp -implicitDefEqProofs [a1]
      refine spec_lookup (κ := .str) (r := r) (ks := (l.take i).map MK.str) (key := .str l[i]) mk (by simp) (by simp) strs_of (by simp [keyOfS]) rfl ?_
      by_cases c2 : l[i] ∈ l.take i
      · have hb' := nf hb (fun h => not_nodup a1 c2 h.2)
        rw [decide_eq_true (mem_strs.2 c2)]
        simp -dsimp -implicitDefEqProofs [hb']
      · rw [decide_eq_false (mt mem_strs.1 c2)]
        simp -dsimp -implicitDefEqProofs
        refine spec_mapUpdate (κ := .str) (r := r) (ks := (l.take i).map MK.str) (key := .str l[i]) mk (by simp) (by simp) strs_of (by simp [keyOfS]) rfl (by simp) (mt mem_strs.1 c2) ?_
        simp -dsimp -implicitDefEqProofs
        have hsn : ((l.take (i + 1)).map MK.str) = (l.take i).map MK.str ++ [MK.str l[i]] := by rw [takeSnoc l i a1, List.map_append]; rfl
        refine Again.by ⟨(i + 1, c), a1, all_take a1 hp c1, nodup_take a1 hq c2⟩ (Le.toX (by simp [wi]) (by simp) (by simp) (by simp [putKey, hsn])) (by simp; omega)
    · have c1 : isNm l[i] = false := by simpa using c1
      rw [c1] at hn
      have hb' := nf hb (fun h => absurd (h.1 _ (List.getElem_mem a1)) (by rw [c1]; decide))
      refine eCall.of hn (by simp) ?_
      simp -dsimp -implicitDefEqProofs [hb']
  have hi2 : i = l.length := by omega
  subst hi2
  rw [List.take_length] at hp hq
  have hb' : b = true := hb.2 ⟨hp, hq⟩
  simp -dsimp -implicitDefEqProofs [hb']
end Go.Proofs.YtglhjjokijdagaaGreat.Sh

/- speech: sizes, needs. -/
namespace Go.Proofs.YtglhjjokijdagaaGreat.Sh
open Go Go.RowKit

@[simp] def rowInt (x : Int) : List S1 := [.int .i64 x]
instance : RowF 1 rowInt := ⟨fun _ => rfl, fun x s h => by simp at h; subst h; rfl⟩
def sizesL (g : Gm) : List Int := g.agents.map fun a => (a.kinds.length : Int)

set_option maxRecDepth 20000 in
theorem sizes_s (g : Gm) (h : g.agents.length ≤ 1048576) : CallsS Tryz.prog 119 [gmS g] (.v (.one (intsS (sizesL g)))) := by
  refine calls Tryz.func119 rfl (by rfl) (by rfl) (by kernel_rfl) ?_
  simp -dsimp -implicitDefEqProofs [Tryz.f119]
  refine ⟨by omega, ?_⟩
  refine sw_loop_e (fun p : {p : Nat × Nat × Nat // p.1 ≤ g.agents.length ∧ p.2.2 < p.2.1 + 2 ∧ 0 < p.2.2} => SS.of [(1, .v (.one (.mp 0 0))), (3, .v (.one (.ms p.1.2.2 0 p.1.1 1 true))), (11, .v (.one (agsS g.agents))), (12, I .i64 g.agents.length), (13, I .i64 p.1.1)] [(0, ⟨26, rowGm g⟩), (p.1.2.2, ⟨3, flat rowInt ((sizesL g).take p.1.1)⟩)] (p.1.2.1 + 2))
    (fun p => g.agents.length - p.1.1) ⟨(0, 0, 1), Nat.zero_le _, by decide, by decide⟩ (by kernel_rfl) (Le.to (by simp) (by simp [flat_nil]) (by simp)) ?_
  rintro ⟨⟨i, c, o⟩, hi, hoc, hoc'⟩
  simp only at hi hoc hoc'
  have o0 : ¬ o = 0 := by omega
  have o0' : ¬ 0 = o := by omega
  have hsl : (sizesL g).length = g.agents.length := by simp [sizesL]
  by_cases a1 : i < g.agents.length
  · have wi : IntKind.i64.wrap ((i : Int) + 1) = ((i + 1 : Nat) : Int) := by rw [wrap_i64 _ (by omega) (by omega)]; rfl
    have hfl := flat_snoc (f := rowInt) (g.agents[i].kinds.length : Int) ((sizesL g).take i)
    have hsn := takeSnoc (sizesL g) i (by omega)
    rw [show (sizesL g)[i]'(by omega) = (g.agents[i].kinds.length : Int) by simp [sizesL]] at hsn
    rw [← hsn] at hfl
    have hll : ((sizesL g).take i).length = i := by simp; omega
    have oc1 : ¬ o = c + 2 := by omega
    have oc2 : ¬ o = c + 3 := by omega
    simp -dsimp -implicitDefEqProofs [a1, wi, slots, hll, oc1, oc2, o0, o0']
    refine ⟨by omega, ?_⟩
    exact Again.by ⟨(i + 1, c + 3, c + 4), by omega, by simp only; omega, by simp only; omega⟩ (Le.to (by simp [wi]) (by simp [hfl, o0, o0']) (by simp)) (by simp; omega)
  have hi2 : i = g.agents.length := by omega
  subst hi2
  simp -dsimp -implicitDefEqProofs [o0, o0', hsl]
  rw [List.take_of_length_le (by rw [List.length_map]; omega)]; rfl

/-- The needs told apart: those of a kind that comes once, those of pairs. -/
def onceL : List Nd → List Int
  | [] => []
  | n :: l => if n.kind = 1 ∨ n.kind = 2 ∨ n.kind = 3 ∨ n.kind = 4 then n.kind :: onceL l else onceL l
def pairL : List Nd → List (Int × Int)
  | [] => []
  | n :: l => if n.kind = 5 then (n.agent, n.other) :: pairL l else pairL l
theorem onceL_append (l m : List Nd) : onceL (l ++ m) = onceL l ++ onceL m := by
  induction l with
  | nil => rfl
  | cons n l ih => simp only [List.cons_append, onceL, ih]; split <;> rfl
theorem pairL_append (l m : List Nd) : pairL (l ++ m) = pairL l ++ pairL m := by
  induction l with
  | nil => rfl
  | cons n l ih => simp only [List.cons_append, pairL, ih]; split <;> rfl
theorem mem_onceL {l : List Nd} {k : Int} : k ∈ onceL l ↔ ∃ n ∈ l, n.kind = k ∧ (k = 1 ∨ k = 2 ∨ k = 3 ∨ k = 4) := by
  induction l with
  | nil => simp [onceL]
  | cons n l ih =>
    simp only [onceL]
    split
    · rename_i h
      rw [List.mem_cons, ih]
      constructor
      · rintro (rfl | ⟨m, hm, h2⟩)
        · exact ⟨n, List.mem_cons_self .., rfl, h⟩
        · exact ⟨m, List.mem_cons_of_mem _ hm, h2⟩
      · rintro ⟨m, hm, h2, h3⟩
        rcases List.mem_cons.1 hm with rfl | hm
        · exact .inl h2.symm
        · exact .inr ⟨m, hm, h2, h3⟩
    · rename_i h
      rw [ih]
      constructor
      · rintro ⟨m, hm, h2⟩; exact ⟨m, List.mem_cons_of_mem _ hm, h2⟩
      · rintro ⟨m, hm, h2, h3⟩
        rcases List.mem_cons.1 hm with rfl | hm
        · rw [h2] at h; exact absurd h3 h
        · exact ⟨m, hm, h2, h3⟩
theorem mem_pairL {l : List Nd} {p : Int × Int} : p ∈ pairL l ↔ ∃ n ∈ l, n.kind = 5 ∧ p = (n.agent, n.other) := by
  induction l with
  | nil => simp [pairL]
  | cons n l ih =>
    simp only [pairL]
    split
    · rename_i h
      rw [List.mem_cons, ih]
      constructor
      · rintro (rfl | ⟨m, hm, h2⟩)
        · exact ⟨n, List.mem_cons_self .., h, rfl⟩
        · exact ⟨m, List.mem_cons_of_mem _ hm, h2⟩
      · rintro ⟨m, hm, h2, h3⟩
        rcases List.mem_cons.1 hm with rfl | hm
        · exact .inl h3
        · exact .inr ⟨m, hm, h2, h3⟩
    · rename_i h
      rw [ih]
      constructor
      · rintro ⟨m, hm, h2⟩; exact ⟨m, List.mem_cons_of_mem _ hm, h2⟩
      · rintro ⟨m, hm, h2, h3⟩
        rcases List.mem_cons.1 hm with rfl | hm
        · exact absurd h2 h
        · exact ⟨m, hm, h2, h3⟩

/-- All needs of a game are right. -/
def NeedsOk (g : Gm) : Prop := ∀ i (h : i < g.needs.length), ShapedOk g.agents.length g.outs.length g.needs[i] ∧ ¬ AgainOk (g.needs.take i) g.needs[i]
def NeedOk (g : Gm) (i : Nat) (n : Nd) : Prop := ShapedOk g.agents.length g.outs.length n ∧ ¬ AgainOk (g.needs.take i) n

theorem again_once {l : List Nd} {n : Nd} {na no : Nat} (hk : n.kind = 1 ∨ n.kind = 2 ∨ n.kind = 3 ∨ n.kind = 4) (h0 : n.agent = 0) (h1 : n.other = 0) (hl : ∀ m ∈ l, ShapedOk na no m) : AgainOk l n ↔ n.kind ∈ onceL l := by
  rw [mem_onceL]
  constructor
  · rintro ⟨m, hm, h2, -⟩; exact ⟨m, hm, h2, hk⟩
  · rintro ⟨m, hm, h2, -⟩
    refine ⟨m, hm, h2, by omega, ?_⟩
    have := hl m hm
    unfold ShapedOk at this
    by_cases c1 : m.kind = 1 ∨ m.kind = 2 ∨ m.kind = 3
    · rw [if_pos c1] at this; omega
    · rw [if_neg c1, if_pos (by omega)] at this; omega
theorem again_pair {l : List Nd} {n : Nd} (hk : n.kind = 5) : AgainOk l n ↔ (n.agent, n.other) ∈ pairL l := by
  rw [mem_pairL]
  constructor
  · rintro ⟨m, hm, h2, -, h3, h4⟩; exact ⟨m, hm, by omega, by rw [h3, h4]⟩
  · rintro ⟨m, hm, h2, h3⟩
    injection h3 with h3 h4
    exact ⟨m, hm, by omega, by omega, h3.symm, h4.symm⟩
theorem again_order {l : List Nd} {n : Nd} (hk : n.kind = 6) : ¬ AgainOk l n := fun ⟨_, _, _, h, _⟩ => h hk
end Go.Proofs.YtglhjjokijdagaaGreat.Sh

