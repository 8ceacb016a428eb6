/- A part of the proof: R32, R33, R34, R35, R140, R141, R142 -/
import Derived.Test.YtaljbebkooppiaaGreatV15
import Derived.Test.YtaljbebkooppiaaGreatV8
import Derived.Lib.SlicesS
set_option linter.unusedSimpArgs false
set_option linter.unusedVariables false
set_option linter.unusedSectionVars false
namespace Go.Proofs.YtaljbebkooppiaaGreat.Sh
open Go Go.RowKit
def letterB (b : Int) : Bool := decide (97 ≤ b) && decide (b ≤ 122)
def lettersTo (s : ByteArray) : Nat → Bool
  | 0 => true
  | i + 1 => lettersTo s i && letterB (byteAt s (i : Int))
def isNm (s : ByteArray) : Bool := lettersTo s s.size && decide (0 < s.size) && decide (s.size ≤ 12)
theorem letters_le {s : ByteArray} {i n : Nat} (h : i ≤ n) (h1 : lettersTo s n = true) : lettersTo s i = true := by
  induction n with
  | zero => rw [show i = 0 by omega]; rfl
  | succ n ih =>
    simp only [lettersTo, Bool.and_eq_true] at h1
    by_cases e : i = n + 1
    · subst e; simp only [lettersTo, Bool.and_eq_true]; exact h1
    · exact ih (by omega) h1.1
theorem letters_at {s : ByteArray} {i n : Nat} (h : i < n) (h1 : letterB (byteAt s (i : Int)) = false) : lettersTo s n = false := by
  by_cases e : lettersTo s n = true
  · have := letters_le (i := i + 1) h e
    simp only [lettersTo, Bool.and_eq_true, h1] at this
    exact absurd this.2 (by decide)
  · simpa using e
set_option maxRecDepth 20000 in
theorem name_s (s : ByteArray) (hs : s.size ≤ 140737488355328) : CallsS Tryz.prog 171 [.one (.str s)] (B (isNm s)) := by
  refine calls Tryz.func171 rfl (by rfl) (by rfl) (by kernel_rfl) ?_
  simp -dsimp -implicitDefEqProofs [Tryz.f171]
  refine sw_loop_e (fun p : {p : Nat // p ≤ s.size ∧ lettersTo s p = true} => SS.of [(0, .v (.one (.str s))), (3, I .i64 p.1)] [] 0)
    (fun p => s.size - p.1) ⟨0, Nat.zero_le _, rfl⟩ (by kernel_rfl) (Le.to (by simp) (by simp) (by simp)) ?_
  rintro ⟨i, hi, hp⟩
  by_cases a1 : i < s.size
  · have wi : IntKind.i64.wrap ((i : Int) + 1) = ((i + 1 : Nat) : Int) := by rw [wrap_i64 _ (by omega) (by omega)]; rfl
    by_cases c1 : byteAt s (i : Int) < 97
    · have hn : isNm s = false := by
        unfold isNm; rw [letters_at a1 (by unfold letterB; rw [decide_eq_false (by omega)]; rfl)]; rfl
      simp -dsimp -implicitDefEqProofs [a1, wi, c1, hn]
    by_cases c2 : 122 < byteAt s (i : Int)
    · have hn : isNm s = false := by
        unfold isNm; rw [letters_at a1 (by unfold letterB; rw [decide_eq_false (show ¬ byteAt s (i : Int) ≤ 122 by omega)]; simp)]; rfl
      simp -dsimp -implicitDefEqProofs [a1, wi, c1, c2, hn]
    simp -dsimp -implicitDefEqProofs [a1, wi, c1, c2]
    exact Again.by ⟨i + 1, a1, by simp only [lettersTo, hp, letterB]; rw [decide_eq_true (by omega), decide_eq_true (by omega)]; rfl⟩ (Le.to (by simp [wi]) (by simp) (by simp)) (by simp; omega)
  have hi2 : i = s.size := by omega
  subst hi2
  by_cases c1 : (0 : Int) < (s.size : Int)
  · have hn : isNm s = decide ((s.size : Int) ≤ 12) := by
      unfold isNm; rw [hp, decide_eq_true (show 0 < s.size by omega)]; simp only [Bool.true_and]; exact decide_eq_decide.2 (by omega)
    have c2 : ¬ s = ByteArray.empty := fun h => by rw [h] at c1; exact absurd c1 (by decide)
    simp -dsimp -implicitDefEqProofs [c1, c2, hn]
  · have hn : isNm s = false := by
      unfold isNm; rw [hp, decide_eq_false (show ¬ 0 < s.size by omega)]; rfl
    simp -dsimp -implicitDefEqProofs [c1, hn, show ¬ 0 < s.size by omega]
def placeS (s : ByteArray) : List ByteArray → Option Nat
  | [] => none
  | x :: l => if x = s then some 0 else (placeS s l).map (· + 1)
def placeI : Option Nat → Int
  | none => -1
  | some i => (i : Int)
theorem placeS_drop {s : ByteArray} {l : List ByteArray} : ∀ i, (∀ x ∈ l.take i, x ≠ s) → placeS s l = (placeS s (l.drop i)).map (· + i)
  | 0, _ => by simp
  | i + 1, h => by
    cases l with
    | nil => simp [placeS]
    | cons x l =>
      have hx : x ≠ s := h x (by simp)
      rw [List.drop_succ_cons, placeS, if_neg hx, placeS_drop i (fun y hy => h y (by simp [hy]))]
      cases placeS s (l.drop i) with
      | none => rfl
      | some k => simp; omega
@[simp] theorem bytes_dec (x y : ByteArray) : (x.toList == y.toList) = decide (x = y) := by
  rw [Bool.eq_iff_iff, decide_eq_true_iff]; exact Lib.bytes_beq_iff x y
set_option maxRecDepth 20000 in
theorem place_s (l : List ByteArray) (s : ByteArray) (hl : lenOk l) : CallsS Tryz.prog 172 [.one (strsS l), .one (.str s)] (I .i64 (placeI (placeS s l))) := by
  unfold lenOk at hl
  refine calls Tryz.func172 rfl (by rfl) (by rfl) (by kernel_rfl) ?_
  simp -dsimp -implicitDefEqProofs [Tryz.f172]
  refine sw_loop_e (fun p : {p : Nat // p ≤ l.length ∧ ∀ x ∈ l.take p, x ≠ s} => SS.of [(0, .v (.one (strsS l))), (1, .v (.one (.str s))), (5, I .i64 p.1)] [] 0)
    (fun p => l.length - p.1) ⟨0, Nat.zero_le _, by simp⟩ (by kernel_rfl) (Le.to (by simp) (by simp) (by simp)) ?_
  rintro ⟨i, hi, hp⟩
  by_cases a1 : i < l.length
  · have wi : IntKind.i64.wrap ((i : Int) + 1) = ((i + 1 : Nat) : Int) := by rw [wrap_i64 _ (by omega) (by omega)]; rfl
    have hd := placeS_drop i hp
    rw [List.drop_eq_getElem_cons a1, placeS] at hd
    by_cases c1 : l[i] = s
    · rw [if_pos c1] at hd
      have hd : placeI (placeS s l) = i := by rw [hd]; simp [placeI]
      simp -dsimp -implicitDefEqProofs [a1, wi, c1, hd]
    · simp -dsimp -implicitDefEqProofs [a1, wi, c1]
      refine Again.by ⟨i + 1, a1, fun x hx => ?_⟩ (Le.to (by simp [wi]) (by simp) (by simp)) (by simp; omega)
      rw [List.take_add_one, List.getElem?_eq_getElem a1] at hx
      rcases List.mem_append.1 hx with hx | hx
      · exact hp x hx
      · simp at hx; subst hx; exact c1
  have hi2 : i = l.length := by omega
  subst hi2
  rw [List.take_length] at hp
  have hd : placeI (placeS s l) = -1 := by
    have := placeS_drop l.length (l := l) (s := s) (by rw [List.take_length]; exact hp)
    rw [this]; simp [placeS, placeI]
  simp -dsimp -implicitDefEqProofs [hd]
end Go.Proofs.YtaljbebkooppiaaGreat.Sh

namespace Go.Proofs.YtaljbebkooppiaaGreat.Sh
open Go Go.RowKit
def NamesOk (l : List ByteArray) : Prop := (∀ s ∈ l, isNm s = true) ∧ l.Nodup
theorem placeS_lt {s : ByteArray} {l : List ByteArray} {i : Nat} (h : s ∈ l.take i) : ∃ k, k < i ∧ placeS s l = some k := by
  induction l generalizing i with
  | nil => simp at h
  | cons x l ih =>
    cases i with
    | zero => simp at h
    | succ i =>
      rw [placeS]
      by_cases e : x = s
      · exact ⟨0, by omega, if_pos e⟩
      · rw [List.take_succ_cons, List.mem_cons] at h
        rcases h with h | h
        · exact absurd h.symm e
        · obtain ⟨k, hk, he⟩ := ih h
          exact ⟨k + 1, by omega, by rw [if_neg e, he]; rfl⟩
theorem nodup_take {α : Type} {l : List α} {i : Nat} (h : i < l.length) (h1 : (l.take i).Nodup) (h2 : l[i] ∉ l.take i) : (l.take (i + 1)).Nodup := by
  rw [List.take_add_one, List.getElem?_eq_getElem h]
  refine List.nodup_append.2 ⟨h1, by simp, ?_⟩
  intro a ha b hb
  simp at hb; subst hb
  exact fun e => h2 (e ▸ ha)
theorem not_nodup {α : Type} {l : List α} {i : Nat} (h : i < l.length) (h2 : l[i] ∈ l.take i) : ¬ l.Nodup := by
  intro hn
  rw [← List.take_append_drop i l, List.drop_eq_getElem_cons h] at hn
  exact (List.nodup_append.1 hn).2.2 _ h2 _ (List.mem_cons_self ..) rfl
theorem all_take {α : Type} {P : α → Prop} {l : List α} {i : Nat} (h : i < l.length) (h1 : ∀ x ∈ l.take i, P x) (h2 : P l[i]) : ∀ x ∈ l.take (i + 1), P x := by
  intro x hx
  rw [List.take_add_one, List.getElem?_eq_getElem h] at hx
  rcases List.mem_append.1 hx with hx | hx
  · exact h1 x hx
  · simp at hx; subst hx; exact h2
set_option maxRecDepth 20000 in
theorem names_s (l : List ByteArray) (hl : lenOk l) (ho : ∀ s ∈ l, s.size ≤ 140737488355328) : ∀ b, (b = true ↔ NamesOk l) → CallsS Tryz.prog 127 [.one (strsS l)] (B b) := by
  intro b hb
  have hlo := hl
  unfold lenOk at hl
  refine calls Tryz.func127 rfl (by rfl) (by rfl) (by kernel_rfl) ?_
  simp -dsimp -implicitDefEqProofs [Tryz.f127]
  refine sw_loop_e (fun p : {p : Nat // p ≤ l.length ∧ (∀ s ∈ l.take p, isNm s = true) ∧ (l.take p).Nodup} => SS.of [(0, .v (.one (strsS l))), (3, I .i64 p.1)] [] 0)
    (fun p => l.length - p.1) ⟨0, Nat.zero_le _, by simp, by simp⟩ (by kernel_rfl) (Le.to (by simp) (by simp) (by simp)) ?_
  rintro ⟨i, hi, hp, hq⟩
  by_cases a1 : i < l.length
  · have wi : IntKind.i64.wrap ((i : Int) + 1) = ((i + 1 : Nat) : Int) := by rw [wrap_i64 _ (by omega) (by omega)]; rfl
    have hn := name_s l[i] (ho _ (List.getElem_mem a1))
    have hpl := place_s l l[i] hlo
    simp -dsimp -implicitDefEqProofs [a1, wi]
    by_cases c1 : isNm l[i] = true
    · rw [c1] at hn
      refine eCall.of hn (by simp) ?_
      simp -dsimp -implicitDefEqProofs [a1]
      by_cases c2 : l[i] ∈ l.take i
      · obtain ⟨k, hk, he⟩ := placeS_lt c2
        rw [he, show placeI (some k) = (k : Int) from rfl] at hpl
        have hb' : b = false := by cases b; rfl; exact absurd (hb.1 rfl).2 (not_nodup a1 c2)
        refine eCall.of hpl (by simp) ?_
        simp -dsimp -implicitDefEqProofs [show ¬ k = i by omega, hb']
      · have hd := placeS_drop (s := l[i]) (l := l) i (fun x hx => fun e => c2 (e ▸ hx))
        rw [List.drop_eq_getElem_cons a1, placeS, if_pos rfl, Option.map_some, Nat.zero_add] at hd
        rw [hd, show placeI (some i) = (i : Int) from rfl] at hpl
        refine eCall.of hpl (by simp) ?_
        simp -dsimp -implicitDefEqProofs
        exact Again.by ⟨i + 1, a1, all_take a1 hp c1, nodup_take a1 hq c2⟩ (Le.to (by simp [wi]) (by simp) (by simp)) (by simp; omega)
    · have c1 : isNm l[i] = false := by simpa using c1
      rw [c1] at hn
      have hb' : b = false := by cases b; rfl; exact absurd ((hb.1 rfl).1 _ (List.getElem_mem a1)) (by rw [c1]; decide)
      refine eCall.of hn (by simp) ?_
      simp -dsimp -implicitDefEqProofs [hb']
  have hi2 : i = l.length := by omega
  subst hi2
  rw [List.take_length] at hp hq
  have hb' : b = true := hb.2 ⟨hp, hq⟩
  simp -dsimp -implicitDefEqProofs [hb']
theorem takeSnoc {α : Type} (l : List α) (i : Nat) (h : i < l.length) : l.take (i + 1) = l.take i ++ [l[i]] := by rw [List.take_add_one, List.getElem?_eq_getElem h]; rfl
theorem i64_1 : IntKind.i64.wrap 1 = 1 := by decide
@[simp] def rowStr (s : ByteArray) : List S1 := [.str s]
instance : RowF 1 rowStr := ⟨fun _ => rfl, fun x s h => by simp at h; subst h; rfl⟩
set_option maxRecDepth 20000 in
theorem agents_s (g : Gm) (h : g.agents.length ≤ 1048576) : CallsS Tryz.prog 128 [gmS g] (.v (.one (strsS (g.agents.map Ag.name)))) := by
  refine calls Tryz.func128 rfl (by rfl) (by rfl) (by kernel_rfl) ?_
  simp -dsimp -implicitDefEqProofs [Tryz.f128]
  refine sw_loop_e (fun p : {p : Nat × Nat × Nat // p.1 ≤ g.agents.length ∧ p.2.2 < p.2.1 + 1 ∧ (p.1 ≠ 0 → 0 < p.2.2)} => SS.of [(1, .v (.one (.mp 0 0))), (3, if p.1.1 = 0 then .v (.one .nils) else .v (.one (.ms p.1.2.2 0 p.1.1 1 true))), (4, I .i64 p.1.1)] ((0, ⟨31, rowGm g⟩) :: if p.1.1 = 0 then [] else [(p.1.2.2, ⟨9, flat rowStr ((g.agents.map Ag.name).take p.1.1)⟩)]) (p.1.2.1 + 1))
    (fun p => g.agents.length - p.1.1) ⟨(0, 0, 0), Nat.zero_le _, by decide, fun h => absurd rfl h⟩ (by kernel_rfl) (Le.to (by simp) (by simp) (by simp)) ?_
  rintro ⟨⟨i, c, o⟩, hi, hoc, hoc'⟩
  simp only at hi hoc hoc'
  by_cases a1 : i < g.agents.length
  · have wi : IntKind.i64.wrap ((i : Int) + 1) = ((i + 1 : Nat) : Int) := by rw [wrap_i64 _ (by omega) (by omega)]; rfl
    have hfl := flat_snoc (f := rowStr) g.agents[i].name ((g.agents.map Ag.name).take i)
    have hsn := takeSnoc (g.agents.map Ag.name) i (by simpa using a1)
    rw [List.getElem_map] at hsn
    rw [← hsn] at hfl
    have hll : ((g.agents.map Ag.name).take i).length = i := by simp; omega
    by_cases i0 : i = 0
    · subst i0
      simp -dsimp -implicitDefEqProofs [a1, wi, slots]
      rw [show (g.agents.map Ag.name).take 0 = [] from rfl, flat_nil, List.nil_append] at hfl
      exact Again.by ⟨(1, c + 2, c + 2), by omega, by simp only; omega, by simp only; omega⟩ (Le.to (by simp [i64_1]) (by simp [hfl]) (by simp)) (by simp; omega)
    · have oc1 : ¬ o = c + 1 := by omega
      have o0 : ¬ o = 0 := by have := hoc' i0; omega
      simp -dsimp -implicitDefEqProofs [a1, wi, i0, slots, hll, oc1, o0]
      refine ⟨by omega, ?_⟩
      exact Again.by ⟨(i + 1, c + 2, c + 2), by omega, by simp only; omega, by simp only; omega⟩ (Le.to (by simp [wi]) (by simp [hfl, show ¬ 0 = o by omega]) (by simp)) (by simp; omega)
  have hi2 : i = g.agents.length := by omega
  subst hi2
  by_cases i0 : g.agents.length = 0
  · simp -dsimp -implicitDefEqProofs [i0, List.length_eq_zero_iff.1 i0]
  · have o0 : ¬ o = 0 := by have := hoc' i0; omega
    simp -dsimp -implicitDefEqProofs [i0, o0]
    rw [List.take_of_length_le (by simp)]; rfl
set_option maxRecDepth 20000 in
theorem kinds_s (a : Ag) (h : a.kinds.length ≤ 1048576) : CallsS Tryz.prog 173 [agS a] (.v (.one (strsS (a.kinds.map Kd.name)))) := by
  refine calls Tryz.func173 rfl (by rfl) (by rfl) (by kernel_rfl) ?_
  simp -dsimp -implicitDefEqProofs [Tryz.f173]
  refine sw_loop_e (fun p : {p : Nat × Nat × Nat // p.1 ≤ a.kinds.length ∧ p.2.2 < p.2.1 + 1 ∧ (p.1 ≠ 0 → 0 < p.2.2)} => SS.of [(1, .v (.one (.mp 0 0))), (3, if p.1.1 = 0 then .v (.one .nils) else .v (.one (.ms p.1.2.2 0 p.1.1 1 true))), (4, I .i64 p.1.1)] ((0, ⟨98, rowAg a⟩) :: if p.1.1 = 0 then [] else [(p.1.2.2, ⟨9, flat rowStr ((a.kinds.map Kd.name).take p.1.1)⟩)]) (p.1.2.1 + 1))
    (fun p => a.kinds.length - p.1.1) ⟨(0, 0, 0), Nat.zero_le _, by decide, fun h => absurd rfl h⟩ (by kernel_rfl) (Le.to (by simp) (by simp) (by simp)) ?_
  rintro ⟨⟨i, c, o⟩, hi, hoc, hoc'⟩
  simp only at hi hoc hoc'
  by_cases a1 : i < a.kinds.length
  · have wi : IntKind.i64.wrap ((i : Int) + 1) = ((i + 1 : Nat) : Int) := by rw [wrap_i64 _ (by omega) (by omega)]; rfl
    have hfl := flat_snoc (f := rowStr) a.kinds[i].name ((a.kinds.map Kd.name).take i)
    have hsn := takeSnoc (a.kinds.map Kd.name) i (by simpa using a1)
    rw [List.getElem_map] at hsn
    rw [← hsn] at hfl
    have hll : ((a.kinds.map Kd.name).take i).length = i := by simp; omega
    by_cases i0 : i = 0
    · subst i0
      simp -dsimp -implicitDefEqProofs [a1, wi, slots]
      rw [show (a.kinds.map Kd.name).take 0 = [] from rfl, flat_nil, List.nil_append] at hfl
      exact Again.by ⟨(1, c + 2, c + 2), by omega, by simp only; omega, by simp only; omega⟩ (Le.to (by simp [i64_1]) (by simp [hfl]) (by simp)) (by simp; omega)
    · have oc1 : ¬ o = c + 1 := by omega
      have o0 : ¬ o = 0 := by have := hoc' i0; omega
      simp -dsimp -implicitDefEqProofs [a1, wi, i0, slots, hll, oc1, o0]
      refine ⟨by omega, ?_⟩
      exact Again.by ⟨(i + 1, c + 2, c + 2), by omega, by simp only; omega, by simp only; omega⟩ (Le.to (by simp [wi]) (by simp [hfl, show ¬ 0 = o by omega]) (by simp)) (by simp; omega)
  have hi2 : i = a.kinds.length := by omega
  subst hi2
  by_cases i0 : a.kinds.length = 0
  · simp -dsimp -implicitDefEqProofs [i0, List.length_eq_zero_iff.1 i0]
  · have o0 : ¬ o = 0 := by have := hoc' i0; omega
    simp -dsimp -implicitDefEqProofs [i0, o0]
    rw [List.take_of_length_le (by simp)]; rfl
def prodK (l : List Ag) : Nat := l.foldl (fun n a => n * a.kinds.length) 1
def sizeOk (g : Gm) : Bool := decide (g.agents.length ≤ 4) && decide (g.outs.length ≤ 6) && decide (g.needs.length ≤ 12) && g.agents.all (fun a => decide (a.kinds.length ≤ 4)) && decide (prodK g.agents ≤ 16)
theorem prodK_take {l : List Ag} {i : Nat} (h : i < l.length) : prodK (l.take (i + 1)) = prodK (l.take i) * l[i].kinds.length := foldl_take _ 1 l i h
theorem prodK_le {l : List Ag} (h : ∀ a ∈ l, a.kinds.length ≤ 4) : ∀ i, i ≤ l.length → prodK (l.take i) ≤ 4 ^ i
  | 0, _ => Nat.le_refl _
  | i + 1, hi => by
    rw [prodK_take (by omega), Nat.pow_succ]
    exact Nat.mul_le_mul (prodK_le h i (by omega)) (h _ (List.getElem_mem _))
set_option maxRecDepth 20000 in
theorem size_s (g : Gm) (hg : g.agents.length ≤ 1048576) : CallsS Tryz.prog 126 [gmS g] (B (sizeOk g)) := by
  refine calls Tryz.func126 rfl (by rfl) (by rfl) (by kernel_rfl) ?_
  by_cases l1 : (4 : Int) < (g.agents.length : Int)
  · have hb : sizeOk g = false := by unfold sizeOk; rw [decide_eq_false (show ¬ g.agents.length ≤ 4 by omega)]; simp
    simp -dsimp -implicitDefEqProofs [Tryz.f126, l1, hb]
  by_cases l2 : (6 : Int) < (g.outs.length : Int)
  · have hb : sizeOk g = false := by unfold sizeOk; rw [decide_eq_false (show ¬ g.outs.length ≤ 6 by omega)]; simp
    simp -dsimp -implicitDefEqProofs [Tryz.f126, l1, l2, hb]
  by_cases l3 : (12 : Int) < (g.needs.length : Int)
  · have hb : sizeOk g = false := by unfold sizeOk; rw [decide_eq_false (show ¬ g.needs.length ≤ 12 by omega)]; simp
    simp -dsimp -implicitDefEqProofs [Tryz.f126, l1, l2, l3, hb]
  simp -dsimp -implicitDefEqProofs [Tryz.f126, l1, l2, l3]
  refine sw_loop_e (fun p : {p : Nat // p ≤ g.agents.length ∧ ∀ a ∈ g.agents.take p, a.kinds.length ≤ 4} => SS.of [(1, .v (.one (.mp 0 0))), (3, I .i64 (prodK (g.agents.take p.1))), (4, I .i64 p.1)] [(0, ⟨31, rowGm g⟩)] 1)
    (fun p => g.agents.length - p.1) ⟨0, Nat.zero_le _, by simp⟩ (by kernel_rfl) (Le.to (by simp [prodK]) (by simp) (by simp)) ?_
  rintro ⟨i, hi, hp⟩
  by_cases a1 : i < g.agents.length
  · have wi : IntKind.i64.wrap ((i : Int) + 1) = ((i + 1 : Nat) : Int) := by rw [wrap_i64 _ (by omega) (by omega)]; rfl
    by_cases c1 : (4 : Int) < (g.agents[i].kinds.length : Int)
    · have hb : sizeOk g = false := by
        unfold sizeOk
        rw [List.all_eq_false.2 ⟨_, List.getElem_mem a1, by simp; omega⟩]; simp
      simp -dsimp -implicitDefEqProofs [a1, wi, c1, hb]
    have c2 : g.agents[i].kinds.length ≤ 4 := by omega
    have hp2 := all_take a1 hp c2
    have h4 := prodK_le (l := g.agents.take (i + 1)) hp2 (i + 1) (by simp; omega)
    rw [List.take_take, Nat.min_self] at h4
    have h5 : (4 : Nat) ^ (i + 1) ≤ 4 ^ 4 := Nat.pow_le_pow_right (by decide) (by omega)
    have ht := prodK_take a1
    have wm : IntKind.i64.wrap ((prodK (g.agents.take i) : Int) * (g.agents[i].kinds.length : Int)) = (prodK (g.agents.take (i + 1)) : Int) := by
      rw [ht] at h4 ⊢
      rw [← Int.natCast_mul, wrap_i64 _ (by omega) (by omega)]
    simp -dsimp -implicitDefEqProofs [a1, wi, c1]
    exact Again.by ⟨i + 1, a1, hp2⟩ (Le.to (by simp [wi, wm]) (by simp) (by simp)) (by simp; omega)
  have hi2 : i = g.agents.length := by omega
  subst hi2
  rw [List.take_length] at hp
  have hb : sizeOk g = decide ((prodK g.agents : Int) ≤ 16) := by
    unfold sizeOk
    rw [decide_eq_true (show g.agents.length ≤ 4 by omega), decide_eq_true (show g.outs.length ≤ 6 by omega), decide_eq_true (show g.needs.length ≤ 12 by omega), List.all_eq_true.2 (fun a ha => by simpa using hp a ha)]
    simp only [Bool.true_and]
    exact decide_eq_decide.2 (by omega)
  simp -dsimp -implicitDefEqProofs [hb]
def SwapOk (l : List Int) (outs : Nat) : Prop := l.length = outs ∧ ∀ i (h : i < l.length), (0 ≤ l[i] ∧ l[i] < (outs : Int)) ∧ l[l[i].toNat]? = some (i : Int)
set_option maxRecDepth 20000 in
theorem swap_s (l : List Int) (n : Nat) (hn : n ≤ 1048576) : ∀ b, (b = true ↔ SwapOk l n) → CallsS Tryz.prog 174 [.one (intsS l), .one (.int .i64 (n : Int))] (B b) := by
  intro b hb
  refine calls Tryz.func174 rfl (by rfl) (by rfl) (by kernel_rfl) ?_
  by_cases l1 : l.length = n
  · subst l1
    simp -dsimp -implicitDefEqProofs [Tryz.f174]
    refine sw_loop_e (fun p : {p : Nat // p ≤ l.length ∧ ∀ x ∈ l.take p, 0 ≤ x ∧ x < (l.length : Int)} => SS.of [(0, .v (.one (intsS l))), (1, I .i64 l.length), (5, I .i64 p.1)] [] 0)
      (fun p => l.length - p.1) ⟨0, Nat.zero_le _, by simp⟩ (by kernel_rfl) (Le.to (by simp) (by simp) (by simp)) ?_
    rintro ⟨i, hi, hp⟩
    by_cases a1 : i < l.length
    · have wi : IntKind.i64.wrap ((i : Int) + 1) = ((i + 1 : Nat) : Int) := by rw [wrap_i64 _ (by omega) (by omega)]; rfl
      by_cases c1 : l[i] < 0
      · have hb' : b = false := by cases b; rfl; exact absurd ((hb.1 rfl).2 i a1).1.1 (by omega)
        simp -dsimp -implicitDefEqProofs [a1, wi, c1, hb']
      by_cases c2 : (l.length : Int) ≤ l[i]
      · have hb' : b = false := by cases b; rfl; exact absurd ((hb.1 rfl).2 i a1).1.2 (by omega)
        simp -dsimp -implicitDefEqProofs [a1, wi, c1, c2, hb']
      simp -dsimp -implicitDefEqProofs [a1, wi, c1, c2]
      exact Again.by ⟨i + 1, a1, all_take a1 hp ⟨by omega, by omega⟩⟩ (Le.to (by simp [wi]) (by simp) (by simp)) (by simp; omega)
    have hi2 : i = l.length := by omega
    subst hi2
    rw [List.take_length] at hp
    simp -dsimp -implicitDefEqProofs
    refine sw_loop_e (fun p : {p : Nat // p ≤ l.length ∧ ∀ i (h : i < l.length), i < p → l[l[i].toNat]? = some (i : Int)} => SS.of [(0, .v (.one (intsS l))), (6, I .i64 p.1)] [] 0)
      (fun p => l.length - p.1) ⟨0, Nat.zero_le _, fun i _ h => absurd h (by omega)⟩ (by kernel_rfl) (Le.to (by simp) (by simp) (by simp)) ?_
    rintro ⟨i, hi, hq⟩
    by_cases a1 : i < l.length
    · have wi : IntKind.i64.wrap ((i : Int) + 1) = ((i + 1 : Nat) : Int) := by rw [wrap_i64 _ (by omega) (by omega)]; rfl
      obtain ⟨p1, p2⟩ := hp _ (List.getElem_mem a1)
      have p3 : l[i].toNat < l.length := by omega
      by_cases c1 : l[l[i].toNat] = (i : Int)
      · simp -dsimp -implicitDefEqProofs [a1, wi, p1, p2, p3, c1]
        refine Again.by ⟨i + 1, a1, fun j hj hji => ?_⟩ (Le.to (by simp [wi]) (by simp) (by simp)) (by simp; omega)
        by_cases e : j = i
        · subst e; rw [List.getElem?_eq_getElem p3, c1]
        · exact hq j hj (by omega)
      · have hb' : b = false := by
          cases b; rfl
          have := ((hb.1 rfl).2 i a1).2
          rw [List.getElem?_eq_getElem p3] at this
          exact absurd (Option.some.inj this) c1
        simp -dsimp -implicitDefEqProofs [a1, wi, p1, p2, p3, c1, hb']
    have hi2 : i = l.length := by omega
    subst hi2
    have hb' : b = true := hb.2 ⟨rfl, fun i h => ⟨hp _ (List.getElem_mem h), hq i h h⟩⟩
    simp -dsimp -implicitDefEqProofs [hb']
  · have hb' : b = false := by cases b; rfl; exact absurd (hb.1 rfl).1 l1
    simp -dsimp -implicitDefEqProofs [Tryz.f174, hb', show ¬ (l.length : Int) = n by omega]
def RiseOk (l : List Int) (outs : Nat) : Prop := 0 < l.length ∧ ∀ i (h : i < l.length), (0 ≤ l[i] ∧ l[i] < (outs : Int)) ∧ (0 < i → ∃ x, l[i - 1]? = some x ∧ x < l[i])
set_option maxRecDepth 20000 in
theorem rising_s (l : List Int) (n : Nat) (hn : n ≤ 1048576) (hl : lenOk l) : ∀ b, (b = true ↔ RiseOk l n) → CallsS Tryz.prog 175 [.one (intsS l), .one (.int .i64 (n : Int))] (B b) := by
  intro b hb
  unfold lenOk at hl
  refine calls Tryz.func175 rfl (by rfl) (by rfl) (by kernel_rfl) ?_
  simp -dsimp -implicitDefEqProofs [Tryz.f175]
  refine sw_loop_e (fun p : {p : Nat // p ≤ l.length ∧ ∀ i (h : i < l.length), i < p → (0 ≤ l[i] ∧ l[i] < (n : Int)) ∧ (0 < i → ∃ x, l[i - 1]? = some x ∧ x < l[i])} => SS.of [(0, .v (.one (intsS l))), (1, I .i64 n), (5, I .i64 p.1)] [] 0)
    (fun p => l.length - p.1) ⟨0, Nat.zero_le _, fun i _ h => absurd h (by omega)⟩ (by kernel_rfl) (Le.to (by simp) (by simp) (by simp)) ?_
  rintro ⟨i, hi, hp⟩
  by_cases a1 : i < l.length
  · have wi : IntKind.i64.wrap ((i : Int) + 1) = ((i + 1 : Nat) : Int) := by rw [wrap_i64 _ (by omega) (by omega)]; rfl
    by_cases c1 : l[i] < 0
    · have hb' : b = false := by cases b; rfl; exact absurd ((hb.1 rfl).2 i a1).1.1 (by omega)
      simp -dsimp -implicitDefEqProofs [a1, wi, c1, hb']
    by_cases c2 : (n : Int) ≤ l[i]
    · have hb' : b = false := by cases b; rfl; exact absurd ((hb.1 rfl).2 i a1).1.2 (by omega)
      simp -dsimp -implicitDefEqProofs [a1, wi, c1, c2, hb']
    by_cases i0 : i = 0
    · subst i0
      simp -dsimp -implicitDefEqProofs [a1, wi, c1, c2]
      refine Again.by ⟨0 + 1, a1, fun j hj hji => ?_⟩ (Le.to (by simp [i64_1]) (by simp) (by simp)) (by simp; omega)
      obtain rfl : j = 0 := by omega
      exact ⟨⟨by omega, by omega⟩, fun h => absurd h (by omega)⟩
    · obtain ⟨k, hk⟩ : ∃ k, i = k + 1 := ⟨i - 1, by omega⟩
      have wk : IntKind.i64.wrap ((i : Int) - 1) = (k : Int) := by rw [wrap_i64 _ (by omega) (by omega)]; omega
      have a2 : k < l.length := by omega
      have i1 : 0 < i := by omega
      by_cases c3 : l[i] ≤ l[k]
      · have hb' : b = false := by
          cases b; rfl
          obtain ⟨x, hx, hx2⟩ := ((hb.1 rfl).2 i a1).2 (by omega)
          rw [show i - 1 = k by omega, List.getElem?_eq_getElem a2] at hx
          have := Option.some.inj hx
          omega
        simp -dsimp -implicitDefEqProofs [a1, wi, c1, c2, c3, wk, a2, i1, hb']
      · simp -dsimp -implicitDefEqProofs [a1, wi, c1, c2, c3, wk, a2, i1]
        refine Again.by ⟨i + 1, a1, fun j hj hji => ?_⟩ (Le.to (by simp [wi]) (by simp) (by simp)) (by simp; omega)
        by_cases e : j = i
        · subst e; exact ⟨⟨by omega, by omega⟩, fun _ => ⟨l[k], by rw [show j - 1 = k by omega, List.getElem?_eq_getElem a2], by omega⟩⟩
        · exact hp j hj (by omega)
  have hi2 : i = l.length := by omega
  subst hi2
  by_cases c1 : 0 < l.length
  · have hb' : b = true := hb.2 ⟨c1, fun i h => hp i h h⟩
    simp -dsimp -implicitDefEqProofs [hb', c1]
  · have hb' : b = false := by cases b; rfl; exact absurd (hb.1 rfl).1 c1
    simp -dsimp -implicitDefEqProofs [hb', c1]
end Go.Proofs.YtaljbebkooppiaaGreat.Sh

namespace Go.Proofs.YtaljbebkooppiaaGreat.Sh
open Go Go.RowKit
theorem nf {b : Bool} {P : Prop} (h : b = true ↔ P) (hn : ¬ P) : b = false := by
  cases b
  · rfl
  · exact absurd (h.1 rfl) hn
def ShapedOk (na no : Nat) (n : Nd) : Prop :=
  if n.kind = 1 ∨ n.kind = 2 ∨ n.kind = 3 then n.agent = 0 ∧ n.other = 0 ∧ sgnQ n.bound.fix = 0 ∧ n.outs = [] ∧ n.swap = []
  else if n.kind = 4 then n.agent = 0 ∧ n.other = 0 ∧ 0 ≤ sgnQ n.bound.fix ∧ n.outs = [] ∧ n.swap = []
  else if n.kind = 5 then 0 ≤ n.agent ∧ n.agent < n.other ∧ n.other < (na : Int) ∧ sgnQ n.bound.fix = 0 ∧ n.outs = [] ∧ SwapOk n.swap no
  else if n.kind = 6 then 0 ≤ n.agent ∧ n.agent < (na : Int) ∧ n.other = 0 ∧ sgnQ n.bound.fix = 0 ∧ RiseOk n.outs no ∧ n.swap = []
  else False
set_option maxRecDepth 20000 in
set_option maxHeartbeats 1000000 in
theorem shaped_s (g : Gm) (n : Nd) (hn : n.ok) (hg : g.outs.length ≤ 1048576) : ∀ b, (b = true ↔ ShapedOk g.agents.length g.outs.length n) → CallsS Tryz.prog 130 [gmS g, ndS n] (B b) := by
  intro b hb
  obtain ⟨-, -, -, n4, n5, n6, -, -⟩ := hn
  have hs := signR_s n.bound n4
  unfold ShapedOk at hb
  refine calls_cut 2 (fun q : {q : Bool × Bool // (q.1 = true ↔ n.agent = 0 ∧ n.other = 0) ∧ (q.2 = true ↔ sgnQ n.bound.fix = 0)} => SS.of [(2, .v (.one (.mp 0 0))), (3, .v (.one (.mp 1 0))), (5, B q.1.1), (6, B q.1.2)] [(0, ⟨31, rowGm g⟩), (1, ⟨93, rowNd n⟩)] 2) Tryz.func130 rfl (by rfl) (by rfl) (by rfl) (by kernel_rfl) (by kernel_rfl) ?_ ?_
  · simp -dsimp -implicitDefEqProofs
    by_cases e1 : n.agent = 0
    · simp -dsimp -implicitDefEqProofs [e1]
      refine eCall.of hs (by simp) ?_
      simp -dsimp -implicitDefEqProofs
      exact Cut.by ⟨(n.other == 0, sgnQ n.bound.fix == 0), by simp [e1], by simp⟩ (Le.to (by simp) (by simp [e1]) (by simp))
    · simp -dsimp -implicitDefEqProofs [e1]
      refine eCall.of hs (by simp) ?_
      simp -dsimp -implicitDefEqProofs
      exact Cut.by ⟨(false, sgnQ n.bound.fix == 0), by simp [e1], by simp⟩ (Le.to (by simp) (by simp) (by simp))
  · rintro ⟨⟨n0, b0⟩, h0, h1⟩
    simp only at h0 h1
    rw [← h1, ← and_assoc (a := n.agent = 0), ← h0, ← and_assoc (a := n.agent = 0), ← h0] at hb
    generalize sgnQ n.bound.fix = s at *
    by_cases k1 : n.kind = 1 ∨ n.kind = 2 ∨ n.kind = 3
    · rw [if_pos k1] at hb
      cases n0 with
      | false =>
        have hb' := nf hb (by simp)
        rcases k1 with k1 | k1 | k1 <;> simp -dsimp -implicitDefEqProofs [k1, hb']
      | true =>
        cases b0 with
        | false =>
          have hb' := nf hb (by simp)
          rcases k1 with k1 | k1 | k1 <;> simp -dsimp -implicitDefEqProofs [k1, hb']
        | true =>
          by_cases e4 : n.outs = []
          · have hb' : b = ((n.swap.length : Int) == 0) := by rw [Bool.eq_iff_iff, hb]; simp [e4]
            rcases k1 with k1 | k1 | k1 <;> simp -dsimp -implicitDefEqProofs [k1, e4, hb']
          · have hb' := nf hb (by simp [e4])
            rcases k1 with k1 | k1 | k1 <;> simp -dsimp -implicitDefEqProofs [k1, e4, hb']
    rw [if_neg k1] at hb
    have k1a : ¬ n.kind = 1 := fun h => k1 (.inl h)
    have k1b : ¬ n.kind = 2 := fun h => k1 (.inr (.inl h))
    have k1c : ¬ n.kind = 3 := fun h => k1 (.inr (.inr h))
    by_cases k4 : n.kind = 4
    · rw [if_pos k4] at hb
      cases n0 with
      | false =>
        have hb' := nf hb (by simp)
        simp -dsimp -implicitDefEqProofs [k4, hb']
      | true =>
        simp -dsimp -implicitDefEqProofs [k4]
        refine eCall.of hs (by simp) ?_
        by_cases e3 : 0 ≤ s
        · by_cases e4 : n.outs = []
          · have hb' : b = ((n.swap.length : Int) == 0) := by rw [Bool.eq_iff_iff, hb]; simp [e3, e4]
            simp -dsimp -implicitDefEqProofs [e3, e4, hb']
          · have hb' := nf hb (by simp [e4])
            simp -dsimp -implicitDefEqProofs [e3, e4, hb']
        · have hb' := nf hb (by simp [e3])
          simp -dsimp -implicitDefEqProofs [e3, hb']
    rw [if_neg k4] at hb
    by_cases k5 : n.kind = 5
    · rw [if_pos k5] at hb
      by_cases e1 : 0 ≤ n.agent
      · by_cases e2 : n.agent < n.other
        · by_cases e3 : n.other < (g.agents.length : Int)
          · cases b0 with
            | false =>
              have hb' := nf hb (by simp)
              simp -dsimp -implicitDefEqProofs [k5, e1, e2, e3, hb']
            | true =>
              by_cases e5 : n.outs = []
              · simp -dsimp -implicitDefEqProofs [k5, e1, e2, e3, e5]
                by_cases e6 : SwapOk n.swap g.outs.length
                · have hb' : b = true := hb.2 ⟨e1, e2, e3, rfl, e5, e6⟩
                  refine eCall.of (swap_s n.swap g.outs.length hg true (by simp [e6])) (by simp) ?_
                  simp -dsimp -implicitDefEqProofs [hb']
                · have hb' := nf hb (by simp [e6])
                  refine eCall.of (swap_s n.swap g.outs.length hg false (by simp [e6])) (by simp) ?_
                  simp -dsimp -implicitDefEqProofs [hb']
              · have hb' := nf hb (by simp [e5])
                simp -dsimp -implicitDefEqProofs [k5, e1, e2, e3, e5, hb']
          · have hb' := nf hb (by simp [e3])
            simp -dsimp -implicitDefEqProofs [k5, e1, e2, e3, hb']
        · have hb' := nf hb (by simp [e2])
          simp -dsimp -implicitDefEqProofs [k5, e1, e2, hb']
      · have hb' := nf hb (by simp [e1])
        simp -dsimp -implicitDefEqProofs [k5, e1, hb']
    rw [if_neg k5] at hb
    by_cases k6 : n.kind = 6
    · rw [if_pos k6] at hb
      by_cases e1 : 0 ≤ n.agent
      · by_cases e2 : n.agent < (g.agents.length : Int)
        · by_cases e3 : n.other = 0
          · cases b0 with
            | false =>
              have hb' := nf hb (by simp)
              simp -dsimp -implicitDefEqProofs [k6, e1, e2, e3, hb']
            | true =>
              simp -dsimp -implicitDefEqProofs [k6, e1, e2, e3]
              by_cases e6 : RiseOk n.outs g.outs.length
              · have hb' : b = ((n.swap.length : Int) == 0) := by rw [Bool.eq_iff_iff, hb]; simp [e1, e2, e3, e6]
                refine eCall.of (rising_s n.outs g.outs.length hg n5 true (by simp [e6])) (by simp) ?_
                simp -dsimp -implicitDefEqProofs [hb']
              · have hb' := nf hb (by simp [e6])
                refine eCall.of (rising_s n.outs g.outs.length hg n5 false (by simp [e6])) (by simp) ?_
                simp -dsimp -implicitDefEqProofs [hb']
          · have hb' := nf hb (by simp [e3])
            simp -dsimp -implicitDefEqProofs [k6, e1, e2, e3, hb']
        · have hb' := nf hb (by simp [e2])
          simp -dsimp -implicitDefEqProofs [k6, e1, e2, hb']
      · have hb' := nf hb (by simp [e1])
        simp -dsimp -implicitDefEqProofs [k6, e1, hb']
    rw [if_neg k6] at hb
    have hb' := nf hb (fun h => h)
    simp -dsimp -implicitDefEqProofs [k1a, k1b, k1c, k4, k5, k6, hb']
end Go.Proofs.YtaljbebkooppiaaGreat.Sh

namespace Go.Proofs.YtaljbebkooppiaaGreat.Sh
open Go Go.RowKit
def sameNd (m n : Nd) : Prop := m.kind = n.kind ∧ n.kind ≠ 6 ∧ m.agent = n.agent ∧ m.other = n.other
def AgainOk (l : List Nd) (n : Nd) : Prop := ∃ m ∈ l, sameNd m n
set_option maxRecDepth 20000 in
theorem again_s (l : List Nd) (n : Nd) (hl : lenOk l) : ∀ b, (b = true ↔ AgainOk l n) → CallsS Tryz.prog 131 [.one (ndsS l), ndS n] (B b) := by
  intro b hb
  unfold lenOk at hl
  refine calls Tryz.func131 rfl (by rfl) (by rfl) (by kernel_rfl) ?_
  simp -dsimp -implicitDefEqProofs [Tryz.f131]
  refine sw_loop_e (fun p : {p : Nat // p ≤ l.length ∧ ∀ m ∈ l.take p, ¬ sameNd m n} => SS.of [(0, .v (.one (ndsS l))), (3, .v (.one (.mp 0 0))), (5, I .i64 p.1)] [(0, ⟨93, rowNd n⟩)] 1)
    (fun p => l.length - p.1) ⟨0, Nat.zero_le _, by simp⟩ (by kernel_rfl) (Le.to (by simp) (by simp) (by simp)) ?_
  rintro ⟨i, hi, hp⟩
  by_cases a1 : i < l.length
  · have wi : IntKind.i64.wrap ((i : Int) + 1) = ((i + 1 : Nat) : Int) := by rw [wrap_i64 _ (by omega) (by omega)]; rfl
    by_cases c1 : l[i].kind = n.kind
    · by_cases c2 : n.kind = 6
      · have hn : ¬ sameNd l[i] n := fun h => h.2.1 c2
        simp -dsimp -implicitDefEqProofs [a1, wi, c1, c2]
        exact Again.by ⟨i + 1, a1, all_take a1 hp hn⟩ (Le.to (by simp [wi]) (by simp [c2]) (by simp)) (by simp; omega)
      · by_cases c3 : l[i].agent = n.agent
        · by_cases c4 : l[i].other = n.other
          · have hb' : b = true := hb.2 ⟨_, List.getElem_mem a1, c1, c2, c3, c4⟩
            simp -dsimp -implicitDefEqProofs [a1, wi, c1, c2, c3, c4, hb']
          · have hn : ¬ sameNd l[i] n := fun h => c4 h.2.2.2
            simp -dsimp -implicitDefEqProofs [a1, wi, c1, c2, c3, c4]
            exact Again.by ⟨i + 1, a1, all_take a1 hp hn⟩ (Le.to (by simp [wi]) (by simp) (by simp)) (by simp; omega)
        · have hn : ¬ sameNd l[i] n := fun h => c3 h.2.2.1
          simp -dsimp -implicitDefEqProofs [a1, wi, c1, c2, c3]
          exact Again.by ⟨i + 1, a1, all_take a1 hp hn⟩ (Le.to (by simp [wi]) (by simp) (by simp)) (by simp; omega)
    · have hn : ¬ sameNd l[i] n := fun h => c1 h.1
      simp -dsimp -implicitDefEqProofs [a1, wi, c1]
      exact Again.by ⟨i + 1, a1, all_take a1 hp hn⟩ (Le.to (by simp [wi]) (by simp) (by simp)) (by simp; omega)
  have hi2 : i = l.length := by omega
  subst hi2
  rw [List.take_length] at hp
  have hb' := nf hb (fun ⟨m, hm, h⟩ => hp m hm h)
  simp -dsimp -implicitDefEqProofs [hb']
def RKd (no : Nat) (k : Kd) : Prop := ¬ sgnQ k.weight.fix < 0 ∧ k.worth.length = no
def RAgOk (no : Nat) (a : Ag) : Prop := a.kinds ≠ [] ∧ NamesOk (a.kinds.map Kd.name) ∧ ∀ k ∈ a.kinds, RKd no k
set_option maxRecDepth 20000 in
theorem rightAgent_s (a : Ag) (no : Nat) (ha : a.ok) (h1 : a.kinds.length ≤ 1048576) : ∀ b, (b = true ↔ RAgOk no a) → CallsS Tryz.prog 129 [agS a, .one (.int .i64 (no : Int))] (B b) := by
  intro b hb
  obtain ⟨-, -, hk⟩ := ha
  have hns := names_s (a.kinds.map Kd.name) (by unfold lenOk; rw [List.length_map]; omega) (fun s hs => by obtain ⟨k, hk1, rfl⟩ := List.mem_map.1 hs; exact (hk k hk1).1)
  refine calls Tryz.func129 rfl (by rfl) (by rfl) (by kernel_rfl) ?_
  by_cases e1 : a.kinds = []
  · have hb' := nf hb (fun h => h.1 e1)
    simp -dsimp -implicitDefEqProofs [Tryz.f129, e1, hb']
  simp -dsimp -implicitDefEqProofs [Tryz.f129, e1]
  refine eCall.of (kinds_s a h1) (by simp) ?_
  simp -dsimp -implicitDefEqProofs
  by_cases e2 : NamesOk (a.kinds.map Kd.name)
  · refine eCall.of (hns true (by simp [e2])) (by simp) ?_
    simp -dsimp -implicitDefEqProofs
    refine sw_loop_e (fun p : {p : Nat // p ≤ a.kinds.length ∧ ∀ k ∈ a.kinds.take p, RKd no k} => SS.of [(1, I .i64 no), (2, .v (.one (.mp 0 0))), (5, I .i64 p.1)] [(0, ⟨98, rowAg a⟩)] 1)
      (fun p => a.kinds.length - p.1) ⟨0, Nat.zero_le _, by simp⟩ (by kernel_rfl) (Le.to (by simp) (by simp) (by simp)) ?_
    rintro ⟨i, hi, hp⟩
    by_cases a1 : i < a.kinds.length
    · have wi : IntKind.i64.wrap ((i : Int) + 1) = ((i + 1 : Nat) : Int) := by rw [wrap_i64 _ (by omega) (by omega)]; rfl
      obtain ⟨k1, k2, k3, k4, k5⟩ := hk _ (List.getElem_mem a1)
      have hs := signR_s a.kinds[i].weight k2
      simp -dsimp -implicitDefEqProofs [a1, wi]
      refine eCall.of hs (by simp) ?_
      by_cases c1 : sgnQ a.kinds[i].weight.fix < 0
      · have hb' := nf hb (fun h => (h.2.2 _ (List.getElem_mem a1)).1 c1)
        simp -dsimp -implicitDefEqProofs [c1, hb']
      · by_cases c2 : a.kinds[i].worth.length = no
        · simp -dsimp -implicitDefEqProofs [a1, c1, c2]
          exact Again.by ⟨i + 1, a1, all_take a1 hp ⟨c1, c2⟩⟩ (Le.to (by simp [wi]) (by simp) (by simp)) (by simp; omega)
        · have hb' := nf hb (fun h => c2 (h.2.2 _ (List.getElem_mem a1)).2)
          simp -dsimp -implicitDefEqProofs [a1, c1, show ¬ (a.kinds[i].worth.length : Int) = no by omega, c2, hb']
    have hi2 : i = a.kinds.length := by omega
    subst hi2
    rw [List.take_length] at hp
    have hb' : b = true := hb.2 ⟨e1, e2, hp⟩
    simp -dsimp -implicitDefEqProofs [hb']
  · have hb' := nf hb (fun h => e2 h.2.1)
    refine eCall.of (hns false (by simp [e2])) (by simp) ?_
    simp -dsimp -implicitDefEqProofs [hb']
structure RightOk (g : Gm) : Prop where
  ag : g.agents ≠ []
  ou : g.outs ≠ []
  an : NamesOk (g.agents.map Ag.name)
  on : NamesOk g.outs
  aim : g.aim = 1 ∨ g.aim = 2 ∨ g.aim = 3
  all : ∀ a ∈ g.agents, RAgOk g.outs.length a
  needs : ∀ i (h : i < g.needs.length), ShapedOk g.agents.length g.outs.length g.needs[i] ∧ ¬ AgainOk (g.needs.take i) g.needs[i]
def isRight (g : Gm) (e : Int) : Prop := (sizeOk g = false ∧ e = 1) ∨ (sizeOk g = true ∧ ¬ RightOk g ∧ e = 2) ∨ (sizeOk g = true ∧ RightOk g ∧ e = 0)
theorem isRight_bad {g : Gm} {e : Int} (h : isRight g e) (h1 : sizeOk g = true) (h2 : ¬ RightOk g) : e = 2 := by
  rcases h with h | h | h
  · rw [h1] at h; exact absurd h.1 (by decide)
  · exact h.2.2
  · exact absurd h.2.1 h2
theorem isRight_ok {g : Gm} {e : Int} (h : isRight g e) (h1 : sizeOk g = true) (h2 : RightOk g) : e = 0 := by
  rcases h with h | h | h
  · rw [h1] at h; exact absurd h.1 (by decide)
  · exact absurd h2 h.2.1
  · exact h.2.2
set_option maxRecDepth 20000 in
set_option maxHeartbeats 1000000 in
theorem right_s (g : Gm) (hg : g.ok) (hb : beyond g = false) : ∀ e, isRight g e → CallsS Tryz.prog 67 [gmS g] (I .i64 e) := by
  intro e he
  obtain ⟨b1, b2, b3, b4⟩ := beyond_len hb
  obtain ⟨ga, go, gn, hA, hO, hN, -⟩ := id hg
  have hsz := size_s g (by omega)
  have hns := names_s (g.agents.map Ag.name) (by unfold lenOk; rw [List.length_map]; omega) (fun s hs => by obtain ⟨k, hk1, rfl⟩ := List.mem_map.1 hs; exact (hA k hk1).1)
  have hos := names_s g.outs go hO
  refine calls_cut 3 (fun _ : {u : Unit // sizeOk g = true ∧ g.agents ≠ [] ∧ g.outs ≠ [] ∧ NamesOk (g.agents.map Ag.name) ∧ NamesOk g.outs ∧ (g.aim = 1 ∨ g.aim = 2 ∨ g.aim = 3)} => SS.of [(1, .v (.one (.mp 0 0)))] [(0, ⟨31, rowGm g⟩)] 1) Tryz.func67 rfl (by rfl) (by rfl) (by rfl) (by kernel_rfl) (by kernel_rfl) ?_ ?_
  case refine_2 =>
    rintro ⟨-, s1, e1, e1b, e3, e4, e5⟩
    simp -dsimp -implicitDefEqProofs
    refine sw_loop_e (fun p : {p : Nat // p ≤ g.agents.length ∧ ∀ a ∈ g.agents.take p, RAgOk g.outs.length a} => SS.of [(1, .v (.one (.mp 0 0))), (3, I .i64 p.1)] [(0, ⟨31, rowGm g⟩)] 1)
      (fun p => g.agents.length - p.1) ⟨0, Nat.zero_le _, by simp⟩ (by kernel_rfl) (Le.to (by simp) (by simp) (by simp)) ?_
    rintro ⟨i, hi, hp⟩
    by_cases a1 : i < g.agents.length
    · have wi : IntKind.i64.wrap ((i : Int) + 1) = ((i + 1 : Nat) : Int) := by rw [wrap_i64 _ (by omega) (by omega)]; rfl
      have hm := List.getElem_mem a1
      have hra := rightAgent_s g.agents[i] g.outs.length (hA _ hm) (by have := b4 _ hm; omega)
      simp -dsimp -implicitDefEqProofs [a1, wi]
      by_cases c1 : RAgOk g.outs.length g.agents[i]
      · refine eCall.of (hra true (by simp [c1])) (by simp) ?_
        simp -dsimp -implicitDefEqProofs
        exact Again.by ⟨i + 1, a1, all_take a1 hp c1⟩ (Le.to (by simp [wi]) (by simp) (by simp)) (by simp; omega)
      · have e2 := isRight_bad he s1 (fun h => c1 (h.all _ hm))
        refine eCall.of (hra false (by simp [c1])) (by simp) ?_
        simp -dsimp -implicitDefEqProofs [e2]
    have hi2 : i = g.agents.length := by omega
    subst hi2
    rw [List.take_length] at hp
    simp -dsimp -implicitDefEqProofs
    refine sw_loop_e (fun p : {p : Nat // p ≤ g.needs.length ∧ ∀ i (h : i < g.needs.length), i < p → ShapedOk g.agents.length g.outs.length g.needs[i] ∧ ¬ AgainOk (g.needs.take i) g.needs[i]} => SS.of [(1, .v (.one (.mp 0 0))), (4, I .i64 p.1)] [(0, ⟨31, rowGm g⟩)] 1)
      (fun p => g.needs.length - p.1) ⟨0, Nat.zero_le _, fun i _ h => absurd h (by omega)⟩ (by kernel_rfl) (Le.to (by simp) (by simp) (by simp)) ?_
    rintro ⟨i, hi, hq⟩
    by_cases a1 : i < g.needs.length
    · have wi : IntKind.i64.wrap ((i : Int) + 1) = ((i + 1 : Nat) : Int) := by rw [wrap_i64 _ (by omega) (by omega)]; rfl
      have hm := List.getElem_mem a1
      have hsh := shaped_s g g.needs[i] (hN _ hm) (by omega)
      have hag := again_s (g.needs.take i) g.needs[i] (by unfold lenOk at gn ⊢; rw [List.length_take]; omega)
      simp -dsimp -implicitDefEqProofs [a1, wi]
      by_cases c1 : ShapedOk g.agents.length g.outs.length g.needs[i]
      · refine eCall.of (hsh true (by simp [c1])) (by simp) ?_
        simp -dsimp -implicitDefEqProofs [a1, hi]
        by_cases c2 : AgainOk (g.needs.take i) g.needs[i]
        · have e2 := isRight_bad he s1 (fun h => (h.needs i a1).2 c2)
          refine eCall.of (hag true (by simp [c2])) (by simp) ?_
          simp -dsimp -implicitDefEqProofs [e2]
        · refine eCall.of (hag false (by simp [c2])) (by simp) ?_
          simp -dsimp -implicitDefEqProofs
          refine Again.by ⟨i + 1, a1, fun j hj hji => ?_⟩ (Le.to (by simp [wi]) (by simp) (by simp)) (by simp; omega)
          by_cases e : j = i
          · subst e; exact ⟨c1, c2⟩
          · exact hq j hj (by omega)
      · have e2 := isRight_bad he s1 (fun h => c1 (h.needs i a1).1)
        refine eCall.of (hsh false (by simp [c1])) (by simp) ?_
        simp -dsimp -implicitDefEqProofs [e2]
    have hi2 : i = g.needs.length := by omega
    subst hi2
    have e2 := isRight_ok he s1 ⟨e1, e1b, e3, e4, e5, hp, fun i h => hq i h h⟩
    simp -dsimp -implicitDefEqProofs [e2]
  simp -dsimp -implicitDefEqProofs
  by_cases s1 : sizeOk g = true
  · rw [s1] at hsz
    refine eCall.of hsz (by simp) ?_
    by_cases e1 : g.agents = []
    · have e2 := isRight_bad he s1 (fun h => h.ag e1)
      simp -dsimp -implicitDefEqProofs [e1, e2]
    by_cases e1b : g.outs = []
    · have e2 := isRight_bad he s1 (fun h => h.ou e1b)
      simp -dsimp -implicitDefEqProofs [e1, e1b, e2]
    simp -dsimp -implicitDefEqProofs [e1, e1b]
    refine eCall.of (agents_s g (by omega)) (by simp) ?_
    simp -dsimp -implicitDefEqProofs
    by_cases e3 : NamesOk (g.agents.map Ag.name)
    · refine eCall.of (hns true (by simp [e3])) (by simp) ?_
      simp -dsimp -implicitDefEqProofs
      by_cases e4 : NamesOk g.outs
      · refine eCall.of (hos true (by simp [e4])) (by simp) ?_
        by_cases e5 : g.aim = 1 ∨ g.aim = 2 ∨ g.aim = 3
        · rcases id e5 with e6 | e6 | e6 <;>
          · simp -dsimp -implicitDefEqProofs [e6]
            exact Cut.by ⟨(), s1, e1, e1b, e3, e4, e5⟩ (Le.to (by simp) (by simp [e6]) (by simp))
        · have e2 := isRight_bad he s1 (fun h => e5 h.aim)
          have c1 : ¬ g.aim = 1 := fun h => e5 (.inl h)
          have c2 : ¬ g.aim = 2 := fun h => e5 (.inr (.inl h))
          have c3 : ¬ g.aim = 3 := fun h => e5 (.inr (.inr h))
          simp -dsimp -implicitDefEqProofs [c1, c2, c3, e2]
      · have e2 := isRight_bad he s1 (fun h => e4 h.on)
        refine eCall.of (hos false (by simp [e4])) (by simp) ?_
        simp -dsimp -implicitDefEqProofs [e2]
    · have e2 := isRight_bad he s1 (fun h => e3 h.an)
      refine eCall.of (hns false (by simp [e3])) (by simp) ?_
      simp -dsimp -implicitDefEqProofs [e2]
  · have s1 : sizeOk g = false := by simpa using s1
    have e2 : e = 1 := by
      rcases he with h | h | h
      · exact h.2
      · rw [s1] at h; exact absurd h.1 (by decide)
      · rw [s1] at h; exact absurd h.1 (by decide)
    rw [s1] at hsz
    refine eCall.of hsz (by simp) ?_
    simp -dsimp -implicitDefEqProofs [e2]
end Go.Proofs.YtaljbebkooppiaaGreat.Sh

namespace Go.Proofs.YtaljbebkooppiaaGreat.Sh
open Go Go.RowKit
structure Vn where
  agent : Int
  part : List Int
  yes : Int
  no : Int
  out : Int
  pay : List FR
@[simp] def rowVn (x : Vn) : List S1 := [.int .i64 x.agent, intsS x.part, .int .i64 x.yes, .int .i64 x.no, .int .i64 x.out, frsS x.pay]
@[simp] def vnS (x : Vn) : SV := .agg (rowVn x)
@[simp] def vnsS (l : List Vn) : S1 := .sl true 6 (l.map rowVn)
@[simp] def viS (l : List Vn) : SV := .agg [vnsS l]
structure Vn.ok (x : Vn) : Prop where
  a : In64 x.agent
  p : lenOk x.part ∧ InI x.part
  y : In64 x.yes
  n : In64 x.no
  o : In64 x.out
  f : lenOk x.pay ∧ ∀ f ∈ x.pay, f.ok
instance : Inhabited Vn := ⟨⟨-1, [], 0, 0, 0, []⟩⟩
def vnAt (l : List Vn) (i : Nat) : Vn := (l[i]?).getD default
theorem vnAt_eq {l : List Vn} {i : Nat} (h : i < l.length) : vnAt l i = l[i] := by unfold vnAt; rw [List.getElem?_eq_getElem h]; rfl
def IsUp (l : List Vn) (i : Nat) (y : Bool) (j : Nat) : Prop := (vnAt l i).agent ≠ -1 ∧ (if y then (vnAt l i).yes else (vnAt l i).no) = (j : Int)
instance (l : List Vn) (i : Nat) (y : Bool) (j : Nat) : Decidable (IsUp l i y j) := by unfold IsUp; infer_instance
def upTo (l : List Vn) (j : Nat) : Nat → Option (Nat × Bool)
  | 0 => none
  | n + 1 => match upTo l j n with
    | some p => some p
    | none => if IsUp l n true j then some (n, true) else if IsUp l n false j then some (n, false) else none
def upOf (l : List Vn) (j : Nat) : Option (Nat × Bool) := upTo l j l.length
structure LinksTo (l : List Vn) (n : Nat) : Prop where
  rng : ∀ i, i < n → (vnAt l i).agent ≠ -1 → ((i : Int) < (vnAt l i).yes ∧ (vnAt l i).yes < (l.length : Int)) ∧ ((i : Int) < (vnAt l i).no ∧ (vnAt l i).no < (l.length : Int)) ∧ (vnAt l i).yes ≠ (vnAt l i).no
  uniq : ∀ i i' y y' j, i < n → i' < n → IsUp l i y j → IsUp l i' y' j → i = i' ∧ y = y'
def Links (l : List Vn) : Prop := LinksTo l l.length ∧ ∀ j, 0 < j → j < l.length → ∃ i y, i < l.length ∧ IsUp l i y j
theorem upTo_some {l : List Vn} {j : Nat} : ∀ {n : Nat} {p : Nat × Bool}, upTo l j n = some p → p.1 < n ∧ IsUp l p.1 p.2 j
  | n + 1, p, h => by
    unfold upTo at h
    split at h
    · next q hq =>
      obtain rfl := Option.some.inj h
      have := upTo_some hq
      exact ⟨by omega, this.2⟩
    · split at h
      · next c => obtain rfl := Option.some.inj h; exact ⟨Nat.lt_succ_self n, c⟩
      · split at h
        · next c => obtain rfl := Option.some.inj h; exact ⟨Nat.lt_succ_self n, c⟩
        · cases h
theorem upTo_none {l : List Vn} {j : Nat} : ∀ {n : Nat}, upTo l j n = none → ∀ i y, i < n → ¬ IsUp l i y j
  | n + 1, h, i, y, hi => by
    unfold upTo at h
    split at h
    · cases h
    · next hn =>
      split at h
      · cases h
      · next c1 =>
        split at h
        · cases h
        · next c2 =>
          by_cases e : i = n
          · subst e; cases y
            · exact c2
            · exact c1
          · exact upTo_none hn i y (by omega)
theorem upTo_iff {l : List Vn} {n : Nat} (h : LinksTo l n) {j i : Nat} {y : Bool} (hi : i < n) (hu : IsUp l i y j) : upTo l j n = some (i, y) := by
  cases e : upTo l j n with
  | none => exact absurd hu (upTo_none e i y hi)
  | some p =>
    obtain ⟨h1, h2⟩ := upTo_some e
    obtain ⟨rfl, rfl⟩ := h.uniq _ _ _ _ _ h1 hi h2 hu
    rfl
def hasK (l : List Int) (k : Nat) : Bool := decide ((k : Int) ∈ l)
def mayD (l : List Vn) (a k : Nat) : Nat → Nat → Bool
  | 0, _ => true
  | d + 1, j => match upOf l j with
    | none => true
    | some (i, y) => (if (vnAt l i).agent = (a : Int) then hasK (vnAt l i).part k == y else true) && mayD l a k d i
def mayB (l : List Vn) (a k j : Nat) : Bool := mayD l a k l.length j
theorem Links.up {l : List Vn} (h : Links l) {j i : Nat} {y : Bool} (hi : i < l.length) (hu : IsUp l i y j) : upOf l j = some (i, y) := upTo_iff h.1 hi hu
theorem Links.lt {l : List Vn} (h : Links l) {j i : Nat} {y : Bool} (hu : upOf l j = some (i, y)) : i < j ∧ i < l.length ∧ j < l.length := by
  obtain ⟨h1, h2, h3⟩ := upTo_some hu
  simp only at h1 h2 h3
  obtain ⟨⟨r1, r2⟩, ⟨r3, r4⟩, -⟩ := h.1.rng i h1 h2
  cases y <;> simp at h3 <;> omega
theorem Links.root {l : List Vn} (h : Links l) : upOf l 0 = none := by
  cases e : upOf l 0 with
  | none => rfl
  | some p => have := (h.lt e).1; omega
theorem Links.may {l : List Vn} (h : Links l) (a k : Nat) : ∀ (d j : Nat), j ≤ d → ∀ e, mayD l a k (d + e) j = mayD l a k d j
  | 0, j, hj, e => by
    obtain rfl : j = 0 := by omega
    cases e with
    | zero => rfl
    | succ e => show mayD l a k (0 + e + 1) 0 = true; unfold mayD; rw [h.root]
  | d + 1, j, hj, e => by
    rw [show d + 1 + e = (d + e) + 1 by omega]
    unfold mayD
    cases hu : upOf l j with
    | none => rfl
    | some p =>
      obtain ⟨i, y⟩ := p
      simp only
      rw [h.may a k d i (by have := (h.lt hu).1; omega) e]
theorem Links.mayUp {l : List Vn} (h : Links l) (a k : Nat) {j i : Nat} {y : Bool} (hi : i < l.length) (hu : IsUp l i y j) : mayB l a k j = ((if (vnAt l i).agent = (a : Int) then hasK (vnAt l i).part k == y else true) && mayB l a k i) := by
  have e := h.up hi hu
  have hl := h.lt e
  unfold mayB
  have h1 := h.may a k j j (Nat.le_refl _) (l.length - j)
  rw [show j + (l.length - j) = l.length by omega] at h1
  have h2 := h.may a k i i (Nat.le_refl _) (l.length - i)
  rw [show i + (l.length - i) = l.length by omega] at h2
  rw [h1, h2]
  obtain ⟨d, rfl⟩ : ∃ d, j = d + 1 := ⟨j - 1, by omega⟩
  have h3 := h.may a k i i (Nat.le_refl _) (d - i)
  rw [show i + (d - i) = d by omega] at h3
  rw [mayD, e]
  simp only
  rw [h3]
theorem Links.mayRoot {l : List Vn} (h : Links l) (a k : Nat) : mayB l a k 0 = true := by
  unfold mayB
  have := h.may a k 0 0 (Nat.le_refl _) l.length
  rw [Nat.zero_add] at this
  rw [this]; rfl
def EndOk (g : Gm) (x : Vn) : Prop := 0 ≤ x.out ∧ x.out < (g.outs.length : Int) ∧ x.pay.length = g.agents.length ∧ (g.pay = false → ∀ f ∈ x.pay, f.fix = 0)
def klA (g : Gm) (a : Nat) : Nat := ((g.agents[a]?).map fun A => A.kinds.length).getD 0
def RiseK (n : Nat) (l : List Int) : Prop := ∀ i (h : i < l.length), 0 ≤ l[i] ∧ l[i] < (n : Int) ∧ (0 < i → l[i - 1]'(by omega) < l[i])
def AskOk (g : Gm) (l : List Vn) (i : Nat) : Prop :=
  ∃ a : Nat, (vnAt l i).agent = (a : Int) ∧ a < g.agents.length ∧ (vnAt l i).part ≠ [] ∧ RiseK (klA g a) (vnAt l i).part ∧ (∀ k, k < klA g a → hasK (vnAt l i).part k = true → mayB l a k i = true) ∧ ∃ k, k < klA g a ∧ mayB l a k i = true ∧ hasK (vnAt l i).part k = false
structure TreeOk (g : Gm) (l : List Vn) : Prop where
  pos : 0 < l.length
  len : l.length ≤ 200
  links : Links l
  ends : ∀ i, i < l.length → (vnAt l i).agent = -1 → EndOk g (vnAt l i)
  asks : ∀ i, i < l.length → (vnAt l i).agent ≠ -1 → AskOk g l i
end Go.Proofs.YtaljbebkooppiaaGreat.Sh

namespace Go.Proofs.YtaljbebkooppiaaGreat.Sh
open Go Go.RowKit
def KnownN (l : List Vn) (n j : Nat) : Prop := j = 0 ∨ ∃ i y, i < n ∧ IsUp l i y j
def mayM (l : List Vn) (n a k : Nat) : Nat → Nat → Bool
  | 0, _ => true
  | d + 1, j => match upTo l j n with
    | none => true
    | some (i, y) => (if (vnAt l i).agent = (a : Int) then hasK (vnAt l i).part k == y else true) && mayM l n a k d i
theorem mayM_all (l : List Vn) (a k : Nat) : ∀ d j, mayM l l.length a k d j = mayD l a k d j
  | 0, _ => rfl
  | d + 1, j => by
    unfold mayM mayD upOf
    cases upTo l j l.length with
    | none => rfl
    | some p => simp only [mayM_all l a k d]
theorem upTo_mono {l : List Vn} {j : Nat} {p : Nat × Bool} : ∀ {n m : Nat}, n ≤ m → upTo l j n = some p → upTo l j m = some p
  | n, 0, h, e => by
    obtain rfl : n = 0 := by omega
    exact e
  | n, m + 1, h, e => by
    by_cases c : n = m + 1
    · subst c; exact e
    · have := upTo_mono (n := n) (m := m) (by omega) e
      unfold upTo; rw [this]
theorem LinksTo.lt {l : List Vn} {n : Nat} (h : LinksTo l n) {j i : Nat} {y : Bool} (hi : i < n) (hu : IsUp l i y j) : i < j ∧ j < l.length := by
  obtain ⟨h2, h3⟩ := hu
  obtain ⟨⟨r1, r2⟩, ⟨r3, r4⟩, -⟩ := h.rng i hi h2
  cases y <;> simp at h3 <;> omega
theorem LinksTo.root {l : List Vn} {n : Nat} (h : LinksTo l n) : upTo l 0 n = none := by
  cases e : upTo l 0 n with
  | none => rfl
  | some p => obtain ⟨h1, h2⟩ := upTo_some e; have := (h.lt h1 h2).1; omega
theorem mayM_mono {l : List Vn} {n m : Nat} (hm : LinksTo l m) (hnm : n ≤ m) (a k : Nat) : ∀ (d j : Nat), (∀ i, i < n → KnownN l n i) → KnownN l n j → mayM l m a k d j = mayM l n a k d j
  | 0, _, _, _ => rfl
  | d + 1, j, hk, hj => by
    unfold mayM
    rcases hj with rfl | ⟨i, y, hi, hu⟩
    · have h1 := hm.root
      rw [h1]
      have h2 : upTo l 0 n = none := by
        cases e : upTo l 0 n with
        | none => rfl
        | some p => rw [upTo_mono hnm e] at h1; cases h1
      rw [h2]
    · cases e : upTo l j n with
      | none => exact absurd hu (upTo_none e i y hi)
      | some p =>
        rw [upTo_mono hnm e]
        obtain ⟨i', y'⟩ := p
        have := (upTo_some e).1
        simp only
        rw [mayM_mono hm hnm a k d i' hk (hk i' this)]
theorem LinksTo.may {l : List Vn} {n : Nat} (h : LinksTo l n) (a k : Nat) : ∀ (d j : Nat), j ≤ d → ∀ e, mayM l n a k (d + e) j = mayM l n a k d j
  | 0, j, hj, e => by
    obtain rfl : j = 0 := by omega
    cases e with
    | zero => rfl
    | succ e => show mayM l n a k (0 + e + 1) 0 = true; unfold mayM; rw [h.root]
  | d + 1, j, hj, e => by
    rw [show d + 1 + e = (d + e) + 1 by omega]
    unfold mayM
    cases hu : upTo l j n with
    | none => rfl
    | some p =>
      obtain ⟨i, y⟩ := p
      obtain ⟨h1, h2⟩ := upTo_some hu
      simp only
      rw [h.may a k d i (by have := (h.lt h1 h2).1; omega) e]
def mayK (l : List Vn) (n a k j : Nat) : Bool := mayM l n a k j j
theorem LinksTo.mayUp {l : List Vn} {n : Nat} (h : LinksTo l n) (a k : Nat) {j i : Nat} {y : Bool} (hi : i < n) (hu : IsUp l i y j) : mayK l n a k j = ((if (vnAt l i).agent = (a : Int) then hasK (vnAt l i).part k == y else true) && mayK l n a k i) := by
  have hl := (h.lt hi hu).1
  unfold mayK
  obtain ⟨d, rfl⟩ : ∃ d, j = d + 1 := ⟨j - 1, by omega⟩
  have h3 := h.may a k i i (Nat.le_refl _) (d - i)
  rw [show i + (d - i) = d by omega] at h3
  rw [mayM, upTo_iff h hi hu]
  simp only
  rw [h3]
theorem mayK_root (l : List Vn) (n a k : Nat) : mayK l n a k 0 = true := rfl
theorem Links.mayK {l : List Vn} (h : Links l) (a k : Nat) {j : Nat} (hj : j < l.length) : mayB l a k j = Sh.mayK l l.length a k j := by
  have h1 := h.may a k j j (Nat.le_refl _) (l.length - j)
  rw [show j + (l.length - j) = l.length by omega] at h1
  unfold mayB Sh.mayK
  rw [h1, mayM_all]
structure AskN (g : Gm) (l : List Vn) (i a : Nat) : Prop where
  ag : (vnAt l i).agent = (a : Int)
  la : a < g.agents.length
  ne : (vnAt l i).part ≠ []
  rise : RiseK (klA g a) (vnAt l i).part
  sub : ∀ k, k < klA g a → hasK (vnAt l i).part k = true → mayK l i a k i = true
  more : ∃ k, k < klA g a ∧ mayK l i a k i = true ∧ hasK (vnAt l i).part k = false
  yes : ((i : Int) < (vnAt l i).yes ∧ (vnAt l i).yes < (l.length : Int)) ∧ ∀ j : Nat, (vnAt l i).yes = (j : Int) → ¬ KnownN l i j
  no : ((i : Int) < (vnAt l i).no ∧ (vnAt l i).no < (l.length : Int)) ∧ (∀ j : Nat, (vnAt l i).no = (j : Int) → ¬ KnownN l i j) ∧ (vnAt l i).no ≠ (vnAt l i).yes
structure StepOk (g : Gm) (l : List Vn) (i : Nat) : Prop where
  known : KnownN l i i
  ends : (vnAt l i).agent = -1 → EndOk g (vnAt l i)
  asks : (vnAt l i).agent ≠ -1 → ∃ a, AskN g l i a
theorem steps_links {g : Gm} {l : List Vn} : ∀ n, n ≤ l.length → (∀ i, i < n → StepOk g l i) → LinksTo l n
  | 0, _, _ => ⟨fun i hi => absurd hi (by omega), fun i i' y y' j hi => absurd hi (by omega)⟩
  | n + 1, hn, h => by
    have ih := steps_links n (by omega) fun i hi => h i (by omega)
    have hs := h n (by omega)
    have hr : (vnAt l n).agent ≠ -1 → ((n : Int) < (vnAt l n).yes ∧ (vnAt l n).yes < (l.length : Int)) ∧ ((n : Int) < (vnAt l n).no ∧ (vnAt l n).no < (l.length : Int)) ∧ (vnAt l n).yes ≠ (vnAt l n).no := fun hq => by
      obtain ⟨a, ha⟩ := hs.asks hq
      exact ⟨ha.yes.1, ha.no.1, fun e => ha.no.2.2 e.symm⟩
    have old : ∀ i y y' j, i < n → IsUp l i y j → IsUp l n y' j → False := fun i y y' j hi h1 h2 => by
      obtain ⟨a, ha⟩ := hs.asks h2.1
      have hk : KnownN l n j := .inr ⟨i, y, hi, h1⟩
      have h3 := h2.2
      cases y' with
      | true => exact ha.yes.2 j (by simpa using h3) hk
      | false => exact ha.no.2.1 j (by simpa using h3) hk
    refine ⟨fun i hi hq => ?_, fun i i' y y' j hi hi' h1 h2 => ?_⟩
    · by_cases e : i = n
      · subst e; exact hr hq
      · exact ih.rng i (by omega) hq
    · by_cases e : i = n
      · by_cases e' : i' = n
        · subst e; subst e'
          refine ⟨rfl, ?_⟩
          have h3 := h1.2
          have h4 := h2.2
          have h5 := (hr h1.1).2.2
          cases y <;> cases y' <;> simp at h3 h4 <;> first | rfl | omega
        · subst e; exact absurd h1 (fun h1 => old i' y' y j (by omega) h2 h1)
      · by_cases e' : i' = n
        · subst e'; exact absurd h2 (fun h2 => old i y y' j (by omega) h1 h2)
        · exact ih.uniq i i' y y' j (by omega) (by omega) h1 h2
theorem tree_iff {g : Gm} {l : List Vn} (h0 : 0 < l.length) (h1 : l.length ≤ 200) : TreeOk g l ↔ ∀ i, i < l.length → StepOk g l i := by
  constructor
  · intro h i hi
    have hkn : ∀ j, j < l.length → KnownN l j j := fun j hj => by
      by_cases e : j = 0
      · exact .inl e
      · obtain ⟨i', y, h2, h3⟩ := h.links.2 j (by omega) hj
        exact .inr ⟨i', y, (h.links.1.lt h2 h3).1, h3⟩
    refine ⟨hkn i hi, h.ends i hi, fun hq => ?_⟩
    obtain ⟨a, g1, g2, g3, g4, g5, g6⟩ := h.asks i hi hq
    obtain ⟨r1, r2, r3⟩ := h.links.1.rng i hi hq
    have em : ∀ k, mayB l a k i = mayK l i a k i := fun k => by
      rw [h.links.mayK a k hi]
      unfold mayK
      exact mayM_mono h.links.1 (by omega) a k i i (fun j hj => by
        rcases hkn j (by omega) with e | ⟨i', y, h2, h3⟩
        · exact .inl e
        · exact .inr ⟨i', y, by omega, h3⟩) (hkn i hi)
    have nk : ∀ (y : Bool) (j : Nat), IsUp l i y j → ¬ KnownN l i j := fun y j hu hk => by
      rcases hk with rfl | ⟨i', y', h2, h3⟩
      · have := (h.links.1.lt hi hu).1; omega
      · have := (h.links.1.uniq _ _ _ _ _ hi (by omega) hu h3).1; omega
    refine ⟨a, ⟨g1, g2, g3, g4, fun k hk hp => by rw [← em]; exact g5 k hk hp, ?_, ⟨r1, fun j hj => nk true j ⟨hq, by simpa using hj⟩⟩, ⟨r2, fun j hj => nk false j ⟨hq, by simpa using hj⟩, fun e => r3 e.symm⟩⟩⟩
    obtain ⟨k, k1, k2, k3⟩ := g6
    exact ⟨k, k1, by rw [← em]; exact k2, k3⟩
  · intro h
    have hl := steps_links l.length (Nat.le_refl _) h
    have hL : Links l := ⟨hl, fun j hj hjl => by
      rcases (h j hjl).known with e | ⟨i, y, h2, h3⟩
      · omega
      · exact ⟨i, y, by omega, h3⟩⟩
    refine ⟨h0, h1, hL, fun i hi => (h i hi).ends, fun i hi hq => ?_⟩
    obtain ⟨a, ha⟩ := (h i hi).asks hq
    have em : ∀ k, mayB l a k i = mayK l i a k i := fun k => by
      rw [hL.mayK a k hi]
      unfold mayK
      exact mayM_mono hl (by omega) a k i i (fun j hj => by
        rcases (h j (by omega)).known with e | ⟨i', y, h2, h3⟩
        · exact .inl e
        · exact .inr ⟨i', y, by omega, h3⟩) (h i hi).known
    refine ⟨a, ha.ag, ha.la, ha.ne, ha.rise, fun k hk hp => by rw [em]; exact ha.sub k hk hp, ?_⟩
    obtain ⟨k, k1, k2, k3⟩ := ha.more
    exact ⟨k, k1, by rw [em]; exact k2, k3⟩
end Go.Proofs.YtaljbebkooppiaaGreat.Sh

namespace Go.Proofs.YtaljbebkooppiaaGreat.Sh
open Go Go.RowKit
def b4 (a b c d : Bool) : Int := (if a then 1 else 0) + (if b then 2 else 0) + (if c then 4 else 0) + (if d then 8 else 0)
def bm (p : Nat → Bool) : Int := b4 (p 0) (p 1) (p 2) (p 3)
theorem bm_andNot (p q : Nat → Bool) : bitsOf .andNot .u8 (bm p) (bm q) = bm fun k => p k && !q k := by
  have h : ∀ a b c d a' b' c' d' : Bool, bitsOf .andNot .u8 (b4 a b c d) (b4 a' b' c' d') = b4 (a && !a') (b && !b') (c && !c') (d && !d') := by decide +kernel
  exact h _ _ _ _ _ _ _ _
theorem bm_eq (p q : Nat → Bool) : bm p = bm q ↔ ∀ k, k < 4 → p k = q k := by
  have h : ∀ a b c d a' b' c' d' : Bool, b4 a b c d = b4 a' b' c' d' ↔ a = a' ∧ b = b' ∧ c = c' ∧ d = d' := by decide +kernel
  unfold bm
  rw [h]
  constructor
  · rintro ⟨h0, h1, h2, h3⟩ k hk
    match k, hk with
    | 0, _ => exact h0
    | 1, _ => exact h1
    | 2, _ => exact h2
    | 3, _ => exact h3
  · intro h
    exact ⟨h 0 (by omega), h 1 (by omega), h 2 (by omega), h 3 (by omega)⟩
theorem bm_none : bm (fun _ => false) = 0 := rfl
theorem bm_zero (p : Nat → Bool) : bm p = 0 ↔ ∀ k, k < 4 → p k = false := by rw [← bm_none, bm_eq]
theorem bm_or (p : Nat → Bool) {k : Nat} (hk : k < 4) : bitsOf .or .u8 (bm p) (IntKind.u8.wrap (1 * 2 ^ (min k 8))) = bm fun j => p j || j == k := by
  have h : ∀ a b c d : Bool, ∀ k : Fin 4, bitsOf .or .u8 (b4 a b c d) (IntKind.u8.wrap (1 * 2 ^ (min k.val 8))) = b4 (a || 0 == k.val) (b || 1 == k.val) (c || 2 == k.val) (d || 3 == k.val) := by decide +kernel
  exact h _ _ _ _ ⟨k, hk⟩
theorem bm_bit (p : Nat → Bool) {k : Nat} (hk : k < 8) : bitsOf .and .u8 ((bm p).fdiv (2 ^ (min k 8))) 1 = if k < 4 ∧ p k = true then 1 else 0 := by
  have h : ∀ a b c d : Bool, ∀ k : Fin 8, bitsOf .and .u8 ((b4 a b c d).fdiv (2 ^ (min k.val 8))) 1 = if k.val < 4 ∧ (match k.val with | 0 => a | 1 => b | 2 => c | _ => d) = true then 1 else 0 := by decide +kernel
  have := h (p 0) (p 1) (p 2) (p 3) ⟨k, hk⟩
  unfold bm
  rw [this]
  simp only
  by_cases c : k < 4
  · match k, c with
    | 0, _ => rfl
    | 1, _ => rfl
    | 2, _ => rfl
    | 3, _ => rfl
  · rw [if_neg (fun hh => c hh.1), if_neg (fun hh => c hh.1)]
theorem bm_whole {n : Nat} (hn : n ≤ 4) : IntKind.u8.wrap (IntKind.u8.wrap (1 * 2 ^ (min n 8)) - 1) = bm fun k => decide (k < n) := by
  have h : ∀ n : Fin 5, IntKind.u8.wrap (IntKind.u8.wrap (1 * 2 ^ (min n.val 8)) - 1) = b4 (decide (0 < n.val)) (decide (1 < n.val)) (decide (2 < n.val)) (decide (3 < n.val)) := by decide +kernel
  exact h ⟨n, by omega⟩
theorem bm_congr {p q : Nat → Bool} (h : ∀ k, k < 4 → p k = q k) : bm p = bm q := (bm_eq p q).2 h
theorem bm_sub (p q : Nat → Bool) : bitsOf .andNot .u8 (bm p) (bm q) = 0 ↔ ∀ k, k < 4 → p k = true → q k = true := by
  rw [bm_andNot, bm_zero]
  exact ⟨fun h k hk hp => by have := h k hk; rw [hp] at this; simpa using this, fun h k hk => by
    cases hp : p k with
    | false => rfl
    | true => rw [h k hk hp]; rfl⟩
end Go.Proofs.YtaljbebkooppiaaGreat.Sh

