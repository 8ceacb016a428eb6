/- A part of the proof: R145, R146, R170, R158, R147, R148, R149, R167 -/
import Derived.Test.YtaljbebkooppiaaGreatV18
import Derived.Test.YtaljbebkooppiaaGreatV17
import Derived.Test.YtaljbebkooppiaaGreatV15
import Derived.Test.YtaljbebkooppiaaGreatV16
set_option linter.unusedSimpArgs false
set_option linter.unusedVariables false
set_option linter.unusedSectionVars false
namespace Go.Proofs.YtaljbebkooppiaaGreat.Sh
open Go Go.RowKit
def fromV (l : List Vn) (p : List Int) : Nat → Nat → Nat
  | 0, i => i
  | d + 1, i => if isEndV l i then i else fromV l p d (nextV l i (saidV p (agV l i)))
def endV (l : List Vn) (p : List Int) : Nat := fromV l p l.length 0
section
variable {g : Gm} {l : List Vn} (h : TreeOk g l)
include h
theorem TreeOk.from (p : List Int) : ∀ (d i : Nat), i < l.length → l.length - i ≤ d → fromV l p d i < l.length ∧ isEndV l (fromV l p d i) = true
  | 0, i, hi, hd => by omega
  | d + 1, i, hi, hd => by
    unfold fromV
    cases he : isEndV l i with
    | true => rw [if_pos rfl]; exact ⟨hi, he⟩
    | false =>
      rw [if_neg (by simp)]
      have := h.next hi he (saidV p (agV l i))
      exact TreeOk.from p d _ this.2 (by omega)
theorem TreeOk.fromMore (p : List Int) : ∀ (d i : Nat), i < l.length → l.length - i ≤ d → ∀ e, fromV l p (d + e) i = fromV l p d i
  | 0, i, hi, hd, e => by omega
  | d + 1, i, hi, hd, e => by
    rw [show d + 1 + e = (d + e) + 1 by omega]
    unfold fromV
    cases he : isEndV l i with
    | true => rfl
    | false =>
      simp only [Bool.false_eq_true, if_false]
      have := h.next hi he (saidV p (agV l i))
      exact TreeOk.fromMore p d _ this.2 (by omega) e
theorem TreeOk.fromWay (p : List Int) : ∀ t, fromV l p l.length (wayV l p t) = endV l p
  | 0 => rfl
  | t + 1 => by
    have ih := TreeOk.fromWay p t
    have hw := h.way p t
    unfold wayV
    cases he : isEndV l (wayV l p t) with
    | true => rw [if_pos rfl]; exact ih
    | false =>
      rw [if_neg (by simp)]
      rw [← ih]
      have hx := h.next hw he (saidV p (agV l (wayV l p t)))
      obtain ⟨d, hd⟩ : ∃ d, l.length = d + 1 := ⟨l.length - 1, by have := h.pos; omega⟩
      have e1 : fromV l p l.length (wayV l p t) = fromV l p d (nextV l (wayV l p t) (saidV p (agV l (wayV l p t)))) := by
        rw [hd, fromV, if_neg (by rw [he]; simp)]
      rw [e1]
      have := h.fromMore p d _ hx.2 (by omega) 1
      rw [← hd] at this
      exact this
theorem TreeOk.endWay (p : List Int) {T : Nat} (ht : isEndV l (wayV l p T) = true) : wayV l p T = endV l p := by
  have := h.fromWay p T
  rw [← this]
  obtain ⟨d, hd⟩ : ∃ d, l.length = d + 1 := ⟨l.length - 1, by have := h.pos; omega⟩
  rw [hd, fromV, if_pos ht]
theorem TreeOk.fromBelow (p : List Int) (a : Nat) (tru : Option Nat) (hk : ∀ k, tru = some k → saidV p a = k) : ∀ (d i : Nat), i < l.length → l.length - i ≤ d → fromV l p d i ∈ belowV l a tru i
  | 0, i, hi, hd => by omega
  | d + 1, i, hi, hd => by
    rw [h.below a tru hi]
    unfold fromV
    cases he : isEndV l i with
    | true => simp
    | false =>
      obtain ⟨y, n, e1, e2, e3, e4, e5, e6, -⟩ := h.kids hi he
      have hx := h.next hi he (saidV p (agV l i))
      have ih := TreeOk.fromBelow p a tru hk d _ hx.2 (by omega)
      simp only [Bool.false_eq_true, if_false]
      have both : fromV l p d (nextV l i (saidV p (agV l i))) ∈ belowV l a tru (vnAt l i).yes.toNat ++ belowV l a tru (vnAt l i).no.toNat := by
        have e : nextV l i (saidV p (agV l i)) = (vnAt l i).yes.toNat ∨ nextV l i (saidV p (agV l i)) = (vnAt l i).no.toNat := by
          unfold nextV; split <;> simp
        rcases e with e | e
        · exact List.mem_append_left _ (by rw [← e]; exact ih)
        · exact List.mem_append_right _ (by rw [← e]; exact ih)
      cases tru with
      | none => exact both
      | some k =>
        simp only
        by_cases c : agV l i = a
        · rw [if_pos c]
          have := hk k rfl
          rw [c, this] at ih ⊢
          exact ih
        · rw [if_neg c]; exact both
theorem TreeOk.upNext {i : Nat} (hi : i < l.length) (he : isEndV l i = false) (k : Nat) : IsUp l i (hasK (vnAt l i).part k) (nextV l i k) := by
  have hq : (vnAt l i).agent ≠ -1 := by unfold isEndV at he; simpa using he
  obtain ⟨y, n, e1, e2, -⟩ := h.kids hi he
  refine ⟨hq, ?_⟩
  unfold nextV
  cases hasK (vnAt l i).part k
  · simp [e2]
  · simp [e1]
theorem TreeOk.mayNext {i : Nat} (hi : i < l.length) (he : isEndV l i = false) (p : List Int) (a : Nat) (hm : mayB l a (saidV p a) i = true) : mayB l a (saidV p a) (nextV l i (saidV p (agV l i))) = true := by
  have hu := h.upNext hi he (saidV p (agV l i))
  rw [h.links.mayUp a (saidV p a) hi hu, hm, Bool.and_true]
  obtain ⟨-, e1, -⟩ := h.ask hi he
  split
  · next c =>
    rw [e1] at c
    have : agV l i = a := by omega
    rw [this]; simp
  · rfl
def NoDoubt (g : Gm) (l : List Vn) : Prop := ∀ i, i < l.length → ∀ k, ¬ DoubtAt g l i k
theorem TreeOk.obvious (hn : NoDoubt g l) (p p' : List Int) (a : Nat) (hk : saidV p a < klA g a) (hs : ∀ b, b ≠ a → saidV p' b = saidV p b) : ∀ (d i : Nat), i < l.length → l.length - i ≤ d → mayB l a (saidV p a) i = true →
    useV g l a (saidV p a) (fromV l p' d i) ≤ useV g l a (saidV p a) (fromV l p d i)
  | 0, i, hi, hd, _ => by omega
  | d + 1, i, hi, hd, hm => by
    unfold fromV
    cases he : isEndV l i with
    | true => simp only [if_true]; exact Rat.le_refl
    | false =>
      simp only [Bool.false_eq_true, if_false]
      have hx := h.next hi he (saidV p (agV l i))
      have hx' := h.next hi he (saidV p' (agV l i))
      by_cases c : nextV l i (saidV p' (agV l i)) = nextV l i (saidV p (agV l i))
      · rw [c]
        exact TreeOk.obvious hn p p' a hk hs d _ hx.2 (by omega) (h.mayNext hi he p a hm)
      · have ha : agV l i = a := Classical.byContradiction fun hne => c (by rw [hs _ hne])
        have hot : nextV l i (saidV p' (agV l i)) = otherV l i (saidV p (agV l i)) := by
          unfold nextV otherV at *
          revert c
          cases hasK (vnAt l i).part (saidV p (agV l i)) <;> cases hasK (vnAt l i).part (saidV p' (agV l i)) <;> simp
        have m1 := h.fromBelow p a (some (saidV p a)) (fun k e => by cases e; rfl) d _ hx.2 (by omega)
        have m2 := h.fromBelow p' a none (fun k e => by cases e) d _ hx'.2 (by omega)
        rw [hot] at m2 ⊢
        rw [ha] at m1 m2 ⊢
        have w1 := (lo_mem (useV g l a (saidV p a)) (List.ne_nil_of_mem m1)).2 _ m1
        have w2 := (hi_mem (useV g l a (saidV p a)) (List.ne_nil_of_mem m2)).2 _ m2
        have hnd := hn i hi (saidV p a)
        have hle : mostV g l a (saidV p a) (otherV l i (saidV p a)) ≤ worstV g l a (saidV p a) (nextV l i (saidV p a)) := by
          refine Rat.not_lt.1 fun hlt => hnd ⟨he, by rw [ha]; exact hk, by rw [ha]; exact hm, ?_⟩
          rw [ha]; exact hlt
        unfold mostV worstV at hle
        grind
theorem TreeOk.truthful (hn : NoDoubt g l) (p p' : List Int) (a : Nat) (hk : saidV p a < klA g a) (hs : ∀ b, b ≠ a → saidV p' b = saidV p b) : useV g l a (saidV p a) (endV l p') ≤ useV g l a (saidV p a) (endV l p) :=
  h.obvious hn p p' a hk hs l.length 0 h.pos (by omega) (h.links.mayRoot a _)
end
end Go.Proofs.YtaljbebkooppiaaGreat.Sh

namespace Go.Proofs.YtaljbebkooppiaaGreat.Sh
open Go Go.RowKit
abbrev CellB := Nat → Nat → Bool
def InCell (g : Gm) (C : CellB) (p : List Int) : Prop := ∀ a, a < g.agents.length → C a (saidV p a) = true
def CellOk (g : Gm) (C : CellB) : Prop := ∀ a, a < g.agents.length → (∃ k, k < klA g a ∧ C a k = true) ∧ ∀ k, C a k = true → k < klA g a
structure SplitOk (g : Gm) (u : Nat → Nat → List Int → Rat) (C : CellB) (a : Nat) (P : Nat → Bool) : Prop where
  la : a < g.agents.length
  yes : ∃ k, C a k = true ∧ P k = true
  no : ∃ k, C a k = true ∧ P k = false
  ok : ∀ k, C a k = true → ∀ p q, isProf g p → isProf g q → InCell g C p → InCell g C q → saidV p a = k → P (saidV q a) ≠ P k → u a k q ≤ u a k p
section
variable {g : Gm} {l : List Vn} (h : TreeOk g l)
include h
def Passed (g : Gm) (l : List Vn) (C : CellB) (i : Nat) : Prop := (∀ p, InCell g C p → fromV l p l.length i = endV l p) ∧ ∀ a k, a < g.agents.length → C a k = true → mayB l a k i = true
theorem TreeOk.fromStep (p : List Int) {i : Nat} (hi : i < l.length) (he : isEndV l i = false) : fromV l p l.length i = fromV l p l.length (nextV l i (saidV p (agV l i))) := by
  have hx := h.next hi he (saidV p (agV l i))
  obtain ⟨d, hd⟩ : ∃ d, l.length = d + 1 := ⟨l.length - 1, by omega⟩
  have e1 : fromV l p l.length i = fromV l p d (nextV l i (saidV p (agV l i))) := by rw [hd, fromV, if_neg (by rw [he]; simp)]
  rw [e1]
  have := h.fromMore p d _ hx.2 (by omega) 1
  rw [← hd] at this
  exact this.symm
theorem TreeOk.mayStep {i : Nat} (hi : i < l.length) (he : isEndV l i = false) (b : Bool) {C : CellB} (hm : ∀ a k, a < g.agents.length → C a k = true → mayB l a k i = true) (hb : ∀ k, C (agV l i) k = true → hasK (vnAt l i).part k = b) : ∀ a k, a < g.agents.length → C a k = true → mayB l a k (if b then (vnAt l i).yes.toNat else (vnAt l i).no.toNat) = true := by
  intro a k ha hk
  have hq : (vnAt l i).agent ≠ -1 := by unfold isEndV at he; simpa using he
  obtain ⟨y, n, e1, e2, -⟩ := h.kids hi he
  have hu : IsUp l i b (if b then (vnAt l i).yes.toNat else (vnAt l i).no.toNat) := ⟨hq, by cases b <;> simp [e1, e2]⟩
  rw [h.links.mayUp a k hi hu, hm a k ha hk, Bool.and_true]
  obtain ⟨-, e3, -⟩ := h.ask hi he
  split
  · next c =>
    rw [e3] at c
    have e : agV l i = a := by omega
    rw [hb k (by rw [e]; exact hk)]; simp
  · rfl
theorem TreeOk.split (hn : NoDoubt g l) {C : CellB} (hC : CellOk g C) : ∀ (d i : Nat), i < l.length → l.length - i ≤ d → Passed g l C i →
    (∃ e, ∀ p, InCell g C p → endV l p = e) ∨ ∃ a P, SplitOk g (fun a k p => useV g l a k (endV l p)) C a P
  | 0, i, hi, hd, _ => by omega
  | d + 1, i, hi, hd, hp => by
    obtain ⟨hp1, hp2⟩ := hp
    cases he : isEndV l i with
    | true =>
      refine .inl ⟨i, fun p hC => ?_⟩
      rw [← hp1 p hC]
      obtain ⟨d, hd⟩ : ∃ d, l.length = d + 1 := ⟨l.length - 1, by omega⟩
      rw [hd, fromV, if_pos he]
    | false =>
      obtain ⟨-, e1, e2⟩ := h.ask hi he
      obtain ⟨y, n, k1, k2, k3, k4, k5, k6, -⟩ := h.kids hi he
      have go : ∀ b : Bool, (∀ k, C (agV l i) k = true → hasK (vnAt l i).part k = b) → (∃ e, ∀ p, InCell g C p → endV l p = e) ∨ ∃ a P, SplitOk g (fun a k p => useV g l a k (endV l p)) C a P := fun b hb => by
        have hm := h.mayStep hi he b hp2 hb
        have hj : (if b then (vnAt l i).yes.toNat else (vnAt l i).no.toNat) < l.length ∧ i < (if b then (vnAt l i).yes.toNat else (vnAt l i).no.toNat) := by
          rw [k1, k2, Int.toNat_natCast, Int.toNat_natCast]; cases b <;> simp <;> omega
        refine TreeOk.split hn hC d _ hj.1 (by omega) ⟨fun p hpc => ?_, hm⟩
        rw [← hp1 p hpc, h.fromStep p hi he]
        congr 1
        unfold nextV
        rw [hb _ (hpc _ e2)]
      by_cases c1 : ∃ k, C (agV l i) k = true ∧ hasK (vnAt l i).part k = true
      · by_cases c2 : ∃ k, C (agV l i) k = true ∧ hasK (vnAt l i).part k = false
        · refine .inr ⟨agV l i, hasK (vnAt l i).part, e2, c1, c2, fun k hk p q _ _ hpc hqc hsp hsq => ?_⟩
          have hkl := (hC _ e2).2 k hk
          have hmk := hp2 _ k e2 hk
          have f1 : fromV l p l.length (nextV l i k) = endV l p := by rw [← hp1 p hpc, h.fromStep p hi he, hsp]
          have f2 : fromV l q l.length (otherV l i k) = endV l q := by
            rw [← hp1 q hqc, h.fromStep q hi he]
            congr 1
            unfold nextV otherV
            revert hsq
            cases hasK (vnAt l i).part k <;> cases hasK (vnAt l i).part (saidV q (agV l i)) <;> simp
          have hx := h.next hi he k
          have ho : otherV l i k < l.length := by
            unfold otherV; rw [k1, k2, Int.toNat_natCast, Int.toNat_natCast]; split <;> omega
          have m1 := h.fromBelow p (agV l i) (some k) (fun k' e => by cases e; exact hsp) l.length _ hx.2 (by omega)
          have m2 := h.fromBelow q (agV l i) none (fun k' e => by cases e) l.length _ ho (by omega)
          rw [f1] at m1
          rw [f2] at m2
          have w1 := (lo_mem (useV g l (agV l i) k) (List.ne_nil_of_mem m1)).2 _ m1
          have w2 := (hi_mem (useV g l (agV l i) k) (List.ne_nil_of_mem m2)).2 _ m2
          have hle : mostV g l (agV l i) k (otherV l i k) ≤ worstV g l (agV l i) k (nextV l i k) := Rat.not_lt.1 fun hlt => hn i hi k ⟨he, hkl, hmk, hlt⟩
          unfold mostV worstV at hle
          show useV g l (agV l i) k (endV l q) ≤ useV g l (agV l i) k (endV l p)
          grind
        · exact go true fun k hk => by
            cases e : hasK (vnAt l i).part k with
            | true => rfl
            | false => exact absurd ⟨k, hk, e⟩ c2
      · exact go false fun k hk => by
          cases e : hasK (vnAt l i).part k with
          | false => rfl
          | true => exact absurd ⟨k, hk, e⟩ c1
theorem TreeOk.cells (hn : NoDoubt g l) {C : CellB} (hC : CellOk g C) : (∃ e, ∀ p, InCell g C p → endV l p = e) ∨ ∃ a P, SplitOk g (fun a k p => useV g l a k (endV l p)) C a P :=
  h.split hn hC l.length 0 h.pos (by omega) ⟨fun p _ => rfl, fun a k _ _ => h.links.mayRoot a k⟩
end
end Go.Proofs.YtaljbebkooppiaaGreat.Sh

namespace Go.Proofs.YtaljbebkooppiaaGreat.Sh
open Go Go.RowKit
structure Cn where
  ask : Bool
  who : Nat
  val : Nat
  yes : Nat
  no : Nat
deriving DecidableEq
def lastAt (last : List Int) (i : Nat) : Int := (last[i]?).getD (-1)
def insC (n : Nat) (last : List Int) : List Nat := (List.range n).filter fun i => decide (0 ≤ lastAt last i)
def firstC (n : Nat) (last : List Int) : Nat := (insC n last).headD 0
def nextC (m n : Nat) (last : List Int) : Nat → Nat → Nat → Option (Nat × Nat)
  | 0, _, _ => none
  | f + 1, v, w => if v < m then (match w with
      | 0 => nextC m n last f (v + 1) n
      | w + 1 => if 0 ≤ lastAt last w then some (v, w) else nextC m n last f v w)
    else none
def todoC (m n v w : Nat) : Nat := (m - v) * (n + 1) + w
def clkC (m n : Nat) : Nat → Nat → Nat → List Int → Nat → List Cn
  | 0, _, _, _, _ => []
  | f + 1, v, w, last, b =>
    if (insC n last).length ≤ 1 then [⟨false, firstC n last, (lastAt last (firstC n last)).toNat, 0, 0⟩]
    else match nextC m n last (todoC m n v w + 1) v w with
      | none => [⟨false, firstC n last, m - 1, 0, 0⟩]
      | some (v', w') =>
        let ys := clkC m n f v' w' (last.set w' (v' : Int)) (b + 1)
        let ns := clkC m n f v' w' (last.set w' (-1)) (b + 1 + ys.length)
        ⟨true, w', v', b + 1, b + 1 + ys.length⟩ :: (ys ++ ns)
def last0 (n : Nat) : List Int := (List.range 3).map fun i => if i < n then 0 else -1
def treeC (m n : Nat) : List Cn := clkC m n 24 1 n (last0 n) 0
def vnC (m n : Nat) (pr : Nat → Nat → List FR) (x : Cn) : Vn :=
  if x.ask then ⟨(x.who : Int), ((List.range m).drop x.val).map fun k : Nat => (k : Int), (x.yes : Int), (x.no : Int), 0, []⟩ else ⟨-1, [], 0, 0, ((x.who : Int) + 1), pr x.who x.val⟩
/-! ### Closed checks -/
structure ClockGm (g : Gm) (m n : Nat) : Prop where
  ag : g.agents.length = n
  kd : ∀ a, a < n → klA g a = m
  ou : g.outs.length = n + 1
  pay : g.pay = true
def okL (l : List Vn) : Bool :=
  (List.range l.length).all (fun i => (vnAt l i).agent == -1 || (decide ((i : Int) < (vnAt l i).yes) && decide ((vnAt l i).yes < (l.length : Int)) && decide ((i : Int) < (vnAt l i).no) && decide ((vnAt l i).no < (l.length : Int)) && decide ((vnAt l i).yes ≠ (vnAt l i).no) && (upTo l (vnAt l i).yes.toNat i).isNone && (upTo l (vnAt l i).no.toNat i).isNone)) &&
  (List.range l.length).all (fun j => j == 0 || (upTo l j l.length).isSome)
def okQ (m n : Nat) (l : List Vn) : Bool :=
  (List.range l.length).all (fun i => if (vnAt l i).agent = -1 then decide (0 ≤ (vnAt l i).out) && decide ((vnAt l i).out < ((n + 1 : Nat) : Int)) && decide ((vnAt l i).pay.length = n) else
    decide (0 ≤ (vnAt l i).agent) && decide ((vnAt l i).agent < (n : Int)) && !(vnAt l i).part.isEmpty && decide (RiseB m (vnAt l i).part) &&
    (List.range m).all (fun k => !hasK (vnAt l i).part k || mayB l (vnAt l i).agent.toNat k i) && (List.range m).any (fun k => mayB l (vnAt l i).agent.toNat k i && !hasK (vnAt l i).part k))
where RiseB (m : Nat) (l : List Int) : Bool := (List.range l.length).all fun i => decide (0 ≤ l.getD i 0) && decide (l.getD i 0 < (m : Int)) && (i == 0 || decide (l.getD (i - 1) 0 < l.getD i 0))
end Go.Proofs.YtaljbebkooppiaaGreat.Sh

namespace Go.Proofs.YtaljbebkooppiaaGreat.Sh
open Go Go.RowKit
@[simp] def rowU (x : Int) : List S1 := [.int .u32 x]
instance : RowF 1 rowU := ⟨fun _ => rfl, fun x s h => by simp at h; subst h; rfl⟩
set_option maxRecDepth 20000 in
theorem cwords_s (l : List Int) (hl : l.length * 4 ≤ 140737488355328) : CallsS Tryz.prog 110 [.one (wS (l))] (.v (.one (wS (l)))) := by
  refine calls Tryz.func110 rfl (by rfl) (by rfl) (by kernel_rfl) ?_
  simp -dsimp -implicitDefEqProofs [Tryz.f110]
  refine sw_loop_e (fun q : {q : Nat × Nat // q.1 ≤ l.length} => SS.of [(0, .v (.one (wS (l)))), (3, if q.1.1 = 0 then .v (.one .nils) else .v (.one (.ms (q.1.2 + 1) 0 q.1.1 1 true))), (4, I .i64 q.1.1)] (if q.1.1 = 0 then [] else [(q.1.2 + 1, ⟨196, flat rowU (l.take q.1.1)⟩)]) (q.1.2 + 2))
    (fun q => l.length - q.1.1) ⟨(0, 0), Nat.zero_le _⟩ (by kernel_rfl) (Le.to (by simp) (by simp) (by simp)) ?_
  rintro ⟨⟨i, c⟩, hi⟩
  simp only at hi
  by_cases a1 : i < l.length
  · have wi : IntKind.i64.wrap ((i : Int) + 1) = ((i + 1 : Nat) : Int) := by rw [wrap_i64 _ (by omega) (by omega)]; rfl
    have hfl := flat_snoc (f := rowU) l[i] (l.take i)
    rw [← takeSnoc l i a1] at hfl
    by_cases i0 : i = 0
    · have hif : ∀ {α : Type} (x y : α), (if i = 0 then x else y) = x := fun x y => if_pos i0
      have hf0 : flat rowU (l.take i) = [] := by rw [i0]; rfl
      rw [hf0, List.nil_append] at hfl
      simp -dsimp -implicitDefEqProofs [a1, hif, slots]
      exact Again.by ⟨(i + 1, c + 2), a1⟩ (Le.to (by simp [wi, i0, i64_1]) (by simp [hfl]) (by simp)) (by simp; omega)
    · have hif : ∀ {α : Type} (x y : α), (if i = 0 then x else y) = y := fun x y => if_neg i0
      have htl : min i l.length = i := by omega
      simp -dsimp -implicitDefEqProofs [a1, hif, slots, htl]
      refine ⟨by omega, ?_⟩
      exact Again.by ⟨(i + 1, c + 2), a1⟩ (Le.to (by simp [wi]) (by simp [hfl]) (by simp)) (by simp; omega)
  have hi2 : i = l.length := by omega
  subst hi2
  by_cases i0 : l.length = 0
  · obtain rfl : l = [] := List.length_eq_zero_iff.1 i0
    simp -dsimp -implicitDefEqProofs
  · have hif : ∀ {α : Type} (x y : α), (if l.length = 0 then x else y) = y := fun x y => if_neg i0
    have hne : ¬ l = [] := fun e => i0 (by rw [e]; rfl)
    simp -dsimp -implicitDefEqProofs [hif, hne]
set_option maxRecDepth 20000 in
theorem cints_s (l : List Int) (hl : l.length * 8 ≤ 140737488355328) : CallsS Tryz.prog 27 [.one (intsS (l))] (.v (.one (intsS (l)))) := by
  refine calls Tryz.func27 rfl (by rfl) (by rfl) (by kernel_rfl) ?_
  simp -dsimp -implicitDefEqProofs [Tryz.f27]
  refine sw_loop_e (fun q : {q : Nat × Nat // q.1 ≤ l.length} => SS.of [(0, .v (.one (intsS (l)))), (3, if q.1.1 = 0 then .v (.one .nils) else .v (.one (.ms (q.1.2 + 1) 0 q.1.1 1 true))), (4, I .i64 q.1.1)] (if q.1.1 = 0 then [] else [(q.1.2 + 1, ⟨3, flat rowInt (l.take q.1.1)⟩)]) (q.1.2 + 2))
    (fun q => l.length - q.1.1) ⟨(0, 0), Nat.zero_le _⟩ (by kernel_rfl) (Le.to (by simp) (by simp) (by simp)) ?_
  rintro ⟨⟨i, c⟩, hi⟩
  simp only at hi
  by_cases a1 : i < l.length
  · have wi : IntKind.i64.wrap ((i : Int) + 1) = ((i + 1 : Nat) : Int) := by rw [wrap_i64 _ (by omega) (by omega)]; rfl
    have hfl := flat_snoc (f := rowInt) l[i] (l.take i)
    rw [← takeSnoc l i a1] at hfl
    by_cases i0 : i = 0
    · have hif : ∀ {α : Type} (x y : α), (if i = 0 then x else y) = x := fun x y => if_pos i0
      have hf0 : flat rowInt (l.take i) = [] := by rw [i0]; rfl
      rw [hf0, List.nil_append] at hfl
      simp -dsimp -implicitDefEqProofs [a1, hif, slots]
      exact Again.by ⟨(i + 1, c + 2), a1⟩ (Le.to (by simp [wi, i0, i64_1]) (by simp [hfl]) (by simp)) (by simp; omega)
    · have hif : ∀ {α : Type} (x y : α), (if i = 0 then x else y) = y := fun x y => if_neg i0
      have htl : min i l.length = i := by omega
      simp -dsimp -implicitDefEqProofs [a1, hif, slots, htl]
      refine ⟨by omega, ?_⟩
      exact Again.by ⟨(i + 1, c + 2), a1⟩ (Le.to (by simp [wi]) (by simp [hfl]) (by simp)) (by simp; omega)
  have hi2 : i = l.length := by omega
  subst hi2
  by_cases i0 : l.length = 0
  · obtain rfl : l = [] := List.length_eq_zero_iff.1 i0
    simp -dsimp -implicitDefEqProofs
  · have hif : ∀ {α : Type} (x y : α), (if l.length = 0 then x else y) = y := fun x y => if_neg i0
    have hne : ¬ l = [] := fun e => i0 (by rw [e]; rfl)
    simp -dsimp -implicitDefEqProofs [hif, hne]
set_option maxRecDepth 20000 in
theorem cnames_s (l : List ByteArray) (hl : l.length * 16 ≤ 140737488355328) (hs : ∀ s ∈ l, s.size ≤ 140737488355328) : CallsS Tryz.prog 76 [.one (strsS (l))] (.v (.one (strsS (l)))) := by
  refine calls Tryz.func76 rfl (by rfl) (by rfl) (by kernel_rfl) ?_
  simp -dsimp -implicitDefEqProofs [Tryz.f76]
  refine sw_loop_e (fun q : {q : Nat × Nat // q.1 ≤ l.length} => SS.of [(0, .v (.one (strsS (l)))), (3, if q.1.1 = 0 then .v (.one .nils) else .v (.one (.ms (q.1.2 + 1) 0 q.1.1 1 true))), (4, I .i64 q.1.1)] (if q.1.1 = 0 then [] else [(q.1.2 + 1, ⟨9, flat rowStr (l.take q.1.1)⟩)]) (q.1.2 + 2))
    (fun q => l.length - q.1.1) ⟨(0, 0), Nat.zero_le _⟩ (by kernel_rfl) (Le.to (by simp) (by simp) (by simp)) ?_
  rintro ⟨⟨i, c⟩, hi⟩
  simp only at hi
  by_cases a1 : i < l.length
  · have wi : IntKind.i64.wrap ((i : Int) + 1) = ((i + 1 : Nat) : Int) := by rw [wrap_i64 _ (by omega) (by omega)]; rfl
    have hfl := flat_snoc (f := rowStr) l[i] (l.take i)
    rw [← takeSnoc l i a1] at hfl
    by_cases i0 : i = 0
    · have hif : ∀ {α : Type} (x y : α), (if i = 0 then x else y) = x := fun x y => if_pos i0
      have hf0 : flat rowStr (l.take i) = [] := by rw [i0]; rfl
      rw [hf0, List.nil_append] at hfl
      simp -dsimp -implicitDefEqProofs [a1, hif, slots]
      exact Again.by ⟨(i + 1, c + 2), a1⟩ (Le.to (by simp [wi, i0, i64_1]) (by simp [hfl]) (by simp)) (by simp; omega)
    · have hif : ∀ {α : Type} (x y : α), (if i = 0 then x else y) = y := fun x y => if_neg i0
      have htl : min i l.length = i := by omega
      simp -dsimp -implicitDefEqProofs [a1, hif, slots, htl]
      refine ⟨by omega, ?_⟩
      exact Again.by ⟨(i + 1, c + 2), a1⟩ (Le.to (by simp [wi]) (by simp [hfl]) (by simp)) (by simp; omega)
  have hi2 : i = l.length := by omega
  subst hi2
  by_cases i0 : l.length = 0
  · obtain rfl : l = [] := List.length_eq_zero_iff.1 i0
    simp -dsimp -implicitDefEqProofs
  · have hif : ∀ {α : Type} (x y : α), (if l.length = 0 then x else y) = y := fun x y => if_neg i0
    have hne : ¬ l = [] := fun e => i0 (by rw [e]; rfl)
    simp -dsimp -implicitDefEqProofs [hif, hne]
def FR.cop (f : FR) : Prop := f.num.length * 4 ≤ 140737488355328 ∧ f.den.length * 4 ≤ 140737488355328
set_option maxRecDepth 20000 in
theorem cfrac_s (f : FR) (h : f.cop) : CallsS Tryz.prog 45 [frS f] (.v (frS f)) := by
  refine calls Tryz.func45 rfl (by rfl) (by rfl) (by kernel_rfl) ?_
  simp -dsimp -implicitDefEqProofs [Tryz.f45]
  refine eCall.of (cwords_s f.num h.1) (by simp) ?_
  simp -dsimp -implicitDefEqProofs
  refine eCall.of (cwords_s f.den h.2) (by simp) ?_
  simp -dsimp -implicitDefEqProofs
set_option maxRecDepth 20000 in
theorem cfracs_s (l : List FR) (hl : l.length * 56 ≤ 140737488355328) (hc : ∀ f ∈ l, f.cop) : CallsS Tryz.prog 9 [.one (frsS (l))] (.v (.one (frsS (l)))) := by
  refine calls Tryz.func9 rfl (by rfl) (by rfl) (by kernel_rfl) ?_
  simp -dsimp -implicitDefEqProofs [Tryz.f9]
  refine sw_loop_e (fun q : {q : Nat × Nat // q.1 ≤ l.length} => SS.of [(0, .v (.one (frsS (l)))), (3, if q.1.1 = 0 then .v (.one .nils) else .v (.one (.ms (q.1.2 + 1) 0 q.1.1 3 true))), (4, I .i64 q.1.1)] (if q.1.1 = 0 then [] else [(q.1.2 + 1, ⟨26, flat rowFr (l.take q.1.1)⟩)]) (q.1.2 + 2))
    (fun q => l.length - q.1.1) ⟨(0, 0), Nat.zero_le _⟩ (by kernel_rfl) (Le.to (by simp) (by simp) (by simp)) ?_
  rintro ⟨⟨i, c⟩, hi⟩
  simp only at hi
  by_cases a1 : i < l.length
  · have wi : IntKind.i64.wrap ((i : Int) + 1) = ((i + 1 : Nat) : Int) := by rw [wrap_i64 _ (by omega) (by omega)]; rfl
    have hfl := flat_snoc (f := rowFr) l[i] (l.take i)
    rw [← takeSnoc l i a1] at hfl
    by_cases i0 : i = 0
    · have hif : ∀ {α : Type} (x y : α), (if i = 0 then x else y) = x := fun x y => if_pos i0
      have hf0 : flat rowFr (l.take i) = [] := by rw [i0]; rfl
      rw [hf0, List.nil_append] at hfl
      simp -dsimp -implicitDefEqProofs [a1, hif, slots]
      refine eCall.of (cfrac_s l[i] (hc _ (List.getElem_mem a1))) (by simp) ?_
      simp -dsimp -implicitDefEqProofs [hif, slots]
      exact Again.by ⟨(i + 1, c + 2), a1⟩ (Le.to (by simp [wi, i0, i64_1]) (by simp [hfl]) (by simp)) (by simp; omega)
    · have hif : ∀ {α : Type} (x y : α), (if i = 0 then x else y) = y := fun x y => if_neg i0
      have htl : min i l.length = i := by omega
      simp -dsimp -implicitDefEqProofs [a1, hif, slots, htl]
      refine eCall.of (cfrac_s l[i] (hc _ (List.getElem_mem a1))) (by simp) ?_
      simp -dsimp -implicitDefEqProofs [hif, slots, htl]
      refine ⟨by omega, ?_⟩
      exact Again.by ⟨(i + 1, c + 2), a1⟩ (Le.to (by simp [wi]) (by simp [hfl]) (by simp)) (by simp; omega)
  have hi2 : i = l.length := by omega
  subst hi2
  by_cases i0 : l.length = 0
  · obtain rfl : l = [] := List.length_eq_zero_iff.1 i0
    simp -dsimp -implicitDefEqProofs
  · have hif : ∀ {α : Type} (x y : α), (if l.length = 0 then x else y) = y := fun x y => if_neg i0
    have hne : ¬ l = [] := fun e => i0 (by rw [e]; rfl)
    simp -dsimp -implicitDefEqProofs [hif, hne]
def fxR (f : FR) : FR := frQ f.fix
set_option maxRecDepth 20000 in
theorem rfixed8_s (l : List FR) (hl : l.length * 56 ≤ 140737488355328) (hc : ∀ f ∈ l, f.ok) : CallsS Tryz.prog 84 [.one (frsS (l))] (.v (.one (frsS ((l.map fxR))))) := by
  refine calls Tryz.func84 rfl (by rfl) (by rfl) (by kernel_rfl) ?_
  simp -dsimp -implicitDefEqProofs [Tryz.f84]
  refine sw_loop_e (fun q : {q : Nat × Nat // q.1 ≤ l.length} => SS.of [(0, .v (.one (frsS (l)))), (3, if q.1.1 = 0 then .v (.one .nils) else .v (.one (.ms (q.1.2 + 1) 0 q.1.1 3 true))), (4, I .i64 q.1.1)] (if q.1.1 = 0 then [] else [(q.1.2 + 1, ⟨26, flat rowFr ((l.map fxR).take q.1.1)⟩)]) (q.1.2 + 2))
    (fun q => l.length - q.1.1) ⟨(0, 0), Nat.zero_le _⟩ (by kernel_rfl) (Le.to (by simp) (by simp) (by simp)) ?_
  rintro ⟨⟨i, c⟩, hi⟩
  simp only at hi
  by_cases a1 : i < l.length
  · have wi : IntKind.i64.wrap ((i : Int) + 1) = ((i + 1 : Nat) : Int) := by rw [wrap_i64 _ (by omega) (by omega)]; rfl
    have hfl := flat_snoc (f := rowFr) (fxR l[i]) ((l.map fxR).take i)
    rw [show ((l.map fxR).take i) ++ [fxR l[i]] = (l.map fxR).take (i + 1) by rw [takeSnoc (l.map fxR) i (by simpa using a1), List.getElem_map]] at hfl
    by_cases i0 : i = 0
    · have hif : ∀ {α : Type} (x y : α), (if i = 0 then x else y) = x := fun x y => if_pos i0
      have hf0 : flat rowFr ((l.map fxR).take i) = [] := by rw [i0]; rfl
      rw [hf0, List.nil_append] at hfl
      simp -dsimp -implicitDefEqProofs [a1, hif, slots]
      refine eCall.of (fixR_s l[i] (hc _ (List.getElem_mem a1))) (by simp) ?_
      simp -dsimp -implicitDefEqProofs [hif, slots]
      exact Again.by ⟨(i + 1, c + 2), a1⟩ (Le.to (by simp [wi, i0, i64_1]) (by simp [hfl, fxR, frQ, ng]) (by simp)) (by simp; omega)
    · have hif : ∀ {α : Type} (x y : α), (if i = 0 then x else y) = y := fun x y => if_neg i0
      have htl : min i l.length = i := by omega
      simp -dsimp -implicitDefEqProofs [a1, hif, slots, htl]
      refine eCall.of (fixR_s l[i] (hc _ (List.getElem_mem a1))) (by simp) ?_
      simp -dsimp -implicitDefEqProofs [hif, slots, htl]
      refine ⟨by omega, ?_⟩
      exact Again.by ⟨(i + 1, c + 2), a1⟩ (Le.to (by simp [wi]) (by simp [hfl, fxR, frQ, ng]) (by simp)) (by simp; omega)
  have hi2 : i = l.length := by omega
  subst hi2
  by_cases i0 : l.length = 0
  · obtain rfl : l = [] := List.length_eq_zero_iff.1 i0
    simp -dsimp -implicitDefEqProofs
  · have hif : ∀ {α : Type} (x y : α), (if l.length = 0 then x else y) = y := fun x y => if_neg i0
    have hne : ¬ l = [] := fun e => i0 (by rw [e]; rfl)
    have htk : List.take l.length (List.map (rowFr ∘ fxR) l) = List.map (rowFr ∘ fxR) l := List.take_of_length_le (by simp)
    simp -dsimp -implicitDefEqProofs [hif, hne, htk]
end Go.Proofs.YtaljbebkooppiaaGreat.Sh

namespace Go.Proofs.YtaljbebkooppiaaGreat.Sh
open Go Go.RowKit
theorem hasK_snoc (l : List Int) (x : Int) (k : Nat) : hasK (l ++ [x]) k = (hasK l k || decide (x = (k : Int))) := by
  unfold hasK
  by_cases c : (k : Int) ∈ l
  · simp [c]
  · by_cases c2 : x = (k : Int)
    · simp [c2]
    · have c3 : ¬ (k : Int) = x := fun e => c2 e.symm
      simp [c, c2, c3]
set_option maxRecDepth 20000 in
theorem vhas_s (l : List Int) (k : Nat) (hl : l.length ≤ 1048576) : CallsS Tryz.prog 120 [.one (intsS l), .one (.int .i64 (k : Int))] (B (hasK l k)) := by
  refine calls Tryz.func120 rfl (by rfl) (by rfl) (by kernel_rfl) ?_
  simp -dsimp -implicitDefEqProofs [Tryz.f120]
  refine sw_loop_e (fun q : {q : Nat // q ≤ l.length ∧ hasK (l.take q) k = false} => SS.of [(1, I .i64 k), (7, .v (.one (intsS l))), (8, I .i64 l.length), (9, I .i64 q.1)] [] 0)
    (fun q => l.length - q.1) ⟨0, Nat.zero_le _, by simp [hasK]⟩ (by kernel_rfl) (Le.to (by simp) (by simp) (by simp)) ?_
  rintro ⟨i, hi, hq⟩
  by_cases a1 : i < l.length
  · have wi : IntKind.i64.wrap ((i : Int) + 1) = ((i + 1 : Nat) : Int) := by rw [wrap_i64 _ (by omega) (by omega)]; rfl
    by_cases c : l[i] = (k : Int)
    · have hk : hasK l k = true := by unfold hasK; rw [← c]; simp
      simp -dsimp -implicitDefEqProofs [a1, c, hk]
    · simp -dsimp -implicitDefEqProofs [a1, c]
      exact Again.by ⟨i + 1, a1, by rw [takeSnoc l i a1, hasK_snoc, hq]; simp [c]⟩ (Le.to (by simp [wi]) (by simp) (by simp)) (by simp; omega)
  have hi2 : i = l.length := by omega
  subst hi2
  rw [List.take_length] at hq
  simp -dsimp -implicitDefEqProofs [hq]
set_option maxRecDepth 20000 in
theorem rhas8_s (l : List Int) (k : Nat) (hl : l.length ≤ 1048576) : CallsS Tryz.prog 87 [.one (intsS l), .one (.int .i64 (k : Int))] (B (hasK l k)) := by
  refine calls Tryz.func87 rfl (by rfl) (by rfl) (by kernel_rfl) ?_
  simp -dsimp -implicitDefEqProofs [Tryz.f87]
  refine sw_loop_e (fun q : {q : Nat // q ≤ l.length ∧ hasK (l.take q) k = false} => SS.of [(0, .v (.one (intsS l))), (1, I .i64 k), (5, I .i64 q.1)] [] 0)
    (fun q => l.length - q.1) ⟨0, Nat.zero_le _, by simp [hasK]⟩ (by kernel_rfl) (Le.to (by simp) (by simp) (by simp)) ?_
  rintro ⟨i, hi, hq⟩
  by_cases a1 : i < l.length
  · have wi : IntKind.i64.wrap ((i : Int) + 1) = ((i + 1 : Nat) : Int) := by rw [wrap_i64 _ (by omega) (by omega)]; rfl
    by_cases c : l[i] = (k : Int)
    · have hk : hasK l k = true := by unfold hasK; rw [← c]; simp
      simp -dsimp -implicitDefEqProofs [a1, c, hk]
    · simp -dsimp -implicitDefEqProofs [a1, c]
      exact Again.by ⟨i + 1, a1, by rw [takeSnoc l i a1, hasK_snoc, hq]; simp [c]⟩ (Le.to (by simp [wi]) (by simp) (by simp)) (by simp; omega)
  have hi2 : i = l.length := by omega
  subst hi2
  rw [List.take_length] at hq
  simp -dsimp -implicitDefEqProofs [hq]
set_option maxRecDepth 20000 in
theorem vnext_s (x : Vn) (k : Nat) (hl : x.part.length ≤ 1048576) : CallsS Tryz.prog 56 [vnS x, .one (.int .i64 (k : Int))] (.v (.one (.int .i64 (if hasK x.part k then x.yes else x.no)))) := by
  have hh := vhas_s x.part k hl
  refine calls Tryz.func56 rfl (by rfl) (by rfl) (by kernel_rfl) ?_
  simp -dsimp -implicitDefEqProofs [Tryz.f56]
  refine eCall.of hh (by simp) ?_
  cases c : hasK x.part k with
  | true => simp -dsimp -implicitDefEqProofs
  | false => simp -dsimp -implicitDefEqProofs
noncomputable instance (n : Nat) (l : List Int) : Decidable (RiseK n l) := Classical.propDecidable _
theorem bm_bit' (p : Nat → Bool) {k : Nat} (hk : k < 8) : bitsOf .and .u8 ((bm p).fdiv (2 ^ (min k IntKind.u8.bits))) 1 = if k < 4 ∧ p k = true then 1 else 0 := bm_bit p hk
theorem bm_or' (p : Nat → Bool) {k : Nat} (hk : k < 4) : bitsOf .or .u8 (bm p) (IntKind.u8.wrap (2 ^ (min k IntKind.u8.bits))) = bm fun j => p j || j == k := by
  have := bm_or p hk
  rw [Int.one_mul] at this
  exact this
set_option maxRecDepth 20000 in
theorem vset_s (l : List Int) (n : Nat) (hn : n ≤ 4) (hl : l.length ≤ 1048576) : CallsS Tryz.prog 92 [.one (intsS l), .one (.int .i64 (n : Int))] (if RiseK n l then .tup [.one (.int .u8 (bm (hasK l))), .one (.bool true)] else .tup [.one (.int .u8 0), .one (.bool false)]) := by
  refine calls Tryz.func92 rfl (by rfl) (by rfl) (by kernel_rfl) ?_
  simp -dsimp -implicitDefEqProofs [Tryz.f92]
  refine sw_loop_e (fun q : {q : Nat // q ≤ l.length ∧ ∀ i (h : i < l.length), i < q → 0 ≤ l[i] ∧ l[i] < (n : Int) ∧ (0 < i → l[i - 1]'(by omega) < l[i])} => SS.of [(0, .v (.one (intsS l))), (1, I .i64 n), (6, .v (.one (.int .u8 (bm (hasK (l.take q.1)))))), (9, .v (.one (intsS l))), (10, I .i64 l.length), (11, I .i64 q.1)] [] 0)
    (fun q => l.length - q.1) ⟨0, Nat.zero_le _, fun i h hi => absurd hi (by omega)⟩ (by kernel_rfl) (Le.to (by simp [hasK, bm, b4]) (by simp) (by simp)) ?_
  rintro ⟨i, hi, hq⟩
  by_cases a1 : i < l.length
  · have wi : IntKind.i64.wrap ((i : Int) + 1) = ((i + 1 : Nat) : Int) := by rw [wrap_i64 _ (by omega) (by omega)]; rfl
    by_cases c1 : l[i] < 0
    · have hb : ¬ RiseK n l := fun h => by have := h i a1; omega
      simp -dsimp -implicitDefEqProofs [a1, c1, hb]
    by_cases c2 : (n : Int) ≤ l[i]
    · have hb : ¬ RiseK n l := fun h => by have := h i a1; omega
      simp -dsimp -implicitDefEqProofs [a1, c1, c2, hb]
    obtain ⟨k, hk⟩ : ∃ k : Nat, l[i] = (k : Int) := ⟨l[i].toNat, by omega⟩
    have hk4 : k < 4 := by omega
    have hk0 := eq_false (show ¬ (k : Int) < 0 by omega)
    have hkn := eq_false (show ¬ (n : Int) ≤ (k : Int) by omega)
    have hkn' : ¬ n ≤ k := by omega
    have hor := bm_or' (hasK (l.take i)) hk4
    have hst : bm (fun j => hasK (l.take i) j || j == k) = bm (hasK (l.take (i + 1))) := by
      congr 1
      funext j
      rw [takeSnoc l i a1, hasK_snoc, hk]
      congr 1
      by_cases e : j = k
      · simp [e]
      · have e2 : ¬ (k : Int) = (j : Int) := by omega
        simp [e, e2]
    rw [hst] at hor
    by_cases i0 : i = 0
    · subst i0
      simp -dsimp -implicitDefEqProofs [a1, hk, hk0, hkn, hkn']
      refine Again.by ⟨1, a1, fun j h hj => ?_⟩ (Le.to (by simp [i64_1]; exact hor) (by simp) (by simp)) (by simp; omega)
      obtain rfl : j = 0 := by omega
      exact ⟨by omega, by omega, fun h => absurd h (by omega)⟩
    · have i1 : 0 < i := by omega
      have i1' : (0 : Int) < (i : Int) := by omega
      have wj : IntKind.i64.wrap ((i : Int) - 1) = ((i - 1 : Nat) : Int) := by rw [wrap_i64 _ (by omega) (by omega)]; omega
      have a2 : i - 1 < l.length := by omega
      by_cases c3 : (k : Int) ≤ l[i - 1]
      · have hb : ¬ RiseK n l := fun h => by have := (h i a1).2.2 i1; omega
        simp -dsimp -implicitDefEqProofs [a1, hk, hk0, hkn, hkn', i1, i1', wj, a2, c3, hb]
      · simp -dsimp -implicitDefEqProofs [a1, hk, hk0, hkn, hkn', i1, i1', wj, a2, c3]
        refine Again.by ⟨i + 1, a1, fun j h hj => ?_⟩ (Le.to (by simp [wi, hor]) (by simp) (by simp)) (by simp; omega)
        by_cases e : j = i
        · subst e; exact ⟨by omega, by omega, fun _ => by omega⟩
        · exact hq j h (by omega)
  have hi2 : i = l.length := by omega
  subst hi2
  have hr : RiseK n l := fun i h => hq i h h
  simp -dsimp -implicitDefEqProofs [hr]
end Go.Proofs.YtaljbebkooppiaaGreat.Sh

namespace Go.Proofs.YtaljbebkooppiaaGreat.Sh
open Go Go.RowKit
def kindsL (p : Nat → Bool) (n : Nat) : List Int := ((List.range n).filter fun k => decide (k < 4 ∧ p k = true)).map fun k : Nat => (k : Int)
theorem kindsL_snoc (p : Nat → Bool) (n : Nat) : kindsL p (n + 1) = kindsL p n ++ if n < 4 ∧ p n = true then [(n : Int)] else [] := by
  unfold kindsL
  rw [List.range_succ, List.filter_append, List.map_append]
  congr 1
  by_cases c : n < 4 ∧ p n = true <;> simp [c]
theorem kindsL_len (p : Nat → Bool) (n : Nat) : (kindsL p n).length ≤ n := by
  unfold kindsL
  rw [List.length_map]
  exact Nat.le_trans (List.length_filter_le _ _) (by simp)
set_option maxRecDepth 20000 in
theorem vkinds_s (p : Nat → Bool) : CallsS Tryz.prog 55 [.one (.int .u8 (bm p))] (.v (.one (intsS (kindsL p 8)))) := by
  refine calls Tryz.func55 rfl (by rfl) (by rfl) (by kernel_rfl) ?_
  simp -dsimp -implicitDefEqProofs [Tryz.f55]
  refine sw_loop_e (fun q : {q : Nat × Nat × Nat // q.1 ≤ 8 ∧ q.2.2 ≤ q.2.1 ∧ (kindsL p q.1 ≠ [] → q.2.2 < q.2.1)} => SS.of [(0, I .u8 (bm p)), (3, if kindsL p q.1.1 = [] then .v (.one .nils) else .v (.one (.ms q.1.2.2 0 (kindsL p q.1.1).length 1 true))), (4, I .i64 q.1.1)] (if kindsL p q.1.1 = [] then [] else [(q.1.2.2, ⟨3, flat rowInt (kindsL p q.1.1)⟩)]) q.1.2.1)
    (fun q => 8 - q.1.1) ⟨(0, 0, 0), Nat.zero_le _, Nat.le_refl _, fun h => absurd rfl h⟩ (by kernel_rfl) (Le.to (by simp [kindsL]) (by simp [kindsL]) (by simp)) ?_
  rintro ⟨⟨k, c, o⟩, hk, hoc, hoc'⟩
  simp only at hk hoc hoc'
  by_cases a1 : k < 8
  · have wk : IntKind.i64.wrap ((k : Int) + 1) = ((k + 1 : Nat) : Int) := by rw [wrap_i64 _ (by omega) (by omega)]; rfl
    have a1' : (k : Int) < 8 := by omega
    have a2 : (0 : Int) ≤ (k : Int) := by omega
    have hb := bm_bit' p a1
    have hs := kindsL_snoc p k
    by_cases b : k < 4 ∧ p k = true
    · rw [if_pos b] at hb hs
      have hfl := flat_snoc (f := rowInt) (k : Int) (kindsL p k)
      rw [← hs] at hfl
      have hne : ¬ kindsL p (k + 1) = [] := by rw [hs]; simp
      have hlen : (kindsL p (k + 1)).length = (kindsL p k).length + 1 := by rw [hs]; simp
      have hl8 := kindsL_len p k
      by_cases e : kindsL p k = []
      · have hif : ∀ {α : Type} (x y : α), (if kindsL p k = [] then x else y) = x := fun x y => if_pos e
        rw [e, flat_nil, List.nil_append] at hfl
        simp -dsimp -implicitDefEqProofs [a1', a2, hb, hif, slots]
        exact Again.by ⟨(k + 1, c + 2, c + 1), a1, by simp only; omega, fun _ => by simp only; omega⟩ (Le.to (by simp [wk, hne, hlen, e]) (by simp [hne, hfl]) (by simp)) (by simp; omega)
      · have hif : ∀ {α : Type} (x y : α), (if kindsL p k = [] then x else y) = y := fun x y => if_neg e
        have oc1 : ¬ o = c := by have := hoc' e; omega
        simp -dsimp -implicitDefEqProofs [a1', a2, hb, hif, slots, oc1]
        refine ⟨by omega, ?_⟩
        exact Again.by ⟨(k + 1, c + 2, c + 1), a1, by simp only; omega, fun _ => by simp only; omega⟩ (Le.to (by simp [wk, hne, hlen]) (by simp [hne, hfl]) (by simp)) (by simp; omega)
    · rw [if_neg b] at hb hs
      rw [List.append_nil] at hs
      simp -dsimp -implicitDefEqProofs [a1', a2, hb]
      exact Again.by ⟨(k + 1, c, o), a1, hoc, by simp only [hs]; exact hoc'⟩ (Le.to (by by_cases e : kindsL p k = [] <;> simp [wk, hs, e]) (by by_cases e : kindsL p k = [] <;> simp [hs, e]) (by simp)) (by simp; omega)
  have hk2 : k = 8 := by omega
  subst hk2
  by_cases e : kindsL p 8 = []
  · simp -dsimp -implicitDefEqProofs [e]
  · simp -dsimp -implicitDefEqProofs [e]
theorem vmake1 (p : Int) (h0 : -9223372036854775808 ≤ p) (h1 : p < 9223372036854775808) : CallsS Tryz.prog 165 [.one (.int .i64 p), .one (.int .i64 1)] (.tup [fS (p : Rat), .one (.int .i64 0)]) := by
  have := fmake_s p 1 h0 h1 (by decide) (by decide) (by decide)
  rwa [show ((p : Rat) / ((1 : Int) : Rat)) = (p : Rat) by rw [show ((1 : Int) : Rat) = 1 from rfl]; grind] at this
set_option maxRecDepth 20000 in
theorem vnum_s (p : Int) (h0 : -9223372036854775808 ≤ p) (h1 : p < 9223372036854775808) : CallsS Tryz.prog 114 [.one (.int .i64 p)] (.v (fS (p : Rat))) := by
  refine calls Tryz.func114 rfl (by rfl) (by rfl) (by kernel_rfl) ?_
  simp -dsimp -implicitDefEqProofs [Tryz.f114]
  refine eCall.of (vmake1 p h0 h1) (by simp) ?_
  simp -dsimp -implicitDefEqProofs
@[simp] def cbS (c : List Int) : SV := .agg (c.map (S1.int .u8))
set_option maxRecDepth 20000 in
theorem vwith_s (c : List Int) (hc : c.length = 4) (a : Nat) (ha : a < 4) (b : Int) : CallsS Tryz.prog 119 [cbS c, .one (.int .i64 (a : Int)), .one (.int .u8 b)] (.v (cbS (c.set a b))) := by
  obtain ⟨c0, c1, c2, c3, rfl⟩ : ∃ c0 c1 c2 c3, c = [c0, c1, c2, c3] := by
    match c, hc with
    | [c0, c1, c2, c3], _ => exact ⟨c0, c1, c2, c3, rfl⟩
  refine calls Tryz.func119 rfl (by rfl) (by rfl) (by kernel_rfl) ?_
  match a, ha with
  | 0, _ => simp -dsimp -implicitDefEqProofs [Tryz.f119]
  | 1, _ => simp -dsimp -implicitDefEqProofs [Tryz.f119]
  | 2, _ => simp -dsimp -implicitDefEqProofs [Tryz.f119]
  | 3, _ => simp -dsimp -implicitDefEqProofs [Tryz.f119]
end Go.Proofs.YtaljbebkooppiaaGreat.Sh

namespace Go.Proofs.YtaljbebkooppiaaGreat.Sh
open Go Go.RowKit
@[simp] def rowCb (f : Nat → Int) : List S1 := [.int .u8 (f 0), .int .u8 (f 1), .int .u8 (f 2), .int .u8 (f 3)]
@[simp] def cfS (f : Nat → Int) : SV := .agg (rowCb f)
instance : RowF 4 rowCb := ⟨fun _ => rfl, fun x s h => by simp at h; rcases h with rfl | rfl | rfl | rfl <;> rfl⟩
theorem rowCb_congr {f h : Nat → Int} (e : ∀ a, a < 4 → f a = h a) : rowCb f = rowCb h := by
  simp [e 0 (by omega), e 1 (by omega), e 2 (by omega), e 3 (by omega)]
theorem rowCb_set (f : Nat → Int) {a : Nat} (ha : a < 4) (b : Int) : (rowCb f).set a (.int .u8 b) = rowCb fun x => if x = a then b else f x := by
  match a, ha with
  | 0, _ => simp
  | 1, _ => simp
  | 2, _ => simp
  | 3, _ => simp
set_option maxRecDepth 20000 in
theorem vwithF_s (f : Nat → Int) (a : Nat) (ha : a < 4) (b : Int) : CallsS Tryz.prog 119 [cfS f, .one (.int .i64 (a : Int)), .one (.int .u8 b)] (.v (cfS fun x => if x = a then b else f x)) := by
  have h := vwith_s [f 0, f 1, f 2, f 3] rfl a ha b
  have e : List.map (S1.int .u8) ([f 0, f 1, f 2, f 3].set a b) = rowCb fun x => if x = a then b else f x := by rw [List.map_set]; exact rowCb_set f ha b
  simp only [cbS] at h
  rw [e] at h
  exact h
theorem klA_eq {g : Gm} {a : Nat} (h : a < g.agents.length) : klA g a = g.agents[a].kinds.length := by unfold klA; rw [List.getElem?_eq_getElem h]; rfl
theorem klA_no {g : Gm} {a : Nat} (h : g.agents.length ≤ a) : klA g a = 0 := by unfold klA; rw [List.getElem?_eq_none h]; rfl
theorem Fine.klA4 {g : Gm} (h : Fine g) (a : Nat) : klA g a ≤ 4 := by
  by_cases c : a < g.agents.length
  · rw [klA_eq c]; exact (sizeOk_all h.sz).2.2.2.1 _ (List.getElem_mem c)
  · rw [klA_no (by omega)]; omega
def wholeN (g : Gm) (n : Nat) : Nat → Int := fun a => if a < n then bm fun k => decide (k < klA g a) else 0
def wholeF (g : Gm) : Nat → Int := fun a => bm fun k => decide (k < klA g a)
theorem wholeN_all (g : Gm) (a : Nat) : wholeN g g.agents.length a = wholeF g a := by
  unfold wholeN wholeF
  by_cases c : a < g.agents.length
  · rw [if_pos c]
  · rw [if_neg c, klA_no (by omega)]; rfl
set_option maxRecDepth 20000 in
theorem vwhole_s (g : Gm) (h : Fine g) : CallsS Tryz.prog 107 [gmS g] (.v (cfS (wholeF g))) := by
  obtain ⟨h1, -, -, h4, -⟩ := sizeOk_all h.sz
  refine calls Tryz.func107 rfl (by rfl) (by rfl) (by kernel_rfl) ?_
  simp -dsimp -implicitDefEqProofs [Tryz.f107]
  refine sw_loop_e (fun p : {p : Nat × Nat // p.1 ≤ g.agents.length} => SS.of [(2, .v (.one (.mp 1 0))), (3, .v (.one (.mp 2 0))), (7, .v (.one (agsS g.agents))), (8, I .i64 g.agents.length), (9, I .i64 p.1.1)] [(1, ⟨113, rowCb fun _ => 0⟩), (2, ⟨113, rowCb (wholeN g p.1.1)⟩)] (p.1.2 + 3))
    (fun p => g.agents.length - p.1.1) ⟨(0, 0), Nat.zero_le _⟩ (by kernel_rfl) (Le.to (by simp) (by simp [wholeN]) (by simp)) ?_
  rintro ⟨⟨i, c⟩, hi⟩
  simp only at hi
  by_cases a1 : i < g.agents.length
  · have wi : IntKind.i64.wrap ((i : Int) + 1) = ((i + 1 : Nat) : Int) := by rw [wrap_i64 _ (by omega) (by omega)]; rfl
    have i4 : i < 4 := by omega
    have hk := h4 _ (List.getElem_mem a1)
    have hb : IntKind.u8.wrap (IntKind.u8.wrap (2 ^ (min g.agents[i].kinds.length IntKind.u8.bits)) - 1) = bm fun k => decide (k < klA g i) := by
      have := bm_whole hk
      rw [Int.one_mul] at this
      rw [klA_eq a1]; exact this
    have hset := rowCb_set (wholeN g i) i4 (bm fun k => decide (k < klA g i))
    have hst : rowCb (fun x => if x = i then bm (fun k => decide (k < klA g i)) else wholeN g i x) = rowCb (wholeN g (i + 1)) := rowCb_congr fun a _ => by
      unfold wholeN
      by_cases e : a = i
      · subst e; simp
      · rw [if_neg e]
        by_cases e2 : a < i
        · rw [if_pos e2, if_pos (by omega)]
        · rw [if_neg e2, if_neg (by omega)]
    rw [hst] at hset
    simp only [rowCb] at hset
    simp -dsimp -implicitDefEqProofs [a1, i4]
    refine ⟨by omega, by omega, ?_⟩
    exact Again.by ⟨(i + 1, c + 1), a1⟩ (Le.to (by simp [wi]) (by simp [hb, hset]) (by simp)) (by simp; omega)
  have hi2 : i = g.agents.length := by omega
  subst hi2
  have e := wholeN_all g
  simp -dsimp -implicitDefEqProofs [e]
instance (g : Gm) (x : Vn) : Decidable (EndOk g x) := by unfold EndOk; infer_instance
theorem sgnQ_zero {q : Rat} : sgnQ q = 0 ↔ q = 0 := by
  unfold sgnQ
  by_cases h : q = 0
  · simp [h]
  · rw [if_neg h]
    constructor
    · intro e; split at e <;> simp at e
    · intro e; exact absurd e h
theorem EndOk.of {g : Gm} {x : Vn} (h0 : 0 ≤ x.out) (h1 : x.out < (g.outs.length : Int)) (h2 : x.pay.length = g.agents.length) (h3 : g.pay = true ∨ ∀ f ∈ x.pay, f.fix = 0) : EndOk g x :=
  ⟨h0, h1, h2, fun e => h3.resolve_left (by rw [e]; simp)⟩
set_option maxRecDepth 20000 in
theorem vended_s (g : Gm) (x : Vn) (hx : x.ok) (hl : g.agents.length ≤ 4) : CallsS Tryz.prog 118 [gmS g, vnS x] (B (decide (EndOk g x))) := by
  obtain ⟨-, -, -, -, -, hpl, hpo⟩ := hx
  unfold lenOk at hpl
  refine calls Tryz.func118 rfl (by rfl) (by rfl) (by kernel_rfl) ?_
  by_cases c0 : x.out < 0
  · have hb : ¬ EndOk g x := fun h => by have := h.1; omega
    simp -dsimp -implicitDefEqProofs [Tryz.f118, c0, hb]
  by_cases c1 : (g.outs.length : Int) ≤ x.out
  · have hb : ¬ EndOk g x := fun h => by have := h.2.1; omega
    simp -dsimp -implicitDefEqProofs [Tryz.f118, c0, c1, hb]
  by_cases c2 : x.pay.length = g.agents.length
  · simp -dsimp -implicitDefEqProofs [Tryz.f118, c0, c1, c2]
    refine sw_loop_e (fun p : {p : Nat × Nat // p.1 ≤ x.pay.length ∧ (g.pay = true ∨ ∀ f ∈ x.pay.take p.1, f.fix = 0)} => SS.of [(2, .v (.one (.mp 0 0))), (28, .v (.one (frsS x.pay))), (29, I .i64 x.pay.length), (30, I .i64 p.1.1)] [(0, ⟨31, rowGm g⟩)] (p.1.2 + 2))
      (fun p => x.pay.length - p.1.1) ⟨(0, 0), Nat.zero_le _, .inr (by simp)⟩ (by kernel_rfl) (Le.to (by simp [c2]) (by simp) (by simp)) ?_
    rintro ⟨⟨i, c⟩, hi, hq⟩
    simp only at hi hq
    by_cases a1 : i < x.pay.length
    · have wi : IntKind.i64.wrap ((i : Int) + 1) = ((i + 1 : Nat) : Int) := by rw [wrap_i64 _ (by omega) (by omega)]; rfl
      by_cases e : g.pay = true
      · simp -dsimp -implicitDefEqProofs [a1, e]
        exact Again.by ⟨(i + 1, c + 1), a1, .inl e⟩ (Le.to (by simp [wi]) (by simp [e]) (by simp)) (by simp; omega)
      · have e : g.pay = false := by simpa using e
        have hs := fsign_s x.pay[i] (hpo _ (List.getElem_mem a1))
        simp -dsimp -implicitDefEqProofs [a1, e]
        refine eCall.of hs (by simp) ?_
        by_cases c3 : x.pay[i].fix = 0
        · simp -dsimp -implicitDefEqProofs [sgnQ_zero.2 c3]
          exact Again.by ⟨(i + 1, c + 1), a1, .inr (all_take a1 (hq.resolve_left (by rw [e]; simp)) c3)⟩ (Le.to (by simp [wi]) (by simp [e]) (by simp)) (by simp; omega)
        · have hb : ¬ EndOk g x := fun h => c3 (h.2.2.2 e _ (List.getElem_mem a1))
          simp -dsimp -implicitDefEqProofs [mt sgnQ_zero.1 c3, hb]
    have hi2 : i = x.pay.length := by omega
    subst hi2
    rw [List.take_length] at hq
    have hb : EndOk g x := EndOk.of (by omega) (by omega) c2 hq
    simp -dsimp -implicitDefEqProofs [hb]
  · have hb : ¬ EndOk g x := fun h => c2 h.2.2.1
    have c2' : ¬ (x.pay.length : Int) = (g.agents.length : Int) := by omega
    simp -dsimp -implicitDefEqProofs [Tryz.f118, c0, c1, c2, c2', hb]
def useX (K : Kd) (x : Vn) (a : Nat) : Rat := (((K.worth[x.out.toNat]?).map FR.fix).getD 0) - (((x.pay[a]?).map FR.fix).getD 0)
def Near (g : Gm) : Prop := ∀ A ∈ g.agents, ∀ K ∈ A.kinds, mz K.weight.fix ≤ 6 ∧ mz K.alone.fix ≤ 6 ∧ ∀ f ∈ K.worth, mz f.fix ≤ 6
def NearV (l : List Vn) : Prop := ∀ x ∈ l, x.ok ∧ x.part.length ≤ 20 ∧ ∀ f ∈ x.pay, mz f.fix ≤ 6
theorem use_mz {g : Gm} (hn : Near g) {x : Vn} (hx : ∀ f ∈ x.pay, mz f.fix ≤ 6) {a k : Nat} (ha : a < g.agents.length) (hk : k < g.agents[a].kinds.length) (ho : x.out.toNat < g.agents[a].kinds[k].worth.length) (hp : a < x.pay.length) :
    useX g.agents[a].kinds[k] x a = g.agents[a].kinds[k].worth[x.out.toNat].fix - x.pay[a].fix ∧ mz (useX g.agents[a].kinds[k] x a) ≤ 13 := by
  have e : useX g.agents[a].kinds[k] x a = g.agents[a].kinds[k].worth[x.out.toNat].fix - x.pay[a].fix := by
    unfold useX; rw [List.getElem?_eq_getElem ho, List.getElem?_eq_getElem hp]; rfl
  refine ⟨e, ?_⟩
  rw [e]
  have h1 := (hn _ (List.getElem_mem ha) _ (List.getElem_mem hk)).2.2 _ (List.getElem_mem ho)
  have h2 := hx _ (List.getElem_mem hp)
  have h3 := mz_sub g.agents[a].kinds[k].worth[x.out.toNat].fix x.pay[a].fix
  omega
set_option maxRecDepth 20000 in
theorem vuse_s (g : Gm) (hg : g.ok) (hn : Near g) (x : Vn) (hx : x.ok) (hx6 : ∀ f ∈ x.pay, mz f.fix ≤ 6) (he : EndOk g x) (a k : Nat) (ha : a < g.agents.length) (hk : k < g.agents[a].kinds.length) (hw : g.agents[a].kinds[k].worth.length = g.outs.length) :
    CallsS Tryz.prog 121 [gmS g, .one (.int .i64 (a : Int)), .one (.int .i64 (k : Int)), vnS x] (.v (fS (useX g.agents[a].kinds[k] x a))) := by
  obtain ⟨e1, e2, e3, -⟩ := he
  obtain ⟨o, ho⟩ : ∃ o : Nat, x.out = (o : Int) := ⟨x.out.toNat, by omega⟩
  have o1 : o < g.agents[a].kinds[k].worth.length := by omega
  have o2 : a < x.pay.length := by omega
  obtain ⟨u1, u2⟩ := use_mz hn hx6 ha hk (x := x) (by rw [ho, Int.toNat_natCast]; exact o1) o2
  have hs := fsub_s g.agents[a].kinds[k].worth[o] x.pay[a] (((hg.a _ (List.getElem_mem ha)).2.2 _ (List.getElem_mem hk)).2.2.2.2 _ (List.getElem_mem o1)) (hx.f.2 _ (List.getElem_mem o2))
  simp only [ho, Int.toNat_natCast] at u1
  rw [← u1, (cap_mz (by omega)).1] at hs
  refine calls Tryz.func121 rfl (by rfl) (by rfl) (by kernel_rfl) ?_
  simp -dsimp -implicitDefEqProofs [Tryz.f121, ha, hk, ho, o1, o2]
  refine eCall.of hs (by simp) ?_
  simp -dsimp -implicitDefEqProofs
set_option maxRecDepth 20000 in
theorem ruse_s (g : Gm) (hg : g.ok) (hn : Near g) (x : Vn) (hx : x.ok) (hx6 : ∀ f ∈ x.pay, mz f.fix ≤ 6) (he : EndOk g x) (a k : Nat) (ha : a < g.agents.length) (hk : k < g.agents[a].kinds.length) (hw : g.agents[a].kinds[k].worth.length = g.outs.length) :
    CallsS Tryz.prog 138 [gmS g, vnS x, .one (.int .i64 (a : Int)), .one (.int .i64 (k : Int))] (.v (fS (useX g.agents[a].kinds[k] x a))) := by
  obtain ⟨e1, e2, e3, -⟩ := he
  obtain ⟨o, ho⟩ : ∃ o : Nat, x.out = (o : Int) := ⟨x.out.toNat, by omega⟩
  have o1 : o < g.agents[a].kinds[k].worth.length := by omega
  have o2 : a < x.pay.length := by omega
  obtain ⟨u1, u2⟩ := use_mz hn hx6 ha hk (x := x) (by rw [ho, Int.toNat_natCast]; exact o1) o2
  have hs := subR_s g.agents[a].kinds[k].worth[o] x.pay[a] (((hg.a _ (List.getElem_mem ha)).2.2 _ (List.getElem_mem hk)).2.2.2.2 _ (List.getElem_mem o1)) (hx.f.2 _ (List.getElem_mem o2))
  simp only [ho, Int.toNat_natCast] at u1
  rw [← u1, (cap_mz (by omega)).1] at hs
  refine calls Tryz.func138 rfl (by rfl) (by rfl) (by kernel_rfl) ?_
  simp -dsimp -implicitDefEqProofs [Tryz.f138, ha, hk, ho, o1, o2]
  refine eCall.of hs (by simp) ?_
  simp -dsimp -implicitDefEqProofs
def fxF (f : FR) : FR := frQ f.fix
set_option maxRecDepth 20000 in
theorem vfixed_s (l : List FR) (hl : ∀ f ∈ l, f.ok) (h1 : l.length ≤ 1099511627776) : CallsS Tryz.prog 62 [.one (frsS l)] (.v (.one (frsS (l.map fxF)))) := by
  refine calls Tryz.func62 rfl (by rfl) (by rfl) (by kernel_rfl) ?_
  simp -dsimp -implicitDefEqProofs [Tryz.f62]
  refine ⟨by omega, ?_⟩
  refine sw_loop_e (fun p : {p : Nat × Nat // p.1 ≤ l.length} => SS.of [(3, .v (.one (.ms 0 0 l.length 3 true))), (9, .v (.one (frsS l))), (10, I .i64 l.length), (11, I .i64 p.1.1)] [(0, ⟨26, flat (optRow [.bool false, .nils, .nils] rowFr) (filled fxF l p.1.1)⟩)] (p.1.2 + 1))
    (fun p => l.length - p.1.1) ⟨(0, 0), Nat.zero_le _⟩ (by kernel_rfl) (Le.to (by simp) (by simp [filled_zero, flat_rep _ rowFr]) (by simp)) ?_
  rintro ⟨⟨i, c⟩, hi⟩
  simp only at hi
  by_cases a1 : i < l.length
  · have wi : IntKind.i64.wrap ((i : Int) + 1) = ((i + 1 : Nat) : Int) := by rw [wrap_i64 _ (by omega) (by omega)]; rfl
    have hok : l[i].ok := hl _ (List.getElem_mem a1)
    have ml := filled_len fxF l hi
    have mset := filled_set fxF l i a1
    simp -dsimp -implicitDefEqProofs [a1, wi]
    refine eCall.of (ffix_s l[i] hok) (by simp) ?_
    simp -dsimp -implicitDefEqProofs [a1, ml]
    refine ⟨by omega, ?_⟩
    have hset := set3_flat (f := optRow [.bool false, .nils, .nils] rowFr) (filled fxF l i) i (some (fxF l[i])) rfl (by omega)
    rw [mset] at hset
    exact Again.by ⟨(i + 1, c + 1), a1⟩ (Le.to (by simp [wi]) (by simp [← hset, fxF, frQ, ng]) (by simp)) (by simp; omega)
  · have hi2 : i = l.length := by omega
    subst hi2
    simp -dsimp -implicitDefEqProofs [filled_full]
    intro a _
    rfl
end Go.Proofs.YtaljbebkooppiaaGreat.Sh

namespace Go.Proofs.YtaljbebkooppiaaGreat.Sh
open Go Go.RowKit
def bigF (m : Nat) (f : FR) : Bool := decide (m < f.num.length) || decide (m < f.den.length)
theorem fixMax {f : FR} (h : f.ok) {b : Nat} (hb : 1 ≤ b) (h1 : bigF b f = false) : mz f.fix ≤ b := by
  unfold bigF at h1
  simp only [Bool.or_eq_false_iff, decide_eq_false_iff_not] at h1
  by_cases hr : f.right = true
  · have h2 := (FR.right_fix h hr).1
    simp at h2
    obtain ⟨-, h3, h4⟩ := h2
    have l3 := congrArg List.length h3
    have l4 := congrArg List.length h4
    simp at l3 l4
    unfold mz
    have e3 : wl f.fix.num.natAbs = f.num.length := l3.symm
    have e4 : wl f.fix.den = f.den.length := l4.symm
    omega
  · have : f.fix = 0 := by unfold FR.fix; rw [if_neg hr]
    rw [this, show mz 0 = 1 by decide +kernel]; exact hb
def wideL (l : List FR) : Bool := l.any (bigF 6)
theorem any_no {α : Type} {p : α → Bool} {l : List α} (h : ∀ x ∈ l, ¬ p x = true) : l.any p = false := by
  rw [List.any_eq_false]; exact h
theorem any_yes {α : Type} {p : α → Bool} {l : List α} {x : α} (hx : x ∈ l) (h : p x = true) : l.any p = true := List.any_eq_true.2 ⟨x, hx, h⟩
set_option maxRecDepth 20000 in
theorem wide8_s (l : List FR) (hl : l.length ≤ 140737488355328) : CallsS Tryz.prog 75 [.one (frsS l)] (B (wideL l)) := by
  suffices h : ∀ b, b = wideL l → CallsS Tryz.prog 75 [.one (frsS l)] (B b) from h _ rfl
  intro b hb
  refine calls Tryz.func75 rfl (by rfl) (by rfl) (by kernel_rfl) ?_
  simp -dsimp -implicitDefEqProofs [Tryz.f75]
  refine sw_loop_e (fun q : {q : Nat // q ≤ l.length ∧ ∀ f ∈ l.take q, ¬ bigF 6 f = true} => SS.of [(0, .v (.one (frsS l))), (3, I .i64 q.1)] [] 0)
    (fun q => l.length - q.1) ⟨0, Nat.zero_le _, by simp⟩ (by kernel_rfl) (Le.to (by simp) (by simp) (by simp)) ?_
  rintro ⟨i, hi, hq⟩
  by_cases a1 : i < l.length
  · have wi : IntKind.i64.wrap ((i : Int) + 1) = ((i + 1 : Nat) : Int) := by rw [wrap_i64 _ (by omega) (by omega)]; rfl
    by_cases c1 : (6 : Int) < (l[i].num.length : Int)
    · have hb' : b = true := by rw [hb]; exact any_yes (List.getElem_mem a1) (by unfold bigF; rw [decide_eq_true (by omega)]; rfl)
      simp -dsimp -implicitDefEqProofs [a1, c1, hb']
    by_cases c2 : (6 : Int) < (l[i].den.length : Int)
    · have hb' : b = true := by rw [hb]; exact any_yes (List.getElem_mem a1) (by unfold bigF; rw [decide_eq_true (show 6 < l[i].den.length by omega)]; simp)
      simp -dsimp -implicitDefEqProofs [a1, c1, c2, hb']
    · simp -dsimp -implicitDefEqProofs [a1, c1, c2]
      exact Again.by ⟨i + 1, a1, all_take a1 hq (by unfold bigF; rw [decide_eq_false (by omega), decide_eq_false (by omega)]; simp)⟩ (Le.to (by simp [wi]) (by simp) (by simp)) (by simp; omega)
  have hi2 : i = l.length := by omega
  subst hi2
  rw [List.take_length] at hq
  have hb' : b = false := by rw [hb]; exact any_no hq
  simp -dsimp -implicitDefEqProofs [hb']
def farK8 (k : Kd) : Bool := wideL k.worth || wideL [k.weight, k.alone]
def far8 (g : Gm) : Bool := beyond g || (g.agents.any fun a => a.kinds.any farK8) || g.needs.any fun n => wideL [n.bound]
theorem far8_no {g : Gm} (h : far8 g = false) : beyond g = false ∧ (∀ a ∈ g.agents, ∀ k ∈ a.kinds, farK8 k = false) ∧ ∀ n ∈ g.needs, wideL [n.bound] = false := by
  unfold far8 at h
  simp only [Bool.or_eq_false_iff] at h
  refine ⟨h.1.1, fun a ha k hk => ?_, fun n hn => ?_⟩
  · have := List.any_eq_false.1 h.1.2 a ha
    simp only [Bool.not_eq_true] at this
    have := List.any_eq_false.1 this k hk
    simpa using this
  · have := List.any_eq_false.1 h.2 n hn
    simpa using this
theorem wideL_no {l : List FR} (h : wideL l = false) : ∀ f ∈ l, bigF 6 f = false := fun f hf => by
  have := List.any_eq_false.1 h f hf
  simpa using this
theorem far8_near {g : Gm} (hg : g.ok) (h : far8 g = false) : Near g := by
  obtain ⟨-, h2, -⟩ := far8_no h
  intro A hA K hK
  have := h2 A hA K hK
  unfold farK8 at this
  rw [Bool.or_eq_false_iff] at this
  obtain ⟨k1, k2, k3, k4, k5⟩ := (hg.a A hA).2.2 K hK
  have hw := wideL_no this.1
  have hx := wideL_no this.2
  exact ⟨fixMax k2 (by decide) (hx _ (by simp)), fixMax k3 (by decide) (hx _ (by simp)), fun f hf => fixMax (k5 f hf) (by decide) (hw f hf)⟩
theorem bigF_cop {f : FR} {b : Nat} (hb : b ≤ 1048576) (h : bigF b f = false) : f.cop := by
  unfold bigF at h
  simp only [Bool.or_eq_false_iff, decide_eq_false_iff_not] at h
  exact ⟨by omega, by omega⟩
set_option maxRecDepth 20000 in
set_option maxHeartbeats 1000000 in
theorem far8_s (g : Gm) (hg : g.ok) : CallsS Tryz.prog 23 [gmS g] (B (far8 g)) := by
  suffices h : ∀ b, b = far8 g → CallsS Tryz.prog 23 [gmS g] (B b) from h _ rfl
  intro b hb
  refine calls Tryz.func23 rfl (by rfl) (by rfl) (by kernel_rfl) ?_
  simp -dsimp -implicitDefEqProofs [Tryz.f23]
  refine eCall.of (beyond_s g hg) (by simp) ?_
  cases hbe : beyond g with
  | true =>
    have hb' : b = true := by rw [hb]; unfold far8; rw [hbe]; rfl
    simp -dsimp -implicitDefEqProofs [hb']
  | false =>
  obtain ⟨b1, b2, b3, b4⟩ := beyond_len hbe
  simp -dsimp -implicitDefEqProofs
  refine sw_loop_e (fun q : {q : Nat × Nat // q.1 ≤ g.agents.length ∧ ∀ a ∈ g.agents.take q.1, ¬ a.kinds.any farK8 = true} => SS.of [(1, .v (.one (.mp 0 0))), (3, I .i64 q.1.1)] [(0, ⟨31, rowGm g⟩)] (q.1.2 + 1))
    (fun q => g.agents.length - q.1.1) ⟨(0, 0), Nat.zero_le _, by simp⟩ (by kernel_rfl) (Le.to (by simp) (by simp) (by simp)) ?_
  rintro ⟨⟨i, c⟩, hi, hq⟩
  simp only at hi hq
  by_cases a1 : i < g.agents.length
  · have wi : IntKind.i64.wrap ((i : Int) + 1) = ((i + 1 : Nat) : Int) := by rw [wrap_i64 _ (by omega) (by omega)]; rfl
    have bk := b4 _ (List.getElem_mem a1)
    simp -dsimp -implicitDefEqProofs [a1]
    refine sw_loop_e (fun q : {q : Nat × Nat // q.1 ≤ g.agents[i].kinds.length ∧ ∀ k ∈ g.agents[i].kinds.take q.1, ¬ farK8 k = true} => SS.of [(1, .v (.one (.mp 0 0))), (3, I .i64 i), (4, I .i64 q.1.1)] [(0, ⟨31, rowGm g⟩)] (q.1.2 + 1))
      (fun q => g.agents[i].kinds.length - q.1.1) ⟨(0, c), Nat.zero_le _, by simp⟩ (by kernel_rfl) (Le.to (by simp) (by simp) (by simp)) ?_
    rintro ⟨⟨k, d⟩, hk, hqk⟩
    simp only at hk hqk
    by_cases a2 : k < g.agents[i].kinds.length
    · have wk : IntKind.i64.wrap ((k : Int) + 1) = ((k + 1 : Nat) : Int) := by rw [wrap_i64 _ (by omega) (by omega)]; rfl
      obtain ⟨k1, k2, k3, k4, k5⟩ := (hg.a _ (List.getElem_mem a1)).2.2 _ (List.getElem_mem a2)
      unfold lenOk at k4
      have yes : farK8 g.agents[i].kinds[k] = true → b = true := fun e => by
        rw [hb]; unfold far8
        rw [any_yes (List.getElem_mem a1) (any_yes (p := farK8) (List.getElem_mem a2) e)]; simp
      simp -dsimp -implicitDefEqProofs [a1, a2]
      refine eCall.of (wide8_s g.agents[i].kinds[k].worth k4) (by simp) ?_
      cases e1 : wideL g.agents[i].kinds[k].worth with
      | true =>
        simp -dsimp -implicitDefEqProofs [yes (by unfold farK8; rw [e1]; rfl)]
      | false =>
        simp -dsimp -implicitDefEqProofs [slots]
        refine eCall.of (wide8_s [g.agents[i].kinds[k].weight, g.agents[i].kinds[k].alone] (by simp)) (by simp; rfl) ?_
        cases e2 : wideL [g.agents[i].kinds[k].weight, g.agents[i].kinds[k].alone] with
        | true =>
          simp -dsimp -implicitDefEqProofs [yes (by unfold farK8; rw [e2]; simp)]
        | false =>
          simp -dsimp -implicitDefEqProofs
          exact Again.by ⟨(k + 1, d + 2), a2, all_take a2 hqk (by unfold farK8; rw [e1, e2]; simp)⟩ (Le.to (by simp [wk]) (by simp) (by simp)) (by simp; omega)
    have hk2 : k = g.agents[i].kinds.length := by omega
    subst hk2
    rw [List.take_length] at hqk
    simp -dsimp -implicitDefEqProofs [a1]
    exact Again.by ⟨(i + 1, d), a1, all_take a1 hq (by rw [any_no hqk]; simp)⟩ (Le.to (by simp [wi]) (by simp) (by simp)) (by simp; omega)
  have hi2 : i = g.agents.length := by omega
  subst hi2
  rw [List.take_length] at hq
  have hag : (g.agents.any fun a => a.kinds.any farK8) = false := any_no hq
  simp -dsimp -implicitDefEqProofs
  refine sw_loop_e (fun q : {q : Nat × Nat // q.1 ≤ g.needs.length ∧ ∀ n ∈ g.needs.take q.1, ¬ wideL [n.bound] = true} => SS.of [(1, .v (.one (.mp 0 0))), (6, I .i64 q.1.1)] [(0, ⟨31, rowGm g⟩)] (c + q.1.2 + 1))
    (fun q => g.needs.length - q.1.1) ⟨(0, 0), Nat.zero_le _, by simp⟩ (by kernel_rfl) (Le.to (by simp) (by simp) (by simp)) ?_
  rintro ⟨⟨j, d⟩, hj, hqj⟩
  simp only at hj hqj
  by_cases a1 : j < g.needs.length
  · have wj : IntKind.i64.wrap ((j : Int) + 1) = ((j + 1 : Nat) : Int) := by rw [wrap_i64 _ (by omega) (by omega)]; rfl
    simp -dsimp -implicitDefEqProofs [a1, slots]
    refine eCall.of (wide8_s [g.needs[j].bound] (by simp)) (by simp; rfl) ?_
    cases e2 : wideL [g.needs[j].bound] with
    | true =>
      have hb' : b = true := by
        rw [hb]; unfold far8
        rw [any_yes (p := fun n : Nd => wideL [n.bound]) (List.getElem_mem a1) e2]; simp
      simp -dsimp -implicitDefEqProofs [hb']
    | false =>
      simp -dsimp -implicitDefEqProofs
      exact Again.by ⟨(j + 1, d + 1), a1, all_take a1 hqj (by rw [e2]; simp)⟩ (Le.to (by simp [wj]) (by simp) (by simp; omega)) (by simp; omega)
  have hj2 : j = g.needs.length := by omega
  subst hj2
  rw [List.take_length] at hqj
  have hb' : b = false := by rw [hb]; unfold far8; rw [hbe, hag, any_no hqj]; rfl
  simp -dsimp -implicitDefEqProofs [hb']
def bey8X (x : Vn) : Bool := decide (20 < x.part.length) || decide (8 < x.pay.length) || x.pay.any (bigF 4)
def bey8 (l : List Vn) : Bool := decide (80 < l.length) || l.any bey8X
theorem bey8_no {l : List Vn} (h : bey8 l = false) (ho : ∀ x ∈ l, x.ok) : l.length ≤ 80 ∧ NearV l ∧ ∀ x ∈ l, x.pay.length ≤ 8 ∧ ∀ f ∈ x.pay, bigF 4 f = false := by
  unfold bey8 at h
  simp only [Bool.or_eq_false_iff, decide_eq_false_iff_not] at h
  have hx : ∀ x ∈ l, bey8X x = false := fun x hx => by have := List.any_eq_false.1 h.2 x hx; simpa using this
  have hy : ∀ x ∈ l, x.part.length ≤ 20 ∧ x.pay.length ≤ 8 ∧ ∀ f ∈ x.pay, bigF 4 f = false := fun x hm => by
    have := hx x hm
    unfold bey8X at this
    simp only [Bool.or_eq_false_iff, decide_eq_false_iff_not] at this
    exact ⟨by omega, by omega, fun f hf => by have := List.any_eq_false.1 this.2 f hf; simpa using this⟩
  refine ⟨by omega, fun x hm => ⟨ho x hm, (hy x hm).1, fun f hf => ?_⟩, fun x hm => (hy x hm).2⟩
  exact Nat.le_trans (fixMax ((ho x hm).f.2 f hf) (by decide) ((hy x hm).2.2 f hf)) (by decide)
set_option maxRecDepth 20000 in
set_option maxHeartbeats 1000000 in
theorem bey8_s (l : List Vn) (hl : l.length ≤ 140737488355328) (ho : ∀ x ∈ l, x.ok) : CallsS Tryz.prog 24 [viS l] (B (bey8 l)) := by
  suffices h : ∀ b, b = bey8 l → CallsS Tryz.prog 24 [viS l] (B b) from h _ rfl
  intro b hb
  refine calls Tryz.func24 rfl (by rfl) (by rfl) (by kernel_rfl) ?_
  by_cases c0 : 80 < l.length
  · have c0' : (80 : Int) < (l.length : Int) := by omega
    have hb' : b = true := by rw [hb]; unfold bey8; rw [decide_eq_true c0]; rfl
    simp -dsimp -implicitDefEqProofs [Tryz.f24, c0, c0', hb']
  have c0' : ¬ (80 : Int) < (l.length : Int) := by omega
  simp -dsimp -implicitDefEqProofs [Tryz.f24, c0, c0']
  refine sw_loop_e (fun q : {q : Nat × Nat // q.1 ≤ l.length ∧ ∀ x ∈ l.take q.1, ¬ bey8X x = true} => SS.of [(1, .v (.one (.mp 0 0))), (3, I .i64 q.1.1)] [(0, ⟨34, [vnsS l]⟩)] (q.1.2 + 1))
    (fun q => l.length - q.1.1) ⟨(0, 0), Nat.zero_le _, by simp⟩ (by kernel_rfl) (Le.to (by simp) (by simp) (by simp)) ?_
  rintro ⟨⟨i, c⟩, hi, hq⟩
  simp only at hi hq
  by_cases a1 : i < l.length
  · have wi : IntKind.i64.wrap ((i : Int) + 1) = ((i + 1 : Nat) : Int) := by rw [wrap_i64 _ (by omega) (by omega)]; rfl
    have yes : bey8X l[i] = true → b = true := fun e => by rw [hb]; unfold bey8; rw [any_yes (List.getElem_mem a1) e]; simp
    by_cases c1 : (20 : Int) < (l[i].part.length : Int)
    · simp -dsimp -implicitDefEqProofs [a1, c1, yes (by unfold bey8X; rw [decide_eq_true (by omega)]; rfl)]
    by_cases c2 : (8 : Int) < (l[i].pay.length : Int)
    · simp -dsimp -implicitDefEqProofs [a1, c1, c2, yes (by unfold bey8X; rw [decide_eq_true (show 8 < l[i].pay.length by omega)]; simp)]
    simp -dsimp -implicitDefEqProofs [a1, c1, c2]
    refine sw_loop_e (fun q : {q : Nat // q ≤ l[i].pay.length ∧ ∀ f ∈ l[i].pay.take q, ¬ bigF 4 f = true} => SS.of [(1, .v (.one (.mp 0 0))), (3, I .i64 i), (4, .v (.one (.mp (c + 1) 0))), (5, I .i64 q.1)] [(0, ⟨34, [vnsS l]⟩), (c + 1, ⟨110, rowVn l[i]⟩)] (c + 2))
      (fun q => l[i].pay.length - q.1) ⟨0, Nat.zero_le _, by simp⟩ (by kernel_rfl) (Le.to (by simp) (by simp) (by simp)) ?_
    rintro ⟨k, hk, hqk⟩
    by_cases a2 : k < l[i].pay.length
    · have wk : IntKind.i64.wrap ((k : Int) + 1) = ((k + 1 : Nat) : Int) := by rw [wrap_i64 _ (by omega) (by omega)]; rfl
      have yes2 : bigF 4 l[i].pay[k] = true → b = true := fun e => yes (by unfold bey8X; rw [any_yes (List.getElem_mem a2) e]; simp)
      by_cases c3 : (4 : Int) < (l[i].pay[k].num.length : Int)
      · simp -dsimp -implicitDefEqProofs [a2, c3, yes2 (by unfold bigF; rw [decide_eq_true (by omega)]; rfl)]
      by_cases c4 : (4 : Int) < (l[i].pay[k].den.length : Int)
      · simp -dsimp -implicitDefEqProofs [a2, c3, c4, yes2 (by unfold bigF; rw [decide_eq_true (show 4 < l[i].pay[k].den.length by omega)]; simp)]
      · simp -dsimp -implicitDefEqProofs [a2, c3, c4]
        exact Again.by ⟨k + 1, a2, all_take a2 hqk (by unfold bigF; rw [decide_eq_false (by omega), decide_eq_false (by omega)]; simp)⟩ (Le.to (by simp [wk]) (by simp) (by simp)) (by simp; omega)
    have hk2 : k = l[i].pay.length := by omega
    subst hk2
    rw [List.take_length] at hqk
    simp -dsimp -implicitDefEqProofs
    exact Again.by ⟨(i + 1, c + 1), a1, all_take a1 hq (by unfold bey8X; rw [any_no hqk, decide_eq_false (by omega), decide_eq_false (by omega)]; simp)⟩ (Le.to (by simp [wi]) (by simp) (by simp)) (by simp; omega)
  have hi2 : i = l.length := by omega
  subst hi2
  rw [List.take_length] at hq
  have hb' : b = false := by rw [hb]; unfold bey8; rw [any_no hq, decide_eq_false c0]; rfl
  simp -dsimp -implicitDefEqProofs [hb']
end Go.Proofs.YtaljbebkooppiaaGreat.Sh

