/- A part of the proof: R150, R151, R153, R152, R154, R155 -/
import Derived.Test.YtaljbebkooppiaaGreatV19
import Derived.Test.YtaljbebkooppiaaGreatV9
set_option linter.unusedSimpArgs false
set_option linter.unusedVariables false
set_option linter.unusedSectionVars false
namespace Go.Proofs.YtaljbebkooppiaaGreat.Sh
open Go Go.RowKit
def wayL (l : List Vn) (p : List Int) (t : Nat) : List Int := (List.range (t + 1)).map fun i => (wayV l p i : Int)
theorem wayL_succ (l : List Vn) (p : List Int) (t : Nat) : wayL l p (t + 1) = wayL l p t ++ [(wayV l p (t + 1) : Int)] := by
  unfold wayL; rw [List.range_succ, List.map_append]; rfl
theorem wayL_len (l : List Vn) (p : List Int) (t : Nat) : (wayL l p t).length = t + 1 := by simp [wayL]
theorem wayL_zero (l : List Vn) (p : List Int) : wayL l p 0 = [0] := rfl
section
variable {g : Gm} {l : List Vn} {p : List Int}
theorem isEnd_true {i : Nat} (hi : i < l.length) : isEndV l i = true ↔ l[i].agent = -1 := by unfold isEndV; rw [vnAt_eq hi]; simp
theorem TreeOk.said (h : TreeOk g l) (hp : isProf g p) {i : Nat} (hi : i < l.length) (he : isEndV l i = false) :
    ∃ (a k : Nat) (ha : a < p.length), l[i].agent = (a : Int) ∧ agV l i = a ∧ p[a] = (k : Int) ∧ saidV p a = k ∧ a < g.agents.length ∧ (vnAt l i).part = l[i].part := by
  obtain ⟨-, e1, e2⟩ := h.ask hi he
  obtain ⟨A, x, h1, h2, h3, h4⟩ := hp.2 _ e2
  have ha : agV l i < p.length := by rw [hp.1]; exact e2
  have hx : p[agV l i] = x := by rw [List.getElem?_eq_getElem ha] at h2; exact Option.some.inj h2
  refine ⟨agV l i, x.toNat, ha, by rw [← vnAt_eq hi]; exact e1, rfl, by rw [hx]; omega, by unfold saidV; rw [h2]; rfl, e2, by rw [vnAt_eq hi]⟩
theorem wayV_next {t : Nat} (he : isEndV l (wayV l p t) = false) : wayV l p (t + 1) = nextV l (wayV l p t) (saidV p (agV l (wayV l p t))) := by
  show (if isEndV l (wayV l p t) then _ else _) = _
  rw [he, if_neg (by simp)]
theorem TreeOk.nextI (h : TreeOk g l) {i : Nat} (hi : i < l.length) (he : isEndV l i = false) (k : Nat) : (if hasK l[i].part k then l[i].yes else l[i].no) = (nextV l i k : Int) := by
  obtain ⟨y, n, e1, e2, -⟩ := h.kids hi he
  unfold nextV
  rw [e1, e2, ← vnAt_eq hi, e1, e2, Int.toNat_natCast, Int.toNat_natCast]
  split <;> rfl
set_option maxRecDepth 20000 in
theorem vwalk_s (h : TreeOk g l) (hn : NearV l) (hp : isProf g p) (T : Nat) (hT : isEndV l (wayV l p T) = true) (hm : ∀ t, t < T → isEndV l (wayV l p t) = false) (hTl : T < l.length) :
    CallsS Tryz.prog 60 [viS l, .one (intsS p)] (.v (.one (intsS (wayL l p T)))) := by
  have hll := h.len
  refine calls Tryz.func60 rfl (by rfl) (by rfl) (by kernel_rfl) ?_
  simp -dsimp -implicitDefEqProofs [Tryz.f60]
  refine sw_loop_e (fun q : {q : Nat × Nat × Nat // q.1 ≤ T ∧ q.2.2 < q.2.1 ∧ 0 < q.2.2} => SS.of [(1, .v (.one (intsS p))), (2, .v (.one (.mp 0 0))), (5, .v (.one (.ms q.1.2.2 0 (q.1.1 + 1) 1 true))), (6, I .i64 (wayV l p q.1.1))] [(0, ⟨34, [vnsS l]⟩), (q.1.2.2, ⟨3, flat rowInt (wayL l p q.1.1)⟩)] q.1.2.1)
    (fun q => T - q.1.1) ⟨(0, 2, 1), Nat.zero_le _, by decide, by decide⟩ (by kernel_rfl) (Le.to (by simp [wayV]) (by simp [wayL_zero, flat]) (by simp)) ?_
  rintro ⟨⟨t, c, o⟩, ht, hoc, ho0⟩
  simp only at ht hoc ho0
  have hw := h.way p t
  have o1 : ¬ o = 0 := by omega
  have o1' : ¬ 0 = o := by omega
  have c1' : ¬ 0 = c := by omega
  have hwl := wayL_len l p t
  cases e : isEndV l (wayV l p t) with
  | false =>
    have htT : t < T := by
      rcases Nat.lt_or_ge t T with h' | h'
      · exact h'
      · obtain rfl : t = T := by omega
        rw [hT] at e; cases e
    obtain ⟨a, k, ha, s1, s2, s3, s4, s5, s6⟩ := h.said hp hw e
    have hx := vnext_s l[wayV l p t] k (by have := (hn _ (List.getElem_mem hw)).2.1; omega)
    rw [h.nextI hw e k] at hx
    have hnx : (wayV l p (t + 1) : Int) = (nextV l (wayV l p t) k : Int) := by rw [wayV_next e, s2, s4]
    rw [← hnx] at hx
    have a0 : (0 : Int) ≤ (a : Int) := by omega
    have hfl := flat_snoc (f := rowInt) (wayV l p (t + 1) : Int) (wayL l p t)
    rw [← wayL_succ] at hfl
    simp -dsimp -implicitDefEqProofs [hw, s1, a0, ha, s3]
    refine eCall.of hx (by simp [s1]) ?_
    have oc1 : ¬ o = c := by omega
    simp -dsimp -implicitDefEqProofs [slots, hwl, o1, oc1]
    refine ⟨by omega, ?_⟩
    exact Again.by ⟨(t + 1, c + 2, c + 1), htT, by simp only; omega, by simp only; omega⟩ (Le.to (by simp) (by simp [hfl, o1', c1']) (by simp)) (by simp; omega)
  | true =>
    have htT : t = T := by
      rcases Nat.lt_or_ge t T with h' | h'
      · rw [hm t h'] at e; cases e
      · omega
    subst htT
    have e1 := (isEnd_true hw).1 e
    simp -dsimp -implicitDefEqProofs [hw, e1, hwl, o1]
end
end Go.Proofs.YtaljbebkooppiaaGreat.Sh

namespace Go.Proofs.YtaljbebkooppiaaGreat.Sh
open Go Go.RowKit
noncomputable instance (l : List Vn) (n j : Nat) : Decidable (KnownN l n j) := Classical.propDecidable _
noncomputable def cellN (g : Gm) (l : List Vn) (n j : Nat) : Nat → Int := if KnownN l n j then fun a => bm fun k => decide (k < klA g a) && mayK l n a k j else fun _ => 0
noncomputable def cellsN (g : Gm) (l : List Vn) (n : Nat) : List (Nat → Int) := (List.range l.length).map (cellN g l n)
noncomputable def knownL (l : List Vn) (n : Nat) : List Bool := (List.range l.length).map fun j => decide (KnownN l n j)
theorem cellsN_len (g : Gm) (l : List Vn) (n : Nat) : (cellsN g l n).length = l.length := by simp [cellsN]
theorem knownL_len (l : List Vn) (n : Nat) : (knownL l n).length = l.length := by simp [knownL]
theorem cellsN_get (g : Gm) (l : List Vn) (n : Nat) {j : Nat} (h : j < (cellsN g l n).length) : (cellsN g l n)[j] = cellN g l n j := by simp [cellsN]
theorem knownL_get (l : List Vn) (n : Nat) {j : Nat} (h : j < (knownL l n).length) : (knownL l n)[j] = decide (KnownN l n j) := by simp [knownL]
theorem upTo_same {l : List Vn} {n j : Nat} (h : ∀ y, ¬ IsUp l n y j) : upTo l j (n + 1) = upTo l j n := by
  show (match upTo l j n with | some p => some p | none => if IsUp l n true j then some (n, true) else if IsUp l n false j then some (n, false) else none) = upTo l j n
  cases upTo l j n with
  | some p => rfl
  | none => simp only; rw [if_neg (h true), if_neg (h false)]
theorem known_zero (l : List Vn) (j : Nat) : KnownN l 0 j ↔ j = 0 := ⟨fun h => h.elim id fun ⟨i, _, hi, _⟩ => absurd hi (by omega), .inl⟩
theorem known_succ (l : List Vn) (n j : Nat) : KnownN l (n + 1) j ↔ KnownN l n j ∨ IsUp l n true j ∨ IsUp l n false j := by
  constructor
  · rintro (h | ⟨i, y, hi, hu⟩)
    · exact .inl (.inl h)
    · by_cases e : i = n
      · subst e; cases y
        · exact .inr (.inr hu)
        · exact .inr (.inl hu)
      · exact .inl (.inr ⟨i, y, by omega, hu⟩)
  · rintro ((h | ⟨i, y, hi, hu⟩) | h | h)
    · exact .inl h
    · exact .inr ⟨i, y, by omega, hu⟩
    · exact .inr ⟨n, true, by omega, h⟩
    · exact .inr ⟨n, false, by omega, h⟩
theorem cells_end {g : Gm} {l : List Vn} {n : Nat} (he : (vnAt l n).agent = -1) : cellsN g l (n + 1) = cellsN g l n ∧ knownL l (n + 1) = knownL l n := by
  have hn : ∀ j y, ¬ IsUp l n y j := fun j y h => h.1 he
  have hk : ∀ j, KnownN l (n + 1) j ↔ KnownN l n j := fun j => by rw [known_succ]; exact ⟨fun h => h.elim id fun h => h.elim (fun h => absurd h (hn j _)) (fun h => absurd h (hn j _)), .inl⟩
  have hm : ∀ a k d j, mayM l (n + 1) a k d j = mayM l n a k d j := fun a k d => by
    induction d with
    | zero => intro j; rfl
    | succ d ih =>
      intro j
      unfold mayM
      rw [upTo_same (hn j)]
      cases upTo l j n with
      | none => rfl
      | some p => simp only [ih]
  have hc : ∀ j, cellN g l (n + 1) j = cellN g l n j := fun j => by
    unfold cellN
    simp only [mayK, hm]
    by_cases c : KnownN l n j
    · rw [if_pos c, if_pos ((hk j).2 c)]
    · rw [if_neg c, if_neg (fun h => c ((hk j).1 h))]
  exact ⟨by unfold cellsN; exact List.map_congr_left fun j _ => hc j, by unfold knownL; exact List.map_congr_left fun j _ => by rw [decide_eq_decide]; exact hk j⟩
theorem cellN_known {g : Gm} {l : List Vn} {n j : Nat} (h : KnownN l n j) (a : Nat) : cellN g l n j a = bm fun k => decide (k < klA g a) && mayK l n a k j := by unfold cellN; rw [if_pos h]
theorem cells_ask {g : Gm} (hf : Fine g) {l : List Vn} {n a : Nat} (hall : ∀ i, i < n → StepOk g l i) (hs : StepOk g l n) (hn : n < l.length) (ha : AskN g l n a) {y o : Nat} (hy : (vnAt l n).yes = (y : Int)) (ho : (vnAt l n).no = (o : Int)) :
    cellsN g l (n + 1) = ((cellsN g l n).set y fun x => if x = a then bm (hasK (vnAt l n).part) else cellN g l n n x).set o (fun x => if x = a then bitsOf .andNot .u8 (cellN g l n n a) (bm (hasK (vnAt l n).part)) else cellN g l n n x) ∧
    knownL l (n + 1) = ((knownL l n).set y true).set o true := by
  have hL := steps_links (n + 1) hn (fun i hi => by
    by_cases e : i = n
    · subst e; exact hs
    · exact hall i (by omega))
  have hkn : ∀ i, i < n → KnownN l n i := fun i hi => by
    rcases (hall i hi).known with e | ⟨i', y', h2, h3⟩
    · exact .inl e
    · exact .inr ⟨i', y', by omega, h3⟩
  have hq : (vnAt l n).agent ≠ -1 := by rw [ha.ag]; omega
  have uy : IsUp l n true y := ⟨hq, by simpa using hy⟩
  have uo : IsUp l n false o := ⟨hq, by simpa using ho⟩
  have hyo : y ≠ o := fun e => ha.no.2.2 (by rw [hy, ho, e])
  have hup : ∀ j, KnownN l (n + 1) j ↔ KnownN l n j ∨ j = y ∨ j = o := fun j => by
    rw [known_succ]
    refine ⟨fun h => h.elim .inl fun h => .inr (h.elim (fun h => .inl ?_) (fun h => .inr ?_)), fun h => h.elim .inl fun h => .inr (h.elim (fun e => .inl (by subst e; exact uy)) (fun e => .inr (by subst e; exact uo)))⟩
    · have := h.2; simp only [if_true] at this; omega
    · have := h.2; simp only [Bool.false_eq_true, if_false] at this; omega
  have hsame : ∀ a' k j, KnownN l n j → mayK l (n + 1) a' k j = mayK l n a' k j := fun a' k j hj => mayM_mono hL (by omega) a' k j j hkn hj
  have row : ∀ b j, IsUp l n b j → ∀ x, cellN g l (n + 1) j x = if x = a then bm (fun k => decide (k < klA g a) && ((hasK (vnAt l n).part k == b) && mayK l n a k n)) else cellN g l n n x := fun b j hu x => by
    have hkj : KnownN l (n + 1) j := .inr ⟨n, b, by omega, hu⟩
    rw [cellN_known hkj, cellN_known hs.known]
    by_cases e : x = a
    · subst e
      rw [if_pos rfl]
      refine bm_congr fun k hk => ?_
      rw [hL.mayUp x k (by omega) hu, if_pos ha.ag, hsame x k n hs.known]
    · rw [if_neg e]
      refine bm_congr fun k hk => ?_
      rw [hL.mayUp x k (by omega) hu, if_neg (by rw [ha.ag]; omega), Bool.true_and, hsame x k n hs.known]
  have rowY : cellN g l (n + 1) y = fun x => if x = a then bm (hasK (vnAt l n).part) else cellN g l n n x := funext fun x => by
    rw [row true y uy x]
    by_cases e : x = a
    · subst e
      rw [if_pos rfl, if_pos rfl]
      refine bm_congr fun k hk => ?_
      cases c : hasK (vnAt l n).part k with
      | false => simp
      | true =>
        have hkl : k < klA g x := by
          unfold hasK at c
          obtain ⟨i, hi, e⟩ := List.getElem_of_mem (of_decide_eq_true c)
          have := (ha.rise i hi).2.1
          omega
        rw [ha.sub k hkl c]; simp [hkl]
    · rw [if_neg e, if_neg e]
  have rowO : cellN g l (n + 1) o = fun x => if x = a then bitsOf .andNot .u8 (cellN g l n n a) (bm (hasK (vnAt l n).part)) else cellN g l n n x := funext fun x => by
    rw [row false o uo x]
    by_cases e : x = a
    · subst e
      rw [if_pos rfl, if_pos rfl, cellN_known hs.known, bm_andNot]
      refine bm_congr fun k hk => ?_
      cases hasK (vnAt l n).part k <;> simp
    · rw [if_neg e, if_neg e]
  constructor
  · refine List.ext_getElem (by simp [cellsN]) fun j h1 h2 => ?_
    have hj : j < l.length := by simpa [cellsN] using h1
    rw [List.getElem_set, List.getElem_set, cellsN_get, cellsN_get]
    by_cases e1 : o = j
    · rw [if_pos e1, ← e1, rowO]
    · rw [if_neg e1]
      by_cases e2 : y = j
      · rw [if_pos e2, ← e2, rowY]
      · rw [if_neg e2]
        unfold cellN
        by_cases c : KnownN l n j
        · rw [if_pos c, if_pos ((hup j).2 (.inl c))]
          exact funext fun x => bm_congr fun k hk => by rw [hsame x k j c]
        · rw [if_neg c, if_neg (fun h => by rcases (hup j).1 h with h | h | h; exact c h; exact e2 h.symm; exact e1 h.symm)]
  · refine List.ext_getElem (by simp [knownL]) fun j h1 h2 => ?_
    rw [List.getElem_set, List.getElem_set, knownL_get, knownL_get]
    by_cases e1 : o = j
    · rw [if_pos e1, ← e1]; exact decide_eq_true ((hup o).2 (.inr (.inr rfl)))
    · rw [if_neg e1]
      by_cases e2 : y = j
      · rw [if_pos e2, ← e2]; exact decide_eq_true ((hup y).2 (.inr (.inl rfl)))
      · rw [if_neg e2, decide_eq_decide, hup]
        exact ⟨fun h => h.elim id fun h => h.elim (fun h => absurd h.symm e2) (fun h => absurd h.symm e1), .inl⟩
theorem cells_zero (g : Gm) (l : List Vn) (h : 0 < l.length) : cellsN g l 0 = (List.replicate l.length fun _ => (0 : Int)).set 0 (wholeF g) ∧ knownL l 0 = (List.replicate l.length false).set 0 true := by
  constructor
  · refine List.ext_getElem (by simp [cellsN]) fun j h1 h2 => ?_
    rw [cellsN_get, List.getElem_set]
    by_cases e : 0 = j
    · subst e
      rw [if_pos rfl]
      exact funext fun a => by
        rw [cellN_known (.inl rfl)]
        exact bm_congr fun k hk => by rw [mayK_root, Bool.and_true]
    · rw [if_neg e, List.getElem_replicate]
      unfold cellN
      rw [if_neg (fun hh => e ((known_zero l j).1 hh).symm)]
  · refine List.ext_getElem (by simp [knownL]) fun j h1 h2 => ?_
    rw [knownL_get, List.getElem_set]
    by_cases e : 0 = j
    · subst e; rw [if_pos rfl]; exact decide_eq_true (.inl rfl)
    · rw [if_neg e, List.getElem_replicate]
      exact decide_eq_false fun hh => e ((known_zero l j).1 hh).symm
end Go.Proofs.YtaljbebkooppiaaGreat.Sh

namespace Go.Proofs.YtaljbebkooppiaaGreat.Sh
open Go Go.RowKit
def LinkI (l : List Vn) (i : Nat) : Prop := (vnAt l i).agent ≠ -1 → ((i : Int) < (vnAt l i).yes ∧ (vnAt l i).yes < (l.length : Int)) ∧ ((i : Int) < (vnAt l i).no ∧ (vnAt l i).no < (l.length : Int)) ∧ (vnAt l i).yes ≠ (vnAt l i).no ∧ upTo l (vnAt l i).yes.toNat i = none ∧ upTo l (vnAt l i).no.toNat i = none
theorem linksTo_iff {l : List Vn} : ∀ n, LinksTo l n ↔ ∀ i, i < n → LinkI l i
  | 0 => ⟨fun _ i hi => absurd hi (by omega), fun _ => ⟨fun i hi => absurd hi (by omega), fun i i' y y' j hi => absurd hi (by omega)⟩⟩
  | n + 1 => by
    have ih := linksTo_iff (l := l) n
    constructor
    · intro h i hi hq
      obtain ⟨r1, r2, r3⟩ := h.rng i hi hq
      have no : ∀ (y : Bool) (j : Nat), IsUp l i y j → upTo l j i = none := fun y j hu => by
        cases e : upTo l j i with
        | none => rfl
        | some p =>
          obtain ⟨h1, h2⟩ := upTo_some e
          have := (h.uniq _ _ _ _ _ (by omega) hi h2 hu).1
          omega
      exact ⟨r1, r2, r3, no true _ ⟨hq, by simp; omega⟩, no false _ ⟨hq, by simp; omega⟩⟩
    · intro h
      have hL := ih.2 (fun i hi => h i (by omega))
      have hn := h n (by omega)
      have hr : (vnAt l n).agent ≠ -1 → ((n : Int) < (vnAt l n).yes ∧ (vnAt l n).yes < (l.length : Int)) ∧ ((n : Int) < (vnAt l n).no ∧ (vnAt l n).no < (l.length : Int)) ∧ (vnAt l n).yes ≠ (vnAt l n).no := fun hq => ⟨(hn hq).1, (hn hq).2.1, (hn hq).2.2.1⟩
      have old : ∀ i y y' j, i < n → IsUp l i y j → IsUp l n y' j → False := fun i y y' j hi h1 h2 => by
        obtain ⟨-, -, -, u1, u2⟩ := hn h2.1
        have h3 := h2.2
        cases y' with
        | true =>
          simp only [if_true] at h3
          rw [h3, Int.toNat_natCast] at u1
          exact upTo_none u1 i y hi h1
        | false =>
          simp only [Bool.false_eq_true, if_false] at h3
          rw [h3, Int.toNat_natCast] at u2
          exact upTo_none u2 i y hi h1
      refine ⟨fun i hi hq => ?_, fun i i' y y' j hi hi' h1 h2 => ?_⟩
      · by_cases e : i = n
        · subst e; exact hr hq
        · exact hL.rng i (by omega) hq
      · by_cases e : i = n
        · by_cases e' : i' = n
          · subst e; subst e'
            refine ⟨rfl, ?_⟩
            have h3 := h1.2
            have h4 := h2.2
            have h5 := (hr h1.1).2.2
            cases y <;> cases y' <;> simp at h3 h4 <;> first | rfl | omega
          · subst e; exact absurd h1 (fun h1 => old i' y' y j (by omega) h2 h1)
        · by_cases e' : i' = n
          · subst e'; exact absurd h2 (fun h2 => old i y y' j (by omega) h1 h2)
          · exact hL.uniq i i' y y' j (by omega) (by omega) h1 h2
def parN (l : List Vn) (n j : Nat) : Int := match upTo l j n with
  | some p => (p.1 : Int)
  | none => -1
def yesN (l : List Vn) (n j : Nat) : Bool := match upTo l j n with
  | some p => p.2
  | none => false
def parL (l : List Vn) (n : Nat) : List Int := (List.range l.length).map (parN l n)
def yesL (l : List Vn) (n : Nat) : List Bool := (List.range l.length).map (yesN l n)
theorem parL_len (l : List Vn) (n : Nat) : (parL l n).length = l.length := by simp [parL]
theorem yesL_len (l : List Vn) (n : Nat) : (yesL l n).length = l.length := by simp [yesL]
theorem parL_get (l : List Vn) (n : Nat) {j : Nat} (h : j < (parL l n).length) : (parL l n)[j] = parN l n j := by simp [parL]
theorem yesL_get (l : List Vn) (n : Nat) {j : Nat} (h : j < (yesL l n).length) : (yesL l n)[j] = yesN l n j := by simp [yesL]
theorem parL_zero (l : List Vn) : parL l 0 = List.replicate l.length (-1) ∧ yesL l 0 = List.replicate l.length false := by
  constructor
  · refine List.ext_getElem (by simp [parL]) fun j h1 h2 => by rw [parL_get, List.getElem_replicate]; rfl
  · refine List.ext_getElem (by simp [yesL]) fun j h1 h2 => by rw [yesL_get, List.getElem_replicate]; rfl
theorem parN_lt {l : List Vn} {n j : Nat} : parN l n j < 0 ↔ upTo l j n = none := by
  unfold parN
  cases e : upTo l j n with
  | none => simp
  | some p => simp
theorem par_end {l : List Vn} {n : Nat} (he : (vnAt l n).agent = -1) : parL l (n + 1) = parL l n ∧ yesL l (n + 1) = yesL l n := by
  have h : ∀ j, upTo l j (n + 1) = upTo l j n := fun j => upTo_same fun y hu => hu.1 he
  exact ⟨by unfold parL; exact List.map_congr_left fun j _ => by unfold parN; rw [h], by unfold yesL; exact List.map_congr_left fun j _ => by unfold yesN; rw [h]⟩
theorem par_ask {l : List Vn} {n y o : Nat} (hq : (vnAt l n).agent ≠ -1) (hy : (vnAt l n).yes = (y : Int)) (ho : (vnAt l n).no = (o : Int)) (hL : LinkI l n) : parL l (n + 1) = ((parL l n).set y (n : Int)).set o (n : Int) ∧ yesL l (n + 1) = (yesL l n).set y true := by
  obtain ⟨-, -, h3, h4, h5⟩ := hL hq
  rw [hy, Int.toNat_natCast] at h4
  rw [ho, Int.toNat_natCast] at h5
  have hyo : y ≠ o := fun e => h3 (by rw [hy, ho, e])
  have hu : ∀ j, upTo l j (n + 1) = if j = y then some (n, true) else if j = o then some (n, false) else upTo l j n := fun j => by
    by_cases e1 : j = y
    · subst e1
      rw [if_pos rfl]
      show (match upTo l j n with | some p => some p | none => if IsUp l n true j then some (n, true) else if IsUp l n false j then some (n, false) else none) = _
      rw [h4]
      exact if_pos ⟨hq, by simpa using hy⟩
    · rw [if_neg e1]
      have n1 : ¬ IsUp l n true j := fun h => e1 (by have := h.2; simp only [if_true] at this; omega)
      by_cases e2 : j = o
      · subst e2
        rw [if_pos rfl]
        show (match upTo l j n with | some p => some p | none => if IsUp l n true j then some (n, true) else if IsUp l n false j then some (n, false) else none) = _
        rw [h5]
        simp only
        rw [if_neg n1, if_pos ⟨hq, by simpa using ho⟩]
      · rw [if_neg e2]
        refine upTo_same fun b h => ?_
        cases b
        · exact e2 (by have := h.2; simp only [Bool.false_eq_true, if_false] at this; omega)
        · exact n1 h
  constructor
  · refine List.ext_getElem (by simp [parL]) fun j h1 h2 => ?_
    rw [List.getElem_set, List.getElem_set, parL_get, parL_get]
    unfold parN
    rw [hu j]
    by_cases e1 : o = j
    · subst e1; rw [if_pos rfl, if_neg (fun e => hyo e.symm), if_pos rfl]
    · rw [if_neg e1]
      by_cases e2 : y = j
      · subst e2; rw [if_pos rfl, if_pos rfl]
      · rw [if_neg e2, if_neg (fun e => e2 e.symm), if_neg (fun e => e1 e.symm)]
  · refine List.ext_getElem (by simp [yesL]) fun j h1 h2 => ?_
    rw [List.getElem_set, yesL_get, yesL_get]
    unfold yesN
    rw [hu j]
    by_cases e2 : y = j
    · subst e2; rw [if_pos rfl, if_pos rfl]
    · rw [if_neg e2, if_neg (fun e => e2 e.symm)]
      by_cases e1 : j = o
      · subst e1; rw [if_pos rfl, h5]
      · rw [if_neg e1]
theorem links_to (l : List Vn) : ∃ i, i ≤ l.length ∧ (∀ j, j < i → LinkI l j) ∧ (i < l.length → ¬ LinkI l i) := by
  by_cases h : ∃ i, i < l.length ∧ ¬ LinkI l i
  · obtain ⟨i, hi, hn⟩ := h
    induction i using Nat.strongRecOn with
    | _ i ih =>
      by_cases hm : ∃ m, m < i ∧ ¬ LinkI l m
      · obtain ⟨m, h1, h2⟩ := hm; exact ih m h1 (by omega) h2
      · exact ⟨i, by omega, fun j hj => Classical.byContradiction fun hc => hm ⟨j, hj, hc⟩, fun _ => hn⟩
  · exact ⟨l.length, Nat.le_refl _, fun j hj => Classical.byContradiction fun hc => h ⟨j, hj, hc⟩, fun h => absurd h (by omega)⟩
theorem links_iff {l : List Vn} {i : Nat} (h1 : i ≤ l.length) (h2 : ∀ j, j < i → LinkI l j) (h3 : i < l.length → ¬ LinkI l i) : Links l ↔ i = l.length ∧ ∀ j, 0 < j → j < l.length → ¬ parN l l.length j < 0 := by
  constructor
  · intro h
    have e : i = l.length := Classical.byContradiction fun hc => h3 (by omega) ((linksTo_iff l.length).1 h.1 i (by omega))
    refine ⟨e, fun j hj hjl hp => ?_⟩
    obtain ⟨i', y, hi', hu⟩ := h.2 j hj hjl
    exact upTo_none (parN_lt.1 hp) i' y hi' hu
  · rintro ⟨e, h4⟩
    refine ⟨(linksTo_iff l.length).2 (by rw [← e]; exact h2), fun j hj hjl => ?_⟩
    have := h4 j hj hjl
    rw [parN_lt] at this
    cases e : upTo l j l.length with
    | none => exact absurd e this
    | some p => obtain ⟨h5, h6⟩ := upTo_some e; exact ⟨p.1, p.2, h5, h6⟩
/-! ### Lists of kinds that rise -/
theorem rise_nat {n : Nat} {l : List Int} (h : RiseK n l) : (l.map Int.toNat).Nodup ∧ ∀ x ∈ l, 0 ≤ x ∧ x < (n : Int) := by
  have hb : ∀ x ∈ l, 0 ≤ x ∧ x < (n : Int) := fun x hx => by obtain ⟨i, hi, rfl⟩ := List.getElem_of_mem hx; exact ⟨(h i hi).1, (h i hi).2.1⟩
  have hlt : ∀ j i (hi : i < l.length) (hj : j < i), l[j]'(by omega) < l[i] := fun j i => by
    induction i with
    | zero => intro hi hj; omega
    | succ i ih =>
      intro hi hj
      have h1 := (h (i + 1) hi).2.2 (by omega)
      simp only [Nat.add_sub_cancel] at h1
      by_cases e : j = i
      · subst e; exact h1
      · exact Int.lt_trans (ih (by omega) (by omega)) h1
  refine ⟨?_, hb⟩
  rw [List.Nodup, List.pairwise_map, List.pairwise_iff_getElem]
  intro i j hi hj hij e
  have h1 := hlt i j hj hij
  have h2 := (h i hi).1
  have h3 := (h j hj).1
  omega
theorem rise_count {n : Nat} {l : List Int} (h : RiseK n l) : l.length = ((List.range n).filter (hasK l)).length := by
  obtain ⟨h1, h2⟩ := rise_nat h
  have hp : (l.map Int.toNat).Perm ((List.range n).filter (hasK l)) := by
    refine (List.perm_ext_iff_of_nodup h1 (List.Pairwise.filter _ List.nodup_range)).2 fun k => ?_
    rw [List.mem_map, List.mem_filter, List.mem_range]
    unfold hasK
    constructor
    · rintro ⟨x, hx, rfl⟩
      have := h2 x hx
      exact ⟨by omega, decide_eq_true (by rw [Int.toNat_of_nonneg this.1]; exact hx)⟩
    · rintro ⟨_, hk⟩
      exact ⟨(k : Int), of_decide_eq_true hk, by simp⟩
  have := hp.length_eq
  simpa using this
theorem filter_more {α : Type} {p q : α → Bool} : ∀ (l : List α), (∀ x ∈ l, p x = true → q x = true) → (l.filter p).length ≤ (l.filter q).length ∧ ((l.filter p).length < (l.filter q).length ↔ ∃ x ∈ l, q x = true ∧ p x = false)
  | [], _ => by simp
  | x :: l, h => by
    obtain ⟨i1, i2⟩ := filter_more (p := p) (q := q) l (fun y hy => h y (List.mem_cons_of_mem _ hy))
    have hx := h x (List.mem_cons_self ..)
    cases hp : p x with
    | true =>
      rw [List.filter_cons_of_pos hp, List.filter_cons_of_pos (hx hp), List.length_cons, List.length_cons]
      refine ⟨by omega, ?_⟩
      rw [Nat.add_lt_add_iff_right, i2]
      simp [hp]
    | false =>
      rw [List.filter_cons_of_neg (by simp [hp])]
      cases hq : q x with
      | true =>
        rw [List.filter_cons_of_pos hq, List.length_cons]
        exact ⟨by omega, fun _ => ⟨x, by simp, hq, hp⟩, fun _ => by omega⟩
      | false =>
        rw [List.filter_cons_of_neg (by simp [hq])]
        refine ⟨i1, ?_⟩
        rw [i2]
        simp [hq]
end Go.Proofs.YtaljbebkooppiaaGreat.Sh

namespace Go.Proofs.YtaljbebkooppiaaGreat.Sh
open Go Go.RowKit
@[simp] def rowBo (b : Bool) : List S1 := [.bool b]
instance : RowF 1 rowBo := ⟨fun _ => rfl, fun x s h => by simp at h; subst h; rfl⟩
theorem flat_bo (l : List Bool) : flat rowBo l = l.map S1.bool := by
  induction l with
  | nil => rfl
  | cons x l ih => rw [flat_cons (e := 1), ih]; rfl
theorem flat_get4 (L : List (Nat → Int)) {i a : Nat} (hi : i < L.length) (ha : a < 4) : (flat rowCb L)[i * 4 + a]? = some (.int .u8 (L[i] a)) := by
  have h := flat_row (f := rowCb) L i hi
  have h2 : (((flat rowCb L).drop (i * 4)).take 4)[a]? = (flat rowCb L)[i * 4 + a]? := by
    rw [List.getElem?_take, if_pos ha, List.getElem?_drop]
  rw [← h2, h]
  match a, ha with
  | 0, _ => rfl
  | 1, _ => rfl
  | 2, _ => rfl
  | 3, _ => rfl
def cellRows (g : Gm) (l : List Vn) : List (Nat → Int) := (List.range l.length).map fun j a => bm fun k => decide (k < klA g a) && mayB l a k j
theorem set4_flat {f : (Nat → Int) → List S1} [RowF 4 f] (l : List (Nat → Int)) (i : Nat) (x : Nat → Int) {a b c d : S1} (hx : f x = [a, b, c, d]) (h : i < l.length) : ((((flat f l).set (i * 4) a).set (i * 4 + 1) b).set (i * 4 + 1 + 1) c).set (i * 4 + 1 + 1 + 1) d = flat f (l.set i x) := by
  rw [← putL_flat l i x h, hx]; rfl
noncomputable def stepC (g : Gm) (l : List Vn) (i a y o : Nat) : Nat → List (Nat → Int)
  | 0 => cellsN g l i
  | 1 => (cellsN g l i).set y fun x => if x = a then bm (hasK (vnAt l i).part) else cellN g l i i x
  | _ => ((cellsN g l i).set y fun x => if x = a then bm (hasK (vnAt l i).part) else cellN g l i i x).set o fun x => if x = a then bitsOf .andNot .u8 (cellN g l i i a) (bm (hasK (vnAt l i).part)) else cellN g l i i x
noncomputable def stepK (l : List Vn) (i y o : Nat) : Nat → List Bool
  | 0 => knownL l i
  | 1 => (knownL l i).set y true
  | _ => ((knownL l i).set y true).set o true
theorem stepC_len (g : Gm) (l : List Vn) (i a y o q : Nat) : (stepC g l i a y o q).length = l.length := by
  unfold stepC; split <;> simp [cellsN_len]
theorem stepK_len (l : List Vn) (i y o q : Nat) : (stepK l i y o q).length = l.length := by
  unfold stepK; split <;> simp [knownL_len]
theorem stepK_one (l : List Vn) (i y o : Nat) {j : Nat} (h : j < (stepK l i y o 1).length) : (stepK l i y o 1)[j] = decide (j = y ∨ KnownN l i j) := by
  have h' : j < ((knownL l i).set y true).length := h
  have e : (stepK l i y o 1)[j]'h = ((knownL l i).set y true)[j]'h' := rfl
  rw [e, List.getElem_set]
  by_cases e : y = j
  · rw [if_pos e]; exact (decide_eq_true (.inl e.symm)).symm
  · rw [if_neg e, knownL_get, decide_eq_decide]
    exact ⟨.inr, fun h => h.elim (fun h => absurd h.symm e) id⟩
theorem stepC_one (g : Gm) (l : List Vn) (i a y o : Nat) {j : Nat} (h : j < (stepC g l i a y o 1).length) (hn : y ≠ j) : (stepC g l i a y o 1)[j] = cellN g l i j := by
  have h' : j < ((cellsN g l i).set y fun x => if x = a then bm (hasK (vnAt l i).part) else cellN g l i i x).length := h
  have e : (stepC g l i a y o 1)[j]'h = ((cellsN g l i).set y fun x => if x = a then bm (hasK (vnAt l i).part) else cellN g l i i x)[j]'h' := rfl
  rw [e, List.getElem_set, if_neg hn, cellsN_get]
theorem i64_2 : IntKind.i64.wrap 2 = 2 := by decide
theorem askN_of {g : Gm} {l : List Vn} {i a : Nat} (hi : i < l.length) (hf : Fine g) (c0 : KnownN l i i) (ea : l[i].agent = (a : Int)) (la : a < g.agents.length) (hr : RiseK (klA g a) l[i].part) (h1 : ¬ bm (hasK l[i].part) = 0) (h2 : bitsOf .andNot .u8 (bm (hasK l[i].part)) (cellN g l i i a) = 0) (h3 : ¬ bm (hasK l[i].part) = cellN g l i i a)
    (hy : ((i : Int) < (vnAt l i).yes ∧ (vnAt l i).yes < (l.length : Int)) ∧ ∀ j : Nat, (vnAt l i).yes = (j : Int) → ¬ KnownN l i j) (ho : ((i : Int) < (vnAt l i).no ∧ (vnAt l i).no < (l.length : Int)) ∧ (∀ j : Nat, (vnAt l i).no = (j : Int) → ¬ KnownN l i j) ∧ (vnAt l i).no ≠ (vnAt l i).yes) : AskN g l i a := by
  rw [cellN_known c0, bm_sub] at h2
  rw [cellN_known c0, bm_eq] at h3
  have k4 := hf.klA4 a
  have hlt : ∀ k, hasK l[i].part k = true → k < klA g a := fun k hk => by
    unfold hasK at hk
    obtain ⟨j, hj, e⟩ := List.getElem_of_mem (of_decide_eq_true hk)
    have := (hr j hj).2.1
    omega
  have hm : ∃ k, k < 4 ∧ hasK l[i].part k ≠ (decide (k < klA g a) && mayK l i a k i) := Classical.byContradiction fun hc => h3 fun k hk => Classical.byContradiction fun hn => hc ⟨k, hk, hn⟩
  refine ⟨by rw [vnAt_eq hi]; exact ea, la, ?_, by rw [vnAt_eq hi]; exact hr, ?_, ?_, hy, ho⟩
  · rw [vnAt_eq hi]; intro e; rw [e] at h1; exact h1 rfl
  · rw [vnAt_eq hi]
    intro k hk hp
    have := h2 k (by omega) hp
    simpa [hk] using this
  · rw [vnAt_eq hi]
    obtain ⟨k, k1, k2⟩ := hm
    have hsub := h2 k k1
    cases e : hasK l[i].part k with
    | true => rw [e] at k2; rw [hsub e] at k2; exact absurd rfl k2
    | false =>
      rw [e] at k2
      have : (decide (k < klA g a) && mayK l i a k i) = true := by
        cases h' : (decide (k < klA g a) && mayK l i a k i) with
        | true => rfl
        | false => rw [h'] at k2; exact absurd rfl k2
      rw [Bool.and_eq_true, decide_eq_true_iff] at this
      exact ⟨k, this.1, this.2, e⟩
theorem askN_to {g : Gm} {l : List Vn} {i a : Nat} (hi : i < l.length) (hf : Fine g) (c0 : KnownN l i i) (ha : AskN g l i a) : RiseK (klA g a) l[i].part ∧ ¬ bm (hasK l[i].part) = 0 ∧ bitsOf .andNot .u8 (bm (hasK l[i].part)) (cellN g l i i a) = 0 ∧ ¬ bm (hasK l[i].part) = cellN g l i i a := by
  have k4 := hf.klA4 a
  obtain ⟨-, -, g3, g4, g5, ⟨k, g6, g7, g8⟩, -, -⟩ := ha
  rw [vnAt_eq hi] at g3 g4 g5 g8
  have hlt : ∀ k, hasK l[i].part k = true → k < klA g a := fun k hk => by
    unfold hasK at hk
    obtain ⟨j, hj, e⟩ := List.getElem_of_mem (of_decide_eq_true hk)
    have := (g4 j hj).2.1
    omega
  refine ⟨g4, fun e => ?_, ?_, fun e => ?_⟩
  · rw [bm_zero] at e
    cases hp : l[i].part with
    | nil => exact g3 hp
    | cons x r =>
      have h0 := g4 0 (by rw [hp]; simp)
      have ex : l[i].part[0]'(by rw [hp]; simp) = x := by simp [hp]
      rw [ex] at h0
      have := e x.toNat (by omega)
      unfold hasK at this
      rw [show ((x.toNat : Nat) : Int) = x by omega, hp] at this
      simp at this
  · rw [cellN_known c0, bm_sub]
    intro k hk hp
    rw [g5 k (hlt k hp) hp]; simp [hlt k hp]
  · rw [cellN_known c0, bm_eq] at e
    have := e k (by omega)
    rw [g7, g8] at this
    simp [g6] at this
set_option maxRecDepth 20000 in
set_option maxHeartbeats 2000000 in
theorem vcells_s (g : Gm) (h : Fine g) (l : List Vn) (hl : l.length ≤ 1048576) (hv : NearV l) : ∀ b, (b = true ↔ TreeOk g l) → CallsS Tryz.prog 54 [gmS g, viS l] (if b then .tup [.one (.sl true 4 ((cellRows g l).map rowCb)), .one (.bool true)] else .tup [.one .nils, .one (.bool false)]) := by
  intro b hb
  obtain ⟨h1, -, -, h4, -⟩ := sizeOk_all h.sz
  refine calls Tryz.func54 rfl (by rfl) (by rfl) (by kernel_rfl) ?_
  by_cases l0 : l.length < 1
  · have hb' := nf hb (fun h => by have := h.pos; omega)
    have l0' : (l.length : Int) < 1 := by omega
    simp -dsimp -implicitDefEqProofs [Tryz.f54, l0, l0', hb']
  by_cases l2 : 200 < l.length
  · have hb' := nf hb (fun h => by have := h.len; omega)
    have l0' : ¬ (l.length : Int) < 1 := by omega
    have l2' : (200 : Int) < (l.length : Int) := by omega
    simp -dsimp -implicitDefEqProofs [Tryz.f54, l0, l0', l2, l2', hb']
  have l0' : ¬ (l.length : Int) < 1 := by omega
  have l2' : ¬ (200 : Int) < (l.length : Int) := by omega
  have l0'' : 0 < l.length := by omega
  have hti := tree_iff (g := g) (l := l) l0'' (by omega)
  obtain ⟨z1, z2⟩ := cells_zero g l l0''
  simp -dsimp -implicitDefEqProofs [Tryz.f54, l0, l0', l2, l2']
  refine ⟨by omega, by omega, ?_⟩
  refine eCall.of (vwhole_s g h) (by simp) ?_
  simp -dsimp -implicitDefEqProofs [l0, l0'']
  refine ⟨by omega, by omega, ?_⟩
  have hz1 : ((((List.replicate l.length [S1.int .u8 0, S1.int .u8 0, S1.int .u8 0, S1.int .u8 0]).flatten.set 0 (.int .u8 (wholeF g 0))).set 1 (.int .u8 (wholeF g 1))).set 2 (.int .u8 (wholeF g 2))).set 3 (.int .u8 (wholeF g 3)) = flat rowCb (cellsN g l 0) := by
    rw [z1]
    have e : (List.replicate l.length [S1.int .u8 0, S1.int .u8 0, S1.int .u8 0, S1.int .u8 0]).flatten = flat rowCb (List.replicate l.length fun _ => (0 : Int)) := by simp [flat]
    rw [e, ← putL_flat (f := rowCb) _ 0 (wholeF g) (by simpa using l0'')]
    rfl
  have hz2 : (List.replicate l.length (S1.bool false)).set 0 (.bool true) = (knownL l 0).map S1.bool := by
    rw [z2, List.map_set, List.map_replicate]
  refine sw_loop_e (fun q : {q : Nat × Nat // q.1 ≤ l.length ∧ ∀ i, i < q.1 → StepOk g l i} => SS.of [(2, .v (.one (.mp 0 0))), (3, .v (.one (.mp 1 0))), (6, I .i64 l.length), (7, .v (.one (.ms 2 0 l.length 4 true))), (8, .v (.one (.ms 3 0 l.length 1 true))), (37, .v (.one (vnsS l))), (38, I .i64 l.length), (39, I .i64 q.1.1)] [(0, ⟨31, rowGm g⟩), (1, ⟨34, [vnsS l]⟩), (2, ⟨113, flat rowCb (cellsN g l q.1.1)⟩), (3, ⟨4, (knownL l q.1.1).map S1.bool⟩)] (q.1.2 + 4))
    (fun q => l.length - q.1.1) ⟨(0, 0), Nat.zero_le _, fun i hi => absurd hi (by omega)⟩ (by kernel_rfl) (Le.to (by simp) (by simp [hz1, hz2]) (by simp)) ?_
  rintro ⟨⟨i, c⟩, hi, hq⟩
  simp only at hi hq
  have bad : ¬ StepOk g l i → i < l.length → b = false := fun hh hil => nf hb (fun ht => hh (hti.1 ht i hil))
  by_cases a1 : i < l.length
  · have wi : IntKind.i64.wrap ((i : Int) + 1) = ((i + 1 : Nat) : Int) := by rw [wrap_i64 _ (by omega) (by omega)]; rfl
    have kl : (knownL l i).length = l.length := knownL_len l i
    have kg : (knownL l i)[i]'(by omega) = decide (KnownN l i i) := knownL_get l i (by omega)
    by_cases c0 : KnownN l i i
    · have kg' : (knownL l i)[i]'(by omega) = true := by rw [kg]; exact decide_eq_true c0
      by_cases c1 : l[i].agent = -1
      · have he := vended_s g l[i] (hv _ (List.getElem_mem a1)).1 (by omega)
        by_cases c2 : EndOk g l[i]
        · simp -dsimp -implicitDefEqProofs [a1, kl, kg', c1]
          refine eCall.of he (by simp [c1]) ?_
          simp -dsimp -implicitDefEqProofs [c2]
          have hs : StepOk g l i := ⟨c0, fun _ => by rw [vnAt_eq a1]; exact c2, fun hh => absurd c1 (by rw [vnAt_eq a1] at hh; exact hh)⟩
          obtain ⟨x1, x2⟩ := cells_end (g := g) (l := l) (n := i) (by rw [vnAt_eq a1]; exact c1)
          exact Again.by ⟨(i + 1, c + 1), a1, fun j hj => by
            by_cases e : j = i
            · subst e; exact hs
            · exact hq j (by omega)⟩ (Le.to (by simp [wi]) (by simp [x1, x2]) (by simp)) (by simp; omega)
        · have hb' := bad (fun hh => c2 (by have := hh.ends (by rw [vnAt_eq a1]; exact c1); rwa [vnAt_eq a1] at this)) a1
          simp -dsimp -implicitDefEqProofs [a1, kl, kg', c1]
          refine eCall.of he (by simp [c1]) ?_
          simp -dsimp -implicitDefEqProofs [c2, hb']
      · have hask : StepOk g l i → ∃ a, AskN g l i a := fun hh => hh.asks (by rw [vnAt_eq a1]; exact c1)
        by_cases c2 : l[i].agent < 0
        · have hb' := bad (fun hh => by obtain ⟨a, ha⟩ := hask hh; have := ha.ag; rw [vnAt_eq a1] at this; omega) a1
          simp -dsimp -implicitDefEqProofs [a1, kl, kg', c1, c2, hb']
        by_cases c3 : (g.agents.length : Int) ≤ l[i].agent
        · have hb' := bad (fun hh => by obtain ⟨a, ha⟩ := hask hh; have := ha.ag; have := ha.la; rw [vnAt_eq a1] at *; omega) a1
          simp -dsimp -implicitDefEqProofs [a1, kl, kg', c1, c2, c3, hb']
        obtain ⟨a, ea⟩ : ∃ a : Nat, l[i].agent = (a : Int) := ⟨l[i].agent.toNat, by omega⟩
        have ea1 := eq_false (show ¬ (a : Int) = -1 by omega)
        have ea2 := eq_false (show ¬ (a : Int) < 0 by omega)
        have ea3 := eq_false (show ¬ (g.agents.length : Int) ≤ (a : Int) by omega)
        have ea3' := eq_false (show ¬ g.agents.length ≤ a by omega)
        have la : a < g.agents.length := by omega
        have a4 : a < 4 := by omega
        have a4' : (a : Int) < 4 := by omega
        have cl : (cellsN g l i).length = l.length := cellsN_len g l i
        have hld : (flat rowCb (cellsN g l i))[i * 4 + a]? = some (.int .u8 (cellN g l i i a)) := by
          rw [flat_get4 _ (by omega) a4, cellsN_get]
        simp -dsimp -implicitDefEqProofs [a1, kl, kg', c1, ea, ea1, ea2, ea3, ea3', la, a4, a4', cl, hld]
        have hkle : g.agents[a].kinds.length ≤ 4 := h4 _ (List.getElem_mem la)
        have hp20 := (hv _ (List.getElem_mem a1)).2.1
        have hvs := vset_s l[i].part g.agents[a].kinds.length hkle (by omega)
        have hkA : klA g a = g.agents[a].kinds.length := klA_eq la
        have aeq : ∀ a', AskN g l i a' → a' = a := fun a' hh => by have := hh.ag; rw [vnAt_eq a1, ea] at this; omega
        refine eCall.of hvs (by simp) ?_
        by_cases c4 : RiseK g.agents[a].kinds.length l[i].part
        · rw [if_pos c4]
          simp -dsimp -implicitDefEqProofs
          by_cases c5 : bm (hasK l[i].part) = 0
          · have hb' := bad (fun hh => by obtain ⟨a', ha⟩ := hask hh; obtain rfl := aeq a' ha; exact (askN_to a1 h c0 ha).2.1 c5) a1
            simp -dsimp -implicitDefEqProofs [c5, hb']
          by_cases c6 : bitsOf .andNot .u8 (bm (hasK l[i].part)) (cellN g l i i a) = 0
          · by_cases c7 : bm (hasK l[i].part) = cellN g l i i a
            · have hb' := bad (fun hh => by obtain ⟨a', ha⟩ := hask hh; obtain rfl := aeq a' ha; exact (askN_to a1 h c0 ha).2.2.2 c7) a1
              simp -dsimp -implicitDefEqProofs [c5, c6, c7, hb']
            · simp -dsimp -implicitDefEqProofs [c5, c6, c7]
              have hy' : vnAt l i = l[i] := vnAt_eq a1
              refine sw_loop_e (fun q : {q : Nat // q ≤ 2 ∧ (1 ≤ q → ((i : Int) < l[i].yes ∧ l[i].yes < (l.length : Int)) ∧ ∀ j : Nat, l[i].yes = (j : Int) → ¬ KnownN l i j) ∧ (2 ≤ q → ((i : Int) < l[i].no ∧ l[i].no < (l.length : Int)) ∧ (∀ j : Nat, l[i].no = (j : Int) → ¬ KnownN l i j) ∧ l[i].no ≠ l[i].yes)} => SS.of [(2, .v (.one (.mp 0 0))), (3, .v (.one (.mp 1 0))), (6, I .i64 l.length), (7, .v (.one (.ms 2 0 l.length 4 true))), (8, .v (.one (.ms 3 0 l.length 1 true))), (9, I .i64 i), (10, .v (.one (.mp (c + 4) 0))), (11, I .u8 (cellN g l i i a)), (12, I .u8 (bm (hasK l[i].part))), (37, .v (.one (vnsS l))), (38, I .i64 l.length), (39, I .i64 i), (109, .v (.agg [.int .i64 l[i].yes, .int .i64 l[i].no])), (110, I .i64 q.1)] [(0, ⟨31, rowGm g⟩), (1, ⟨34, [vnsS l]⟩), (2, ⟨113, flat rowCb (stepC g l i a l[i].yes.toNat l[i].no.toNat q.1)⟩), (3, ⟨4, (stepK l i l[i].yes.toNat l[i].no.toNat q.1).map S1.bool⟩), (c + 4, ⟨110, rowVn l[i]⟩)] (c + 5))
                (fun q => 2 - q.1) ⟨0, by omega, fun h => absurd h (by omega), fun h => absurd h (by omega)⟩ (by kernel_rfl) (Le.to (by simp) (by simp [stepC, stepK, ea]) (by simp)) ?_
              rintro ⟨q, hq2, hqy, hqn⟩
              have y0 : ((i : Int) < l[i].yes ∧ l[i].yes < (l.length : Int)) → ∃ y : Nat, l[i].yes = (y : Int) ∧ i < y ∧ y < l.length := fun hh => ⟨l[i].yes.toNat, by omega, by omega, by omega⟩
              have o0 : ((i : Int) < l[i].no ∧ l[i].no < (l.length : Int)) → ∃ y : Nat, l[i].no = (y : Int) ∧ i < y ∧ y < l.length := fun hh => ⟨l[i].no.toNat, by omega, by omega, by omega⟩
              by_cases q0 : q = 0
              · subst q0
                by_cases d1 : l[i].yes ≤ (i : Int)
                · have hb' := bad (fun hh => by obtain ⟨a', ha⟩ := hask hh; have := ha.yes.1; rw [hy'] at this; omega) a1
                  simp -dsimp -implicitDefEqProofs [d1, hb']
                by_cases d2 : (l.length : Int) ≤ l[i].yes
                · have hb' := bad (fun hh => by obtain ⟨a', ha⟩ := hask hh; have := ha.yes.1; rw [hy'] at this; omega) a1
                  simp -dsimp -implicitDefEqProofs [d1, d2, hb']
                obtain ⟨y, ey, y1, y2⟩ := y0 ⟨by omega, by omega⟩
                have e1 := eq_false (show ¬ (y : Int) ≤ (i : Int) by omega)
                have e1' := eq_false (show ¬ y ≤ i by omega)
                have e2 := eq_false (show ¬ (l.length : Int) ≤ (y : Int) by omega)
                have e2' := eq_false (show ¬ l.length ≤ y by omega)
                have ky : (knownL l i)[y]'(by omega) = decide (KnownN l i y) := knownL_get l i (by omega)
                by_cases d3 : KnownN l i y
                · have hb' := bad (fun hh => by obtain ⟨a', ha⟩ := hask hh; exact ha.yes.2 y (by rw [hy']; exact ey) d3) a1
                  simp -dsimp -implicitDefEqProofs [ey, e1, e1', e2, e2', y2, kl, stepK, ky, d3, hb']
                · have hsz : 4 ≤ l.length * 4 - i * 4 := by omega
                  have hrow := flat_row (f := rowCb) (cellsN g l i) i (by omega)
                  rw [cellsN_get] at hrow
                  have hwi := vwithF_s (cellN g l i i) a a4 (bm (hasK l[i].part))
                  simp -dsimp -implicitDefEqProofs [ey, e1, e1', e2, e2', y2, kl, stepK, ky, d3, stepC, a1, cl, ea, hsz, hrow]
                  refine eCall.of hwi (by simp) ?_
                  simp -dsimp -implicitDefEqProofs [y2, cl, kl]
                  refine ⟨by omega, by omega, ?_⟩
                  have hst := set4_flat (f := rowCb) (cellsN g l i) y (fun x => if x = a then bm (hasK l[i].part) else cellN g l i i x) rfl (by omega)
                  have hst2 : (cellsN g l i).set y (fun x => if x = a then bm (hasK l[i].part) else cellN g l i i x) = stepC g l i a y l[i].no.toNat 1 := by
                    rw [← hy']; rfl
                  rw [hst2] at hst
                  have hsk : (List.map S1.bool (knownL l i)).set y (S1.bool true) = List.map S1.bool (stepK l i y l[i].no.toNat 1) := List.map_set.symm
                  have hky : ∀ j : Nat, l[i].yes = (j : Int) → ¬ KnownN l i j := fun j hj => by
                    rw [ey] at hj
                    obtain rfl : j = y := by omega
                    exact d3
                  exact Again.by ⟨1, by omega, fun _ => ⟨by omega, hky⟩, fun h => absurd h (by omega)⟩ (Le.to (by simp [i64_1, ey]) (by simp [hst, hsk, ey, ea]) (by simp)) (by simp)
              by_cases q1 : q = 1
              · subst q1
                obtain ⟨hy1, hy2⟩ := hqy (by omega)
                obtain ⟨y, ey, y1, y2⟩ := y0 hy1
                have ky0 := hy2 y ey
                by_cases d1 : l[i].no ≤ (i : Int)
                · have hb' := bad (fun hh => by obtain ⟨a', ha⟩ := hask hh; have := ha.no.1; rw [hy'] at this; omega) a1
                  simp -dsimp -implicitDefEqProofs [d1, hb']
                by_cases d2 : (l.length : Int) ≤ l[i].no
                · have hb' := bad (fun hh => by obtain ⟨a', ha⟩ := hask hh; have := ha.no.1; rw [hy'] at this; omega) a1
                  simp -dsimp -implicitDefEqProofs [d1, d2, hb']
                obtain ⟨o, eo, o1, o2⟩ := o0 ⟨by omega, by omega⟩
                have e1 := eq_false (show ¬ (o : Int) ≤ (i : Int) by omega)
                have e1' := eq_false (show ¬ o ≤ i by omega)
                have e2 := eq_false (show ¬ (l.length : Int) ≤ (o : Int) by omega)
                have e2' := eq_false (show ¬ l.length ≤ o by omega)
                have ksl : (stepK l i y o 1).length = l.length := stepK_len l i y o 1
                have csl : (stepC g l i a y o 1).length = l.length := stepC_len g l i a y o 1
                have ko : (stepK l i y o 1)[o]'(by omega) = decide (o = y ∨ KnownN l i o) := stepK_one l i y o (by omega)
                by_cases d3 : o = y ∨ KnownN l i o
                · have hb' := bad (fun hh => by
                    obtain ⟨a', ha⟩ := hask hh
                    rcases d3 with d3 | d3
                    · exact ha.no.2.2 (by rw [hy', eo, ey, d3])
                    · exact ha.no.2.1 o (by rw [hy']; exact eo) d3) a1
                  have ko' : (stepK l i y o 1)[o]'(by omega) = true := by rw [ko]; exact decide_eq_true d3
                  simp -dsimp -implicitDefEqProofs [ey, eo, e1, e1', e2, e2', o2, ksl, ko', hb']
                · have ko' : (stepK l i y o 1)[o]'(by omega) = false := by rw [ko]; exact decide_eq_false d3
                  have hsz : 4 ≤ l.length * 4 - i * 4 := by omega
                  have hrow := flat_row (f := rowCb) (stepC g l i a y o 1) i (by omega)
                  have hri : (stepC g l i a y o 1)[i]'(by omega) = cellN g l i i := stepC_one g l i a y o (by omega) (by omega)
                  rw [hri] at hrow
                  have hwi := vwithF_s (cellN g l i i) a a4 (bitsOf .andNot .u8 (cellN g l i i a) (bm (hasK l[i].part)))
                  simp -dsimp -implicitDefEqProofs [ey, eo, e1, e1', e2, e2', o2, ksl, ko', a1, csl, ea, hsz, hrow]
                  refine eCall.of hwi (by simp) ?_
                  simp -dsimp -implicitDefEqProofs [o2, csl, ksl]
                  refine ⟨by omega, by omega, ?_⟩
                  have hst := set4_flat (f := rowCb) (stepC g l i a y o 1) o (fun x => if x = a then bitsOf .andNot .u8 (cellN g l i i a) (bm (hasK l[i].part)) else cellN g l i i x) rfl (by omega)
                  have hst2 : (stepC g l i a y o 1).set o (fun x => if x = a then bitsOf .andNot .u8 (cellN g l i i a) (bm (hasK l[i].part)) else cellN g l i i x) = stepC g l i a y o 2 := by
                    rw [← hy']; rfl
                  rw [hst2] at hst
                  have hsk : (List.map S1.bool (stepK l i y o 1)).set o (S1.bool true) = List.map S1.bool (stepK l i y o 2) := List.map_set.symm
                  exact Again.by ⟨2, by omega, fun _ => ⟨hy1, hy2⟩, fun _ => ⟨by omega, fun j hj => by
                    rw [eo] at hj
                    obtain rfl : j = o := by omega
                    exact fun hh => d3 (.inr hh), fun e => d3 (.inl (by rw [eo, ey] at e; omega))⟩⟩ (Le.to (by simp [i64_2, ey, eo]) (by simp [hst, hsk, ey, eo, ea]) (by simp)) (by simp)
              obtain rfl : q = 2 := by omega
              have hN := askN_of a1 h c0 ea la (by rw [hkA]; exact c4) c5 c6 c7 (by rw [hy']; exact hqy (by omega)) (by rw [hy']; exact hqn (by omega))
              have hs : StepOk g l i := ⟨c0, fun hh => absurd (by rw [hy'] at hh; exact hh) c1, fun _ => ⟨a, hN⟩⟩
              obtain ⟨y, ey, y1, y2⟩ := y0 (hqy (by omega)).1
              obtain ⟨o, eo, o1, o2⟩ := o0 (hqn (by omega)).1
              obtain ⟨x1, x2⟩ := cells_ask h hq hs a1 hN (y := y) (o := o) (by rw [hy']; exact ey) (by rw [hy']; exact eo)
              have x1' : stepC g l i a y o 2 = cellsN g l (i + 1) := x1.symm
              have x2' : stepK l i y o 2 = knownL l (i + 1) := x2.symm
              simp -dsimp -implicitDefEqProofs [ey, eo, x1', x2']
              exact Again.by ⟨(i + 1, c + 1), a1, fun j hj => by
                by_cases e : j = i
                · subst e; exact hs
                · exact hq j (by omega)⟩ (Le.to (by simp [wi]) (by simp) (by simp)) (by simp; omega)
          · have hb' := bad (fun hh => by obtain ⟨a', ha⟩ := hask hh; obtain rfl := aeq a' ha; exact c6 (askN_to a1 h c0 ha).2.2.1) a1
            simp -dsimp -implicitDefEqProofs [c5, c6, hb']
        · have hb' := bad (fun hh => by obtain ⟨a', ha⟩ := hask hh; obtain rfl := aeq a' ha; exact c4 (by rw [← hkA]; exact (askN_to a1 h c0 ha).1)) a1
          rw [if_neg c4]
          simp -dsimp -implicitDefEqProofs [hb']
    · have kg' : (knownL l i)[i]'(by omega) = false := by rw [kg]; exact decide_eq_false c0
      have hb' := bad (fun hh => c0 hh.known) a1
      simp -dsimp -implicitDefEqProofs [a1, kl, kg', hb']
  have hi2 : i = l.length := by omega
  subst hi2
  have hT := hti.2 hq
  have hb' := hb.2 hT
  have hrow : cellsN g l l.length = cellRows g l := by
    unfold cellsN cellRows
    refine List.map_congr_left fun j hj => funext fun a => ?_
    rw [List.mem_range] at hj
    rw [cellN_known (hq j hj |>.known |> fun hk => by
      rcases hk with e | ⟨i', y, h2, h3⟩
      · exact .inl e
      · exact .inr ⟨i', y, by omega, h3⟩)]
    exact bm_congr fun k hk => by rw [hT.links.mayK a k hj]
  have hcr : (cellRows g l).length = l.length := by simp [cellRows]
  simp -dsimp -implicitDefEqProofs [hb', hrow, hcr]
end Go.Proofs.YtaljbebkooppiaaGreat.Sh

namespace Go.Proofs.YtaljbebkooppiaaGreat.Sh
open Go Go.RowKit
theorem flat_in (l : List Int) : flat rowInt l = l.map (S1.int .i64) := by
  induction l with
  | nil => rfl
  | cons x l ih => rw [flat_cons (e := 1), ih]; rfl
@[simp] def boolsS (l : List Bool) : S1 := .sl true 1 (l.map rowBo)
@[simp] def rowUp (l : List Vn) (n : Nat) : List S1 := [intsS (parL l n), boolsS (yesL l n)]
@[simp] def upS (l : List Vn) (n : Nat) : SV := .agg (rowUp l n)
@[simp] theorem frz_comp_bool (o : Nat) (cs : List S1) : S1.close ∘ S1.frz o cs ∘ S1.bool = S1.bool := rfl
theorem rows_bo (L : List Bool) (n : Nat) (h : n = L.length) : rowsOf (L.map S1.bool) 0 1 n = L.map rowBo := by
  rw [← flat_bo]; exact rowsOf_flat L n h
set_option maxRecDepth 20000 in
set_option maxHeartbeats 2000000 in
theorem rups_s (l : List Vn) (h0 : 0 < l.length) (hl : l.length ≤ 1048576) (hv : NearV l) (m : Nat) (m1 : m ≤ l.length) (m2 : ∀ j, j < m → LinkI l j) (m3 : m < l.length → ¬ LinkI l m) : ∀ b, (b = true ↔ Links l) →
    CallsS Tryz.prog 77 [viS l] (.tup [upS l m, .one (.bool b)]) := by
  intro b hb
  rw [links_iff m1 m2 m3] at hb
  refine callsM [14] Tryz.func77 rfl (by rfl) (by rfl) (by kernel_rfl) ?_
  simp -dsimp -implicitDefEqProofs [Tryz.f77]
  refine sw_loop_e (fun q : {q : Nat × Nat // q.1 ≤ l.length} => SS.of [(1, .v (.one (.mp 0 0))), (2, .v (.one (.mp 1 0))), (4, I .i64 l.length), (5, I .i64 q.1.1)]
      ((0, ⟨34, [vnsS l]⟩) :: if q.1.1 = 0 then [(1, ⟨132, [.nils, .nils]⟩)] else [(1, ⟨132, [.ms (q.1.2 + 3) 0 q.1.1 1 true, .ms (q.1.2 + 5) 0 q.1.1 1 true]⟩), (q.1.2 + 3, ⟨3, List.replicate q.1.1 (.int .i64 (-1))⟩), (q.1.2 + 5, ⟨4, List.replicate q.1.1 (.bool false)⟩)]) (q.1.2 + 6))
    (fun q => l.length - q.1.1) ⟨(0, 0), Nat.zero_le _⟩ (by kernel_rfl) (Le.to (by simp) (by simp) (by simp)) ?_
  rintro ⟨⟨i, c⟩, hi⟩
  simp only at hi
  by_cases a1 : i < l.length
  · have wi : IntKind.i64.wrap ((i : Int) + 1) = ((i + 1 : Nat) : Int) := by rw [wrap_i64 _ (by omega) (by omega)]; rfl
    have r1 : ∀ x : S1, List.replicate (i + 1) x = List.replicate i x ++ [x] := fun x => List.replicate_succ'
    by_cases i0 : i = 0
    · have hif : ∀ {α : Type} (x y : α), (if i = 0 then x else y) = x := fun x y => if_pos i0
      simp -dsimp -implicitDefEqProofs [a1, hif, slots]
      exact Again.by ⟨(i + 1, c + 4), a1⟩ (Le.to (by simp [wi]) (by simp [i0]) (by simp)) (by simp; omega)
    · have hif : ∀ {α : Type} (x y : α), (if i = 0 then x else y) = y := fun x y => if_neg i0
      simp -dsimp -implicitDefEqProofs [a1, hif, slots]
      refine ⟨by omega, by omega, ?_⟩
      exact Again.by ⟨(i + 1, c + 4), a1⟩ (Le.to (by simp [wi]) (by simp [i0, r1]) (by simp)) (by simp; omega)
  have hi2 : i = l.length := by omega
  subst hi2
  have hif : ∀ {α : Type} (x y : α), (if l.length = 0 then x else y) = y := fun x y => if_neg (by omega)
  obtain ⟨z1, z2⟩ := parL_zero l
  have hne : ¬ l = [] := fun e => by rw [e] at h0; exact absurd h0 (by decide)
  have nz1 : ∀ d : Nat, ¬ c = c + d + 1 := fun d => by omega
  have nz3 : ∀ d : Nat, ¬ c = c + d + 3 := fun d => by omega
  have nz1' : ∀ d : Nat, ¬ c + d + 1 = c := fun d => by omega
  have nz3' : ∀ d : Nat, ¬ c + d + 3 = c := fun d => by omega
  simp -dsimp -implicitDefEqProofs [hif]
  refine sw_loop_m [14] (fun q : {q : Nat × Nat // q.1 ≤ m} => SS.of [(1, .v (.one (.mp 0 0))), (2, .v (.one (.mp 1 0))), (4, I .i64 l.length), (6, I .i64 q.1.1)]
      [(0, ⟨34, [vnsS l]⟩), (1, ⟨132, [.ms (c + 3) 0 l.length 1 true, .ms (c + 5) 0 l.length 1 true]⟩), (c + 3, ⟨3, (parL l q.1.1).map (S1.int .i64)⟩), (c + 5, ⟨4, (yesL l q.1.1).map S1.bool⟩)] (c + q.1.2 + 6))
    (fun q => l.length - q.1.1) ⟨(0, 0), Nat.zero_le _⟩ (by kernel_rfl) (Le.to (by simp) (by simp [z1, z2, hne]) (by simp)) ?_
  rintro ⟨⟨i, d⟩, hi⟩
  simp only at hi
  by_cases a1 : i < l.length
  · have wi : IntKind.i64.wrap ((i : Int) + 1) = ((i + 1 : Nat) : Int) := by rw [wrap_i64 _ (by omega) (by omega)]; rfl
    have pl : (parL l i).length = l.length := parL_len l i
    have yl : (yesL l i).length = l.length := yesL_len l i
    by_cases c1 : l[i].agent = -1
    · have him : i < m := by
        rcases Nat.lt_or_ge i m with h' | h'
        · exact h'
        · obtain rfl : i = m := by omega
          exact absurd (fun hq => absurd (by rw [vnAt_eq a1]; exact c1) hq) (m3 a1)
      obtain ⟨e1, e2⟩ := par_end (l := l) (n := i) (by rw [vnAt_eq a1]; exact c1)
      simp -dsimp -implicitDefEqProofs [a1, c1]
      exact Again.by ⟨(i + 1, d + 1), him⟩ (Le.to (by simp [wi]) (by simp [e1, e2, nz1, nz3]) (by simp; omega)) (by simp; omega)
    · have hq : (vnAt l i).agent ≠ -1 := by rw [vnAt_eq a1]; exact c1
      have bad : ¬ LinkI l i → i = m ∧ b = false := fun hn => by
        have e : i = m := by
          rcases Nat.lt_or_ge i m with h' | h'
          · exact absurd (m2 i h') hn
          · omega
        exact ⟨e, nf hb (fun hh => by omega)⟩
      have hve := vnAt_eq a1
      have ryl := rows_bo (yesL l i) l.length yl.symm
      have out : ∀ (n' : Int), ¬ LinkI l i → i = m ∧ b = false := fun _ h => bad h
      by_cases c2 : l[i].yes ≤ (i : Int)
      · obtain ⟨rfl, hb'⟩ := bad (fun hL => by have := (hL hq).1.1; rw [hve] at this; omega)
        simp -dsimp -implicitDefEqProofs [a1, c1, c2, hb', nz1, nz3, pl, yl, flat_in, ryl]
      by_cases c3 : (l.length : Int) ≤ l[i].yes
      · obtain ⟨rfl, hb'⟩ := bad (fun hL => by have := (hL hq).1.2; rw [hve] at this; omega)
        simp -dsimp -implicitDefEqProofs [a1, c1, c2, c3, hb', nz1, nz3, pl, yl, flat_in, ryl]
      obtain ⟨y, ey⟩ : ∃ y : Nat, l[i].yes = (y : Int) := ⟨l[i].yes.toNat, by omega⟩
      have e1 := eq_false (show ¬ (y : Int) ≤ (i : Int) by omega)
      have e1' := eq_false (show ¬ y ≤ i by omega)
      have e2 := eq_false (show ¬ (l.length : Int) ≤ (y : Int) by omega)
      have e2' := eq_false (show ¬ l.length ≤ y by omega)
      have y2 : y < l.length := by omega
      by_cases c4 : l[i].no ≤ (i : Int)
      · obtain ⟨rfl, hb'⟩ := bad (fun hL => by have := (hL hq).2.1.1; rw [hve] at this; omega)
        simp -dsimp -implicitDefEqProofs [a1, c1, ey, e1, e1', e2, e2', c4, hb', nz1, nz3, pl, yl, flat_in, ryl]
      by_cases c5 : (l.length : Int) ≤ l[i].no
      · obtain ⟨rfl, hb'⟩ := bad (fun hL => by have := (hL hq).2.1.2; rw [hve] at this; omega)
        simp -dsimp -implicitDefEqProofs [a1, c1, ey, e1, e1', e2, e2', c4, c5, hb', nz1, nz3, pl, yl, flat_in, ryl]
      obtain ⟨o, eo⟩ : ∃ o : Nat, l[i].no = (o : Int) := ⟨l[i].no.toNat, by omega⟩
      have f1 := eq_false (show ¬ (o : Int) ≤ (i : Int) by omega)
      have f1' := eq_false (show ¬ o ≤ i by omega)
      have f2 := eq_false (show ¬ (l.length : Int) ≤ (o : Int) by omega)
      have f2' := eq_false (show ¬ l.length ≤ o by omega)
      have o2 : o < l.length := by omega
      have gy : (parL l i)[y]'(by omega) = parN l i y := parL_get l i (by omega)
      have go : (parL l i)[o]'(by omega) = parN l i o := parL_get l i (by omega)
      by_cases c6 : y = o
      · obtain ⟨rfl, hb'⟩ := bad (fun hL => (hL hq).2.2.1 (by rw [hve, ey, eo, c6]))
        subst c6
        simp -dsimp -implicitDefEqProofs [a1, c1, ey, eo, e1, e1', e2, e2', hb', nz1, nz3, pl, yl, flat_in, ryl]
      have c6' : ¬ (y : Int) = (o : Int) := by omega
      by_cases c7 : 0 ≤ parN l i y
      · obtain ⟨rfl, hb'⟩ := bad (fun hL => by have := (hL hq).2.2.2.1; rw [hve, ey, Int.toNat_natCast, ← parN_lt] at this; omega)
        simp -dsimp -implicitDefEqProofs [a1, c1, ey, eo, e1, e1', e2, e2', f1, f1', f2, f2', c6, c6', y2, gy, c7, hb', nz1, nz3, pl, yl, flat_in, ryl]
      by_cases c8 : 0 ≤ parN l i o
      · obtain ⟨rfl, hb'⟩ := bad (fun hL => by have := (hL hq).2.2.2.2; rw [hve, eo, Int.toNat_natCast, ← parN_lt] at this; omega)
        simp -dsimp -implicitDefEqProofs [a1, c1, ey, eo, e1, e1', e2, e2', f1, f1', f2, f2', c6, c6', y2, o2, gy, go, c7, c8, hb', nz1, nz3, pl, yl, flat_in, ryl]
      have hLi : LinkI l i := fun _ => by
        rw [hve, ey, eo, Int.toNat_natCast, Int.toNat_natCast, ← parN_lt, ← parN_lt]
        omega
      have him : i < m := by
        rcases Nat.lt_or_ge i m with h' | h'
        · exact h'
        · obtain rfl : i = m := by omega
          exact absurd hLi (m3 a1)
      obtain ⟨s1, s2⟩ := par_ask hq (by rw [hve]; exact ey) (by rw [hve]; exact eo) hLi
      have s1' : ((List.map (S1.int .i64) (parL l i)).set y (S1.int .i64 (i : Int))).set o (S1.int .i64 (i : Int)) = List.map (S1.int .i64) (parL l (i + 1)) := by rw [s1, List.map_set, List.map_set]
      have s2' : (List.map S1.bool (yesL l i)).set y (S1.bool true) = List.map S1.bool (yesL l (i + 1)) := by rw [s2, List.map_set]
      simp -dsimp -implicitDefEqProofs [a1, c1, ey, eo, e1, e1', e2, e2', f1, f1', f2, f2', c6, c6', y2, o2, gy, go, c7, c8, nz1, nz3, pl, yl]
      refine sw_draw_t [(92, 98), (94, 98)] (by kernel_rfl) (by kernel_rfl) (by kernel_rfl) ?_
      simp -dsimp -implicitDefEqProofs [a1, ey, eo, y2, o2, nz1, nz3, nz1', nz3', pl, yl]
      refine ⟨by omega, by omega, by omega, ?_⟩
      exact Again.by ⟨(i + 1, d + 1), him⟩ (Le.to (by simp [wi]) (by simp [s1', s2', nz1, nz3, nz1', nz3']) (by simp; omega)) (by simp; omega)
  have hi2 : i = l.length := by omega
  subst hi2
  obtain rfl : m = l.length := by omega
  have pl := parL_len l l.length
  have yl := yesL_len l l.length
  have ryl := rows_bo (yesL l l.length) l.length yl.symm
  simp -dsimp -implicitDefEqProofs
  refine sw_loop_e (fun q : {q : Nat // 1 ≤ q ∧ q ≤ l.length ∧ ∀ j, 0 < j → j < q → ¬ parN l l.length j < 0} => SS.of [(1, .v (.one (.mp 0 0))), (2, .v (.one (.mp 1 0))), (4, I .i64 l.length), (8, I .i64 q.1)]
      [(0, ⟨34, [vnsS l]⟩), (1, ⟨132, [.ms (c + 3) 0 l.length 1 true, .ms (c + 5) 0 l.length 1 true]⟩), (c + 3, ⟨3, (parL l l.length).map (S1.int .i64)⟩), (c + 5, ⟨4, (yesL l l.length).map S1.bool⟩)] (c + d + 6))
    (fun q => l.length - q.1) ⟨1, by omega, by omega, fun j h1 h2 => by omega⟩ (by kernel_rfl) (Le.to (by simp) (by simp [nz1, nz3]) (by simp)) ?_
  rintro ⟨j, hj1, hj2, hj⟩
  by_cases a1 : j < l.length
  · have wi : IntKind.i64.wrap ((j : Int) + 1) = ((j + 1 : Nat) : Int) := by rw [wrap_i64 _ (by omega) (by omega)]; rfl
    have gj : (parL l l.length)[j]'(by omega) = parN l l.length j := parL_get l l.length (by omega)
    by_cases c1 : parN l l.length j < 0
    · have hb' := nf hb (fun hh => hh.2 j (by omega) a1 c1)
      simp -dsimp -implicitDefEqProofs [a1, gj, c1, pl, yl, hb', flat_in, ryl]
    · simp -dsimp -implicitDefEqProofs [a1, gj, c1, pl, yl]
      exact Again.by ⟨j + 1, by omega, a1, fun x h1 h2 => by
        by_cases e : x = j
        · subst e; exact c1
        · exact hj x h1 (by omega)⟩ (Le.to (by simp [wi]) (by simp) (by simp)) (by simp; omega)
  have hj3 : j = l.length := by omega
  have hb' : b = true := hb.2 ⟨rfl, fun x h1 h2 => hj x h1 (by omega)⟩
  simp -dsimp -implicitDefEqProofs [hj3, pl, yl, hb', flat_in, ryl]
end Go.Proofs.YtaljbebkooppiaaGreat.Sh

namespace Go.Proofs.YtaljbebkooppiaaGreat.Sh
open Go Go.RowKit
theorem may_none {l : List Vn} {x : Nat} (a k : Nat) (h : upOf l x = none) : mayB l a k x = true := by
  unfold mayB
  cases l.length with
  | zero => rfl
  | succ d => unfold mayD; rw [h]
theorem par_up {l : List Vn} {x : Nat} (hx : x < (parL l l.length).length) : (parL l l.length)[x] = match upOf l x with | some p => (p.1 : Int) | none => -1 := by rw [parL_get]; rfl
theorem yes_up {l : List Vn} {x : Nat} (hx : x < (yesL l l.length).length) : (yesL l l.length)[x] = match upOf l x with | some p => p.2 | none => false := by rw [yesL_get]; rfl
set_option maxRecDepth 20000 in
set_option maxHeartbeats 1000000 in
theorem rmay_g (l : List Vn) (hL : Links l) (hl : l.length ≤ 1048576) (hv : NearV l) (j a k : Nat) (hj : j < l.length) (b : Bool) (hb : b = mayB l a k j) :
    CallsS Tryz.prog 86 [viS l, upS l l.length, .one (.int .i64 (j : Int)), .one (.int .i64 (a : Int)), .one (.int .i64 (k : Int))] (B b) := by
  have pl := parL_len l l.length
  have yl := yesL_len l l.length
  refine calls Tryz.func86 rfl (by rfl) (by rfl) (by kernel_rfl) ?_
  simp -dsimp -implicitDefEqProofs [Tryz.f86]
  refine sw_loop_e (fun q : {q : Nat // q < l.length ∧ b = mayB l a k q} => SS.of [(2, I .i64 q.1), (3, I .i64 a), (4, I .i64 k), (5, .v (.one (.mp 0 0))), (6, .v (.one (.mp 1 0)))] [(0, ⟨34, [vnsS l]⟩), (1, ⟨132, rowUp l l.length⟩)] 2)
    (fun q => q.1) ⟨j, hj, hb⟩ (by kernel_rfl) (Le.to (by simp) (by simp) (by simp)) ?_
  rintro ⟨x, hx, hq⟩
  have px := par_up (l := l) (x := x) (by omega)
  have yx := yes_up (l := l) (x := x) (by omega)
  have xp : x < (parL l l.length).length := by omega
  have xy : x < (yesL l l.length).length := by omega
  cases hu : upOf l x with
  | none =>
    rw [hu] at px
    simp only at px
    have hb' : b = true := by rw [hq, may_none a k hu]
    simp -dsimp -implicitDefEqProofs [xp, px, hb']
  | some p =>
    obtain ⟨i, y⟩ := p
    obtain ⟨u1, u2, u3⟩ := hL.lt hu
    rw [hu] at px yx
    simp only at px yx
    have hup : IsUp l i y x := (upTo_some hu).2
    have hm := hL.mayUp a k u2 hup
    rw [vnAt_eq u2] at hm
    have hh := rhas8_s l[i].part k (by have := (hv _ (List.getElem_mem u2)).2.1; omega)
    have i0 : (0 : Int) ≤ (i : Int) := by omega
    by_cases c1 : l[i].agent = (a : Int)
    · rw [if_pos c1] at hm
      simp -dsimp -implicitDefEqProofs [xp, px, i0, u2, c1]
      refine eCall.of hh (by simp) ?_
      have cont : hasK l[i].part k = y → b = mayB l a k i := fun e => by rw [hq, hm, e, beq_self_eq_true, Bool.true_and]
      have stop : hasK l[i].part k ≠ y → b = false := fun e => by rw [hq, hm, beq_eq_false_iff_ne.2 e, Bool.false_and]
      cases hkk : hasK l[i].part k <;> cases y
      · simp -dsimp -implicitDefEqProofs [xy, yx]
        exact Again.by ⟨i, u2, cont hkk⟩ (Le.to (by simp) (by simp) (by simp)) (by simpa using u1)
      · simp -dsimp -implicitDefEqProofs [xy, yx, stop (by rw [hkk]; simp)]
      · simp -dsimp -implicitDefEqProofs [xy, yx, stop (by rw [hkk]; simp)]
      · simp -dsimp -implicitDefEqProofs [xy, yx]
        exact Again.by ⟨i, u2, cont hkk⟩ (Le.to (by simp) (by simp) (by simp)) (by simpa using u1)
    · rw [if_neg c1, Bool.true_and] at hm
      simp -dsimp -implicitDefEqProofs [xp, px, i0, u2, c1]
      exact Again.by ⟨i, u2, hq.trans hm⟩ (Le.to (by simp) (by simp) (by simp)) (by simpa using u1)
theorem rmay_s (l : List Vn) (hL : Links l) (hl : l.length ≤ 1048576) (hv : NearV l) (j a k : Nat) (hj : j < l.length) :
    CallsS Tryz.prog 86 [viS l, upS l l.length, .one (.int .i64 (j : Int)), .one (.int .i64 (a : Int)), .one (.int .i64 (k : Int))] (B (mayB l a k j)) := rmay_g l hL hl hv j a k hj _ rfl
set_option maxRecDepth 20000 in
theorem rend_s (g : Gm) (x : Vn) (hx : x.ok) (hl : g.agents.length ≤ 4) : CallsS Tryz.prog 78 [gmS g, vnS x] (B (decide (EndOk g x))) := by
  obtain ⟨-, -, -, -, -, hpl, hpo⟩ := hx
  unfold lenOk at hpl
  refine calls Tryz.func78 rfl (by rfl) (by rfl) (by kernel_rfl) ?_
  by_cases c0 : x.out < 0
  · have hb : ¬ EndOk g x := fun h => by have := h.1; omega
    simp -dsimp -implicitDefEqProofs [Tryz.f78, c0, hb]
  by_cases c1 : (g.outs.length : Int) ≤ x.out
  · have hb : ¬ EndOk g x := fun h => by have := h.2.1; omega
    simp -dsimp -implicitDefEqProofs [Tryz.f78, c0, c1, hb]
  by_cases c2 : x.pay.length = g.agents.length
  · simp -dsimp -implicitDefEqProofs [Tryz.f78, c0, c1, c2]
    refine sw_loop_e (fun p : {p : Nat // p ≤ x.pay.length ∧ (g.pay = true ∨ ∀ f ∈ x.pay.take p, f.fix = 0)} => SS.of [(2, .v (.one (.mp 0 0))), (3, .v (.one (.mp 1 0))), (5, I .i64 p.1)] [(0, ⟨31, rowGm g⟩), (1, ⟨110, rowVn x⟩)] 2)
      (fun p => x.pay.length - p.1) ⟨0, Nat.zero_le _, .inr (by simp)⟩ (by kernel_rfl) (Le.to (by simp) (by simp) (by simp)) ?_
    rintro ⟨i, hi, hq⟩
    by_cases a1 : i < x.pay.length
    · have wi : IntKind.i64.wrap ((i : Int) + 1) = ((i + 1 : Nat) : Int) := by rw [wrap_i64 _ (by omega) (by omega)]; rfl
      by_cases e : g.pay = true
      · simp -dsimp -implicitDefEqProofs [a1, e]
        exact Again.by ⟨i + 1, a1, .inl e⟩ (Le.to (by simp [wi]) (by simp [e]) (by simp)) (by simp; omega)
      · have e : g.pay = false := by simpa using e
        have hs := signR_s x.pay[i] (hpo _ (List.getElem_mem a1))
        simp -dsimp -implicitDefEqProofs [a1, e]
        refine eCall.of hs (by simp) ?_
        by_cases c3 : x.pay[i].fix = 0
        · simp -dsimp -implicitDefEqProofs [sgnQ_zero.2 c3]
          exact Again.by ⟨i + 1, a1, .inr (all_take a1 (hq.resolve_left (by rw [e]; simp)) c3)⟩ (Le.to (by simp [wi]) (by simp [e]) (by simp)) (by simp; omega)
        · have hb : ¬ EndOk g x := fun h => c3 (h.2.2.2 e _ (List.getElem_mem a1))
          simp -dsimp -implicitDefEqProofs [mt sgnQ_zero.1 c3, hb]
    have hi2 : i = x.pay.length := by omega
    subst hi2
    rw [List.take_length] at hq
    have hb : EndOk g x := EndOk.of (by omega) (by omega) c2 hq
    simp -dsimp -implicitDefEqProofs [hb]
  · have hb : ¬ EndOk g x := fun h => c2 h.2.2.1
    have c2' : ¬ (x.pay.length : Int) = (g.agents.length : Int) := by omega
    simp -dsimp -implicitDefEqProofs [Tryz.f78, c0, c1, c2, c2', hb]
end Go.Proofs.YtaljbebkooppiaaGreat.Sh

