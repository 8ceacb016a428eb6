/- A part of the proof: R156, R157, R159, R160, R161, TyF -/
import Derived.Test.YtaljbebkooppiaaGreatV20
import Derived.Test.YtaljbebkooppiaaGreatV18
import Derived.Test.YtaljbebkooppiaaGreatV19
import Derived.Test.YtaljbebkooppiaaGreatV11
set_option linter.unusedSimpArgs false
set_option linter.unusedVariables false
set_option linter.unusedSectionVars false
namespace Go.Proofs.YtaljbebkooppiaaGreat.Sh
open Go Go.RowKit
theorem take_filter_succ (p : Nat → Bool) (n : Nat) : ((List.range (n + 1)).filter p).length = ((List.range n).filter p).length + if p n then 1 else 0 := by
  rw [List.range_succ, List.filter_append, List.length_append]
  cases h : p n <;> simp [h]
theorem filter_range_le (p : Nat → Bool) (n : Nat) : ((List.range n).filter p).length ≤ n := by
  have := List.length_filter_le p (List.range n)
  simpa using this
set_option maxRecDepth 20000 in
set_option maxHeartbeats 2000000 in
theorem rpart_s (g : Gm) (h : Fine g) (l : List Vn) (hL : Links l) (hl : l.length ≤ 1048576) (hv : NearV l) (i : Nat) (hi : i < l.length) (hq : l[i].agent ≠ -1) : ∀ b, (b = true ↔ AskOk g l i) →
    CallsS Tryz.prog 79 [gmS g, viS l, upS l l.length, .one (.int .i64 (i : Int))] (B b) := by
  intro b hb
  obtain ⟨h1, -, -, h4, -⟩ := sizeOk_all h.sz
  have hve := vnAt_eq hi
  refine calls Tryz.func79 rfl (by rfl) (by rfl) (by kernel_rfl) ?_
  by_cases c2 : l[i].agent < 0
  · have hb' := nf hb (fun ⟨a, ha, _⟩ => by rw [hve] at ha; omega)
    simp -dsimp -implicitDefEqProofs [Tryz.f79, hi, c2, hb']
  by_cases c3 : (g.agents.length : Int) ≤ l[i].agent
  · have hb' := nf hb (fun ⟨a, ha, hla, _⟩ => by rw [hve] at ha; omega)
    simp -dsimp -implicitDefEqProofs [Tryz.f79, hi, c2, c3, hb']
  obtain ⟨a, ea⟩ : ∃ a : Nat, l[i].agent = (a : Int) := ⟨l[i].agent.toNat, by omega⟩
  have ea2 := eq_false (show ¬ (a : Int) < 0 by omega)
  have ea3 := eq_false (show ¬ (g.agents.length : Int) ≤ (a : Int) by omega)
  have ea3' := eq_false (show ¬ g.agents.length ≤ a by omega)
  have la : a < g.agents.length := by omega
  have hkA : klA g a = g.agents[a].kinds.length := klA_eq la
  have hk4 : g.agents[a].kinds.length ≤ 4 := h4 _ (List.getElem_mem la)
  have hp20 := (hv _ (List.getElem_mem hi)).2.1
  have ask : AskOk g l i ↔ l[i].part ≠ [] ∧ RiseK (klA g a) l[i].part ∧ (∀ k, k < klA g a → hasK l[i].part k = true → mayB l a k i = true) ∧ ∃ k, k < klA g a ∧ mayB l a k i = true ∧ hasK l[i].part k = false := by
    unfold AskOk
    rw [hve]
    constructor
    · rintro ⟨a', e1, e2, e3⟩
      obtain rfl : a' = a := by omega
      exact e3
    · exact fun e3 => ⟨a, ea, la, e3⟩
  by_cases c4 : l[i].part = []
  · have hb' := nf hb (fun hh => (ask.1 hh).1 c4)
    simp -dsimp -implicitDefEqProofs [Tryz.f79, hi, ea, ea2, ea3, ea3', c4, hb']
  have c4' : ¬ l[i].part.length = 0 := fun e => c4 (List.length_eq_zero_iff.1 e)
  have c4'' : ¬ (l[i].part.length : Int) = 0 := by omega
  by_cases c5 : 4 < l[i].part.length
  · have hb' := nf hb (fun hh => by
      have := rise_count (ask.1 hh).2.1
      have := filter_range_le (hasK l[i].part) (klA g a)
      omega)
    have c5' : (4 : Int) < (l[i].part.length : Int) := by omega
    simp -dsimp -implicitDefEqProofs [Tryz.f79, hi, ea, ea2, ea3, ea3', c4, c4'', c5, c5', hb']
  have c5' : ¬ (4 : Int) < (l[i].part.length : Int) := by omega
  simp -dsimp -implicitDefEqProofs [Tryz.f79, hi, ea, ea2, ea3, ea3', la, c4, c4'', c5, c5']
  refine sw_loop_e (fun q : {q : Nat // q ≤ l[i].part.length ∧ ∀ j (hj : j < l[i].part.length), j < q → (0 ≤ l[i].part[j] ∧ l[i].part[j] < (klA g a : Int) ∧ (0 < j → l[i].part[j - 1]'(by omega) < l[i].part[j])) ∧ mayB l a l[i].part[j].toNat i = true} => SS.of [(3, I .i64 i), (4, .v (.one (.mp 0 0))), (5, .v (.one (.mp 1 0))), (6, .v (.one (.mp 2 0))), (9, .v (.one (.mp 3 0))), (10, I .i64 g.agents[a].kinds.length), (11, I .i64 q.1)] [(0, ⟨31, rowGm g⟩), (1, ⟨34, [vnsS l]⟩), (2, ⟨132, rowUp l l.length⟩), (3, ⟨110, rowVn l[i]⟩)] 4)
    (fun q => l[i].part.length - q.1) ⟨0, Nat.zero_le _, fun j _ hj => absurd hj (by omega)⟩ (by kernel_rfl) (Le.to (by simp) (by simp [ea]) (by simp)) ?_
  rintro ⟨q, hq1, hq2⟩
  by_cases a1 : q < l[i].part.length
  · have wi : IntKind.i64.wrap ((q : Int) + 1) = ((q + 1 : Nat) : Int) := by rw [wrap_i64 _ (by omega) (by omega)]; rfl
    by_cases d1 : l[i].part[q] < 0
    · have hb' := nf hb (fun hh => by have := (ask.1 hh).2.1 q a1; omega)
      simp -dsimp -implicitDefEqProofs [ea, a1, d1, hb']
    by_cases d2 : (g.agents[a].kinds.length : Int) ≤ l[i].part[q]
    · have hb' := nf hb (fun hh => by have := (ask.1 hh).2.1 q a1; omega)
      simp -dsimp -implicitDefEqProofs [ea, a1, d1, d2, hb']
    obtain ⟨k, hk⟩ : ∃ k : Nat, l[i].part[q] = (k : Int) := ⟨l[i].part[q].toNat, by omega⟩
    have hk0 := eq_false (show ¬ (k : Int) < 0 by omega)
    have hkn := eq_false (show ¬ (g.agents[a].kinds.length : Int) ≤ (k : Int) by omega)
    have hkn' : ¬ g.agents[a].kinds.length ≤ k := by omega
    have hm := rmay_s l hL hl hv i a k hi
    have fin : (0 < q → l[i].part[q - 1]'(by omega) < l[i].part[q]) → mayB l a k i = true → ∀ j (hj : j < l[i].part.length), j < q + 1 → (0 ≤ l[i].part[j] ∧ l[i].part[j] < (klA g a : Int) ∧ (0 < j → l[i].part[j - 1]'(by omega) < l[i].part[j])) ∧ mayB l a l[i].part[j].toNat i = true := fun e1 e2 j hj hjq => by
      by_cases e : j = q
      · subst e
        exact ⟨⟨by omega, by omega, e1⟩, by rw [hk, Int.toNat_natCast]; exact e2⟩
      · exact hq2 j hj (by omega)
    have mayNo : mayB l a k i = false → b = false := fun e => nf hb (fun hh => by
      have := (ask.1 hh).2.2.1 k (by omega) (by unfold hasK; exact decide_eq_true (by rw [← hk]; exact List.getElem_mem a1))
      rw [e] at this; cases this)
    by_cases q0 : q = 0
    · have q0' : ¬ 0 < q := by omega
      have q0'' : ¬ (0 : Int) < (q : Int) := by omega
      simp -dsimp -implicitDefEqProofs [ea, a1, hk, hk0, hkn, hkn', q0', q0'']
      refine eCall.of hm (by simp [ea]) ?_
      cases e : mayB l a k i with
      | true =>
        simp -dsimp -implicitDefEqProofs
        exact Again.by ⟨q + 1, a1, fin (fun h => absurd h (by omega)) e⟩ (Le.to (by simp [wi]) (by simp [ea]) (by simp)) (by simp; omega)
      | false =>
        have hb' := mayNo e
        simp -dsimp -implicitDefEqProofs [hb']
    · have i1 : 0 < q := by omega
      have i1' : (0 : Int) < (q : Int) := by omega
      have wj : IntKind.i64.wrap ((q : Int) - 1) = ((q - 1 : Nat) : Int) := by rw [wrap_i64 _ (by omega) (by omega)]; omega
      have a2 : q - 1 < l[i].part.length := by omega
      by_cases d3 : (k : Int) ≤ l[i].part[q - 1]
      · have hb' := nf hb (fun hh => by have := ((ask.1 hh).2.1 q a1).2.2 i1; omega)
        simp -dsimp -implicitDefEqProofs [ea, a1, hk, hk0, hkn, hkn', i1, i1', wj, a2, d3, hb']
      · simp -dsimp -implicitDefEqProofs [ea, a1, hk, hk0, hkn, hkn', i1, i1', wj, a2, d3]
        refine eCall.of hm (by simp [ea]) ?_
        cases e : mayB l a k i with
        | true =>
          simp -dsimp -implicitDefEqProofs
          exact Again.by ⟨q + 1, a1, fin (fun _ => by omega) e⟩ (Le.to (by simp [wi]) (by simp [ea]) (by simp)) (by simp; omega)
        | false =>
          have hb' := mayNo e
          simp -dsimp -implicitDefEqProofs [hb']
  have hi2 : q = l[i].part.length := by omega
  subst hi2
  have hr : RiseK (klA g a) l[i].part := fun j hj => (hq2 j hj hj).1
  have hsub : ∀ k, k < klA g a → hasK l[i].part k = true → mayB l a k i = true := fun k hk hp => by
    unfold hasK at hp
    obtain ⟨j, hj, e⟩ := List.getElem_of_mem (of_decide_eq_true hp)
    have := (hq2 j hj hj).2
    rwa [e, Int.toNat_natCast] at this
  have hcnt := rise_count hr
  have hfm := (filter_more (p := hasK l[i].part) (q := fun k => mayB l a k i) (List.range (klA g a)) (fun k hk => hsub k (List.mem_range.1 hk))).2
  have hfin : b = decide (l[i].part.length < ((List.range (klA g a)).filter fun k => mayB l a k i).length) := by
    rw [Bool.eq_iff_iff, hb, decide_eq_true_iff, hcnt, hfm, ask]
    constructor
    · rintro ⟨-, -, -, k, e1, e2, e3⟩; exact ⟨k, List.mem_range.2 e1, e2, e3⟩
    · rintro ⟨k, e1, e2, e3⟩; exact ⟨c4, hr, hsub, k, List.mem_range.1 e1, e2, e3⟩
  simp -dsimp -implicitDefEqProofs
  refine sw_loop_e (fun q : {q : Nat // q ≤ klA g a} => SS.of [(3, I .i64 i), (5, .v (.one (.mp 1 0))), (6, .v (.one (.mp 2 0))), (9, .v (.one (.mp 3 0))), (10, I .i64 (klA g a)), (12, I .i64 ((List.range q.1).filter fun k => mayB l a k i).length), (13, I .i64 q.1)] [(1, ⟨34, [vnsS l]⟩), (2, ⟨132, rowUp l l.length⟩), (3, ⟨110, rowVn l[i]⟩)] 4)
    (fun q => klA g a - q.1) ⟨0, Nat.zero_le _⟩ (by kernel_rfl) (Le.to (by simp [hkA]) (by simp [ea]) (by simp)) ?_
  rintro ⟨q, hq1⟩
  by_cases a1 : q < klA g a
  · have wi : IntKind.i64.wrap ((q : Int) + 1) = ((q + 1 : Nat) : Int) := by rw [wrap_i64 _ (by omega) (by omega)]; rfl
    have hfl := filter_range_le (fun k => mayB l a k i) q
    have hts := take_filter_succ (fun k => mayB l a k i) q
    have hm := rmay_s l hL hl hv i a q hi
    simp -dsimp -implicitDefEqProofs [ea, a1]
    refine eCall.of hm (by simp [ea]) ?_
    cases e : mayB l a q i with
    | true =>
      rw [e, if_pos rfl] at hts
      have wl : IntKind.i64.wrap ((((List.range q).filter fun k => mayB l a k i).length : Int) + 1) = (((List.range (q + 1)).filter fun k => mayB l a k i).length : Int) := by rw [wrap_i64 _ (by omega) (by omega), hts]; rfl
      simp -dsimp -implicitDefEqProofs
      exact Again.by ⟨q + 1, a1⟩ (Le.to (by simp [wi, wl]) (by simp [ea]) (by simp)) (by simp; omega)
    | false =>
      rw [e] at hts
      simp only [Bool.false_eq_true, if_false, Nat.add_zero] at hts
      simp -dsimp -implicitDefEqProofs
      exact Again.by ⟨q + 1, a1⟩ (Le.to (by simp [wi, hts]) (by simp [ea]) (by simp)) (by simp; omega)
  have hi2 : q = klA g a := by omega
  subst hi2
  simp -dsimp -implicitDefEqProofs [hfin]
end Go.Proofs.YtaljbebkooppiaaGreat.Sh

namespace Go.Proofs.YtaljbebkooppiaaGreat.Sh
open Go Go.RowKit
def GmOk (g : Gm) : Prop := sizeOk g = true ∧ RightOk g
def isTree (g : Gm) (l : List Vn) (e : Int) : Prop := (¬ GmOk g ∧ e = 2) ∨ (GmOk g ∧ ¬ TreeOk g l ∧ e = 80) ∨ (GmOk g ∧ TreeOk g l ∧ e = 0)
theorem isTree_of (g : Gm) (l : List Vn) : ∃ e, isTree g l e ∧ (e = 0 ↔ GmOk g ∧ TreeOk g l) := by
  by_cases h : GmOk g
  · by_cases h2 : TreeOk g l
    · exact ⟨0, .inr (.inr ⟨h, h2, rfl⟩), ⟨fun _ => ⟨h, h2⟩, fun _ => rfl⟩⟩
    · exact ⟨80, .inr (.inl ⟨h, h2, rfl⟩), ⟨fun e => absurd e (by decide), fun e => absurd e.2 h2⟩⟩
  · exact ⟨2, .inl ⟨h, rfl⟩, ⟨fun e => absurd e (by decide), fun e => absurd e.1 h⟩⟩
theorem isTree.bad {g : Gm} {l : List Vn} {e : Int} (h : isTree g l e) (h1 : GmOk g) (h2 : ¬ TreeOk g l) : e = 80 := by
  rcases h with h | h | h
  · exact absurd h1 h.1
  · exact h.2.2
  · exact absurd h.2.1 h2
theorem isTree.good {g : Gm} {l : List Vn} {e : Int} (h : isTree g l e) (h1 : GmOk g) (h2 : TreeOk g l) : e = 0 := by
  rcases h with h | h | h
  · exact absurd h1 h.1
  · exact absurd h2 h.2.1
  · exact h.2.2
theorem isTree.no {g : Gm} {l : List Vn} {e : Int} (h : isTree g l e) (h1 : ¬ GmOk g) : e = 2 := by
  rcases h with h | h | h
  · exact h.2
  · exact absurd h.1 h1
  · exact absurd h.1 h1
theorem GmOk.fine {g : Gm} (h : GmOk g) (hg : g.ok) (hb : Sh.beyond g = false) : Fine g := ⟨hg, hb, h.1, h.2⟩
set_option maxRecDepth 20000 in
theorem vright8_s (g : Gm) (hg : g.ok) (hb : Sh.beyond g = false) (l : List Vn) (hl : l.length ≤ 1048576) (hv : NearV l) : ∀ e, isTree g l e → CallsS Tryz.prog 17 [gmS g, viS l] (I .i64 e) := by
  intro e he
  obtain ⟨er, h1, h2⟩ := isRight_of g
  refine calls Tryz.func17 rfl (by rfl) (by rfl) (by kernel_rfl) ?_
  simp -dsimp -implicitDefEqProofs [Tryz.f17]
  refine eCall.of (sright_s g hg hb er h1) (by simp) ?_
  by_cases c1 : GmOk g
  · obtain rfl : er = 0 := h2.2 c1
    have hf := c1.fine hg hb
    simp -dsimp -implicitDefEqProofs
    by_cases c2 : TreeOk g l
    · have hc := vcells_s g hf l hl hv true (by simp [c2])
      rw [if_pos rfl] at hc
      refine eCall.of hc (by simp) ?_
      simp -dsimp -implicitDefEqProofs [he.good c1 c2]
    · have hc := vcells_s g hf l hl hv false (by simp [c2])
      rw [if_neg (by simp)] at hc
      refine eCall.of hc (by simp) ?_
      simp -dsimp -implicitDefEqProofs [he.bad c1 c2]
  · have e1 : ¬ er = 0 := fun h => c1 (h2.1 h)
    simp -dsimp -implicitDefEqProofs [e1, he.no c1]
set_option maxRecDepth 20000 in
set_option maxHeartbeats 1000000 in
theorem rright8_s (g : Gm) (hg : g.ok) (hb : Sh.beyond g = false) (l : List Vn) (hl : l.length ≤ 1048576) (hv : NearV l) : ∀ e, isTree g l e → CallsS Tryz.prog 28 [gmS g, viS l] (I .i64 e) := by
  intro e he
  obtain ⟨er, h1, h2⟩ := isRight_of g
  refine calls Tryz.func28 rfl (by rfl) (by rfl) (by kernel_rfl) ?_
  simp -dsimp -implicitDefEqProofs [Tryz.f28]
  refine eCall.of (right_s g hg hb er h1) (by simp) ?_
  by_cases c1 : GmOk g
  · obtain rfl : er = 0 := h2.2 c1
    have hf := c1.fine hg hb
    have al := (sizeOk_all hf.sz).1
    by_cases l0 : l.length < 1
    · have l0' : (l.length : Int) < 1 := by omega
      simp -dsimp -implicitDefEqProofs [l0, l0', he.bad c1 (fun h => by have := h.pos; omega)]
    by_cases l2 : 200 < l.length
    · have l0' : ¬ (l.length : Int) < 1 := by omega
      have l2' : (200 : Int) < (l.length : Int) := by omega
      simp -dsimp -implicitDefEqProofs [l0, l0', l2, l2', he.bad c1 (fun h => by have := h.len; omega)]
    have l0' : ¬ (l.length : Int) < 1 := by omega
    have l2' : ¬ (200 : Int) < (l.length : Int) := by omega
    obtain ⟨m, m1, m2, m3⟩ := links_to l
    simp -dsimp -implicitDefEqProofs [l0, l0', l2, l2']
    by_cases c2 : Links l
    · obtain rfl := ((links_iff m1 m2 m3).1 c2).1
      refine eCall.of (rups_s l (by omega) hl hv l.length m1 m2 m3 true (by simp [c2])) (by simp) ?_
      simp -dsimp -implicitDefEqProofs
      refine sw_loop_e (fun q : {q : Nat // q ≤ l.length ∧ ∀ i, i < q → ((vnAt l i).agent = -1 → EndOk g (vnAt l i)) ∧ ((vnAt l i).agent ≠ -1 → AskOk g l i)} => SS.of [(2, .v (.one (.mp 0 0))), (3, .v (.one (.mp 1 0))), (5, .v (.one (.mp 2 0))), (7, I .i64 q.1)] [(0, ⟨31, rowGm g⟩), (1, ⟨34, [vnsS l]⟩), (2, ⟨132, rowUp l l.length⟩)] 3)
        (fun q => l.length - q.1) ⟨0, Nat.zero_le _, fun i hi => absurd hi (by omega)⟩ (by kernel_rfl) (Le.to (by simp) (by simp) (by simp)) ?_
      rintro ⟨i, hi, hq⟩
      by_cases a1 : i < l.length
      · have wi : IntKind.i64.wrap ((i : Int) + 1) = ((i + 1 : Nat) : Int) := by rw [wrap_i64 _ (by omega) (by omega)]; rfl
        have hve := vnAt_eq a1
        have next : ((vnAt l i).agent = -1 → EndOk g (vnAt l i)) ∧ ((vnAt l i).agent ≠ -1 → AskOk g l i) → ∀ j, j < i + 1 → ((vnAt l j).agent = -1 → EndOk g (vnAt l j)) ∧ ((vnAt l j).agent ≠ -1 → AskOk g l j) := fun hx j hj => by
          by_cases e : j = i
          · subst e; exact hx
          · exact hq j (by omega)
        by_cases c3 : l[i].agent = -1
        · have hen := rend_s g l[i] (hv _ (List.getElem_mem a1)).1 al
          simp -dsimp -implicitDefEqProofs [a1, c3]
          refine eCall.of hen (by simp [c3]) ?_
          by_cases c4 : EndOk g l[i]
          · simp -dsimp -implicitDefEqProofs [c4, a1, c3]
            exact Again.by ⟨i + 1, a1, next ⟨fun _ => by rw [hve]; exact c4, fun h => absurd c3 (by rw [hve] at h; exact h)⟩⟩ (Le.to (by simp [wi]) (by simp) (by simp)) (by simp; omega)
          · simp -dsimp -implicitDefEqProofs [c4, he.bad c1 (fun h => c4 (by have := h.ends i a1 (by rw [hve]; exact c3); rwa [hve] at this))]
        · have hpa := rpart_s g hf l c2 hl hv i a1 c3
          simp -dsimp -implicitDefEqProofs [a1, c3]
          by_cases c4 : AskOk g l i
          · refine eCall.of (hpa true (by simp [c4])) (by simp) ?_
            simp -dsimp -implicitDefEqProofs
            exact Again.by ⟨i + 1, a1, next ⟨fun h => absurd (by rw [hve] at h; exact h) c3, fun _ => c4⟩⟩ (Le.to (by simp [wi]) (by simp) (by simp)) (by simp; omega)
          · refine eCall.of (hpa false (by simp [c4])) (by simp) ?_
            simp -dsimp -implicitDefEqProofs [he.bad c1 (fun h => c4 (h.asks i a1 (by rw [hve]; exact c3)))]
      have hi2 : i = l.length := by omega
      subst hi2
      have hT : TreeOk g l := ⟨by omega, by omega, c2, fun i hi hh => (hq i hi).1 hh, fun i hi hh => (hq i hi).2 hh⟩
      simp -dsimp -implicitDefEqProofs [he.good c1 hT]
    · refine eCall.of (rups_s l (by omega) hl hv m m1 m2 m3 false (by simp [c2])) (by simp) ?_
      simp -dsimp -implicitDefEqProofs [he.bad c1 (fun h => c2 h.links)]
  · have e1 : ¬ er = 0 := fun h => c1 (h2.1 h)
    simp -dsimp -implicitDefEqProofs [e1, he.no c1]
end Go.Proofs.YtaljbebkooppiaaGreat.Sh

namespace Go.Proofs.YtaljbebkooppiaaGreat.Sh
open Go Go.RowKit
theorem Fine.prod_pos {g : Gm} (h : Fine g) : 0 < prodK g.agents := by
  have := Sh.prod_pos (l := g.agents) (fun a ha => (h.right.all a ha).1) g.agents.length (Nat.le_refl _)
  rwa [List.take_length] at this
set_option maxRecDepth 20000 in
theorem ofR_s (n : Int) (h0 : -9223372036854775808 ≤ n) (h1 : n < 9223372036854775808) : CallsS Tryz.prog 22 [.one (.int .i64 n)] (.v (fS (n : Rat))) := by
  refine calls Tryz.func22 rfl (by rfl) (by rfl) (by kernel_rfl) ?_
  simp -dsimp -implicitDefEqProofs [Tryz.f22]
  refine eCall.of (intR_s n h0 h1) (by simp) ?_
  simp -dsimp -implicitDefEqProofs
set_option maxRecDepth 20000 in
theorem rprofiles_s (g : Gm) (h : Fine g) : CallsS Tryz.prog 18 [gmS g] (.v (.one (profsS (profs g)))) := by
  have hpl := profs_length g
  have hp16 := (sizeOk_all h.sz).2.2.2.2
  refine calls Tryz.func18 rfl (by rfl) (by rfl) (by kernel_rfl) ?_
  simp -dsimp -implicitDefEqProofs [Tryz.f18]
  refine eCall.of (right_s g h.ok h.bey 0 h.isRight) (by simp) ?_
  simp -dsimp -implicitDefEqProofs
  refine sw_loop_e (fun q : {q : Nat × Nat // q.1 ≤ (profs g).length} => SS.of [(1, .v (.one (.mp 0 0))), (3, if q.1.1 = 0 then .v (.one .nils) else .v (.one (.ms (q.1.2 + 2) 0 q.1.1 1 true))), (4, I .i64 q.1.1)] ((0, ⟨31, rowGm g⟩) :: if q.1.1 = 0 then [] else [(q.1.2 + 2, ⟨54, flat rowProf ((profs g).take q.1.1)⟩)]) (q.1.2 + 3))
    (fun q => (profs g).length - q.1.1) ⟨(0, 0), Nat.zero_le _⟩ (by kernel_rfl) (Le.to (by simp) (by simp) (by simp)) ?_
  rintro ⟨⟨i, c⟩, hi⟩
  simp only at hi
  by_cases a1 : i < (profs g).length
  · have wi : IntKind.i64.wrap ((i : Int) + 1) = ((i + 1 : Nat) : Int) := by rw [wrap_i64 _ (by omega) (by omega)]; rfl
    have a2 : i < prodK g.agents := by omega
    have hat : (profs g)[i] = atG g i := by have := profs_at a2; rw [List.getElem?_eq_getElem a1] at this; exact Option.some.inj this
    have hfl := flat_snoc (f := rowProf) (atG g i) ((profs g).take i)
    rw [← hat, ← takeSnoc (profs g) i a1, hat] at hfl
    have ha := at_s g h i (by omega)
    have htl : min i (profs g).length = i := by omega
    by_cases i0 : i = 0
    · have hif : ∀ {α : Type} (x y : α), (if i = 0 then x else y) = x := fun x y => if_pos i0
      have hf0 : flat rowProf ((profs g).take i) = [] := by rw [i0]; rfl
      rw [hf0, List.nil_append] at hfl
      simp -dsimp -implicitDefEqProofs [hif]
      refine eCall.of (count_s g h) (by simp) ?_
      simp -dsimp -implicitDefEqProofs [hif, a2]
      refine eCall.of ha (by simp) ?_
      simp -dsimp -implicitDefEqProofs [hif, slots]
      exact Again.by ⟨(i + 1, c + 2), a1⟩ (Le.to (by simp [wi, i0, i64_1]) (by simp [hfl]) (by simp)) (by simp; omega)
    · have hif : ∀ {α : Type} (x y : α), (if i = 0 then x else y) = y := fun x y => if_neg i0
      simp -dsimp -implicitDefEqProofs [hif]
      refine eCall.of (count_s g h) (by simp) ?_
      simp -dsimp -implicitDefEqProofs [hif, a2]
      refine eCall.of ha (by simp) ?_
      simp -dsimp -implicitDefEqProofs [hif, slots, htl]
      refine ⟨by omega, ?_⟩
      exact Again.by ⟨(i + 1, c + 2), a1⟩ (Le.to (by simp [wi]) (by simp [hfl]) (by simp)) (by simp; omega)
  have hi2 : i = (profs g).length := by omega
  subst hi2
  have hif : ∀ {α : Type} (x y : α), (if (profs g).length = 0 then x else y) = y := fun x y => if_neg (by
    have := h.prod_pos
    omega)
  have hne : ¬ profs g = [] := fun e => by
    have := h.prod_pos
    rw [e] at hpl
    simp at hpl
    omega
  simp -dsimp -implicitDefEqProofs [hif, hne]
  refine eCall.of (count_s g h) (by simp) ?_
  simp -dsimp -implicitDefEqProofs [hif, hne, hpl]
set_option maxRecDepth 20000 in
theorem rindex_s (g : Gm) (h : Fine g) (p : List Int) (hl : p.length ≤ 140737488355328) : ∀ e, isIdx g p e → CallsS Tryz.prog 81 [gmS g, .one (intsS p)] (I .i64 e) := by
  intro e he
  obtain ⟨h1, -, -, h4, -⟩ := sizeOk_all h.sz
  have bad : ¬ isProf g p → e = -1 := fun hn => by
    rcases he with he | he
    · exact absurd he.1 hn
    · exact he.2
  refine calls Tryz.func81 rfl (by rfl) (by rfl) (by kernel_rfl) ?_
  simp -dsimp -implicitDefEqProofs [Tryz.f81]
  refine eCall.of (right_s g h.ok h.bey 0 h.isRight) (by simp) ?_
  by_cases pl : p.length = g.agents.length
  · simp -dsimp -implicitDefEqProofs [pl]
    refine sw_loop_e (fun q : {q : Nat // q ≤ g.agents.length ∧ profTo g p q} => SS.of [(1, .v (.one (intsS p))), (2, .v (.one (.mp 0 0))), (5, I .i64 (whrTo g p q.1)), (6, I .i64 q.1)] [(0, ⟨31, rowGm g⟩)] 1)
      (fun q => g.agents.length - q.1) ⟨0, Nat.zero_le _, fun j hj => absurd hj (by omega)⟩ (by kernel_rfl) (Le.to (by simp [whrTo]) (by simp) (by simp)) ?_
    rintro ⟨i, hi, hp⟩
    by_cases a1 : i < g.agents.length
    · have wi : IntKind.i64.wrap ((i : Int) + 1) = ((i + 1 : Nat) : Int) := by rw [wrap_i64 _ (by omega) (by omega)]; rfl
      have a2 : i < p.length := by omega
      have hw := whrTo_step (g := g) (p := p) (List.getElem?_eq_getElem a1) (List.getElem?_eq_getElem a2)
      obtain ⟨w1, w2⟩ := whrTo_ok h hi hp
      have hk := h4 _ (List.getElem_mem a1)
      by_cases c1 : p[i] < 0
      · have hb := bad (fun hh => by
          obtain ⟨A, x, e1, e2, e3, e4⟩ := hh.2 i a1
          rw [List.getElem?_eq_getElem a2] at e2
          obtain rfl := Option.some.inj e2
          omega)
        simp -dsimp -implicitDefEqProofs [a1, a2, pl, wi, c1, hb]
      by_cases c2 : (g.agents[i].kinds.length : Int) ≤ p[i]
      · have hb := bad (fun hh => by
          obtain ⟨A, x, e1, e2, e3, e4⟩ := hh.2 i a1
          rw [List.getElem?_eq_getElem a2] at e2
          rw [List.getElem?_eq_getElem a1] at e1
          obtain rfl := Option.some.inj e2
          obtain rfl := Option.some.inj e1
          omega)
        simp -dsimp -implicitDefEqProofs [a1, a2, pl, wi, c1, c2, hb]
      have hp2 : profTo g p (i + 1) := fun j hj => by
        by_cases e : j = i
        · subst e; exact ⟨_, _, List.getElem?_eq_getElem a1, List.getElem?_eq_getElem a2, by omega, by omega⟩
        · exact hp j (by omega)
      obtain ⟨w3, w4⟩ := whrTo_ok (i := i + 1) h a1 hp2
      have hb1 : 0 ≤ whrTo g p i * (g.agents[i].kinds.length : Int) ∧ whrTo g p i * (g.agents[i].kinds.length : Int) < 9223372036854775808 := by
        obtain ⟨w, hw'⟩ := Int.eq_ofNat_of_zero_le w1
        rw [hw'] at w2 ⊢
        rw [← Int.natCast_mul]
        have : w * g.agents[i].kinds.length ≤ 256 * 4 := Nat.mul_le_mul (by omega) hk
        omega
      have wm : IntKind.i64.wrap (whrTo g p i * (g.agents[i].kinds.length : Int)) = whrTo g p i * (g.agents[i].kinds.length : Int) := wrap_i64 _ (by omega) (by omega)
      have wa : IntKind.i64.wrap (whrTo g p i * (g.agents[i].kinds.length : Int) + p[i]) = whrTo g p (i + 1)   := by
        have w5 : -9223372036854775808 ≤ whrTo g p (i + 1) ∧ whrTo g p (i + 1) < 9223372036854775808 := ⟨by omega, by omega⟩
        rw [← hw]; exact wrap_i64 _ w5.1 w5.2
      simp -dsimp -implicitDefEqProofs [a1, a2, pl, c1, c2]
      exact Again.by ⟨i + 1, a1, hp2⟩ (Le.to (by simp [wi, wm, wa]) (by simp) (by simp)) (by simp; omega)
    have hi2 : i = g.agents.length := by omega
    subst hi2
    have he2 : e = whr g p := by
      rcases he with he | he
      · exact he.2
      · exact absurd ⟨pl, hp⟩ he.1
    simp -dsimp -implicitDefEqProofs [pl, he2, whr]
  · have hb := bad (fun hh => pl hh.1)
    have pl' : ¬ (p.length : Int) = (g.agents.length : Int) := by omega
    simp -dsimp -implicitDefEqProofs [pl, pl', hb]
end Go.Proofs.YtaljbebkooppiaaGreat.Sh

namespace Go.Proofs.YtaljbebkooppiaaGreat.Sh
open Go Go.RowKit
section
variable {g : Gm} {l : List Vn} {p : List Int}
set_option maxRecDepth 20000 in
theorem rpath_s (h : TreeOk g l) (hn : NearV l) (hp : isProf g p) (T : Nat) (hT : isEndV l (wayV l p T) = true) (hm : ∀ t, t < T → isEndV l (wayV l p t) = false) (hTl : T < l.length) :
    CallsS Tryz.prog 82 [viS l, .one (intsS p)] (.v (.one (intsS (wayL l p T)))) := by
  have hll := h.len
  refine calls Tryz.func82 rfl (by rfl) (by rfl) (by kernel_rfl) ?_
  simp -dsimp -implicitDefEqProofs [Tryz.f82]
  refine sw_loop_e (fun q : {q : Nat × Nat // q.1 ≤ T} => SS.of [(1, .v (.one (intsS p))), (2, .v (.one (.mp 0 0))), (5, I .i64 (wayV l p q.1.1)), (6, .v (.one (.ms (q.1.2 + 1) 0 (q.1.1 + 1) 1 true)))] [(0, ⟨34, [vnsS l]⟩), (q.1.2 + 1, ⟨3, flat rowInt (wayL l p q.1.1)⟩)] (q.1.2 + 2))
    (fun q => T - q.1.1) ⟨(0, 0), Nat.zero_le _⟩ (by kernel_rfl) (Le.to (by simp [wayV]) (by simp [wayL_zero, flat]) (by simp)) ?_
  rintro ⟨⟨t, c⟩, ht⟩
  simp only at ht
  have hw := h.way p t
  have hwl := wayL_len l p t
  cases e : isEndV l (wayV l p t) with
  | false =>
    have htT : t < T := by
      rcases Nat.lt_or_ge t T with h' | h'
      · exact h'
      · obtain rfl : t = T := by omega
        rw [hT] at e; cases e
    obtain ⟨a, k, ha, s1, s2, s3, s4, s5, s6⟩ := h.said hp hw e
    have hx := rhas8_s l[wayV l p t].part k (by have := (hn _ (List.getElem_mem hw)).2.1; omega)
    have hnx : (wayV l p (t + 1) : Int) = if hasK l[wayV l p t].part k then l[wayV l p t].yes else l[wayV l p t].no := by rw [h.nextI hw e k, wayV_next e, s2, s4]
    have a0 : ¬ (a : Int) = -1 := by omega
    have hfl := flat_snoc (f := rowInt) (wayV l p (t + 1) : Int) (wayL l p t)
    rw [← wayL_succ] at hfl
    simp -dsimp -implicitDefEqProofs [hw, s1, a0, ha, s3]
    refine eCall.of hx (by simp [s1]) ?_
    cases hk : hasK l[wayV l p t].part k with
    | true =>
      rw [hk, if_pos rfl] at hnx
      simp -dsimp -implicitDefEqProofs [slots, hwl]
      refine ⟨by omega, ?_⟩
      exact Again.by ⟨(t + 1, c + 3), htT⟩ (Le.to (by simp [hnx]) (by simp [hfl, ← hnx]) (by simp)) (by simp; omega)
    | false =>
      rw [hk, if_neg (by simp)] at hnx
      simp -dsimp -implicitDefEqProofs [slots, hwl]
      refine ⟨by omega, ?_⟩
      exact Again.by ⟨(t + 1, c + 3), htT⟩ (Le.to (by simp [hnx]) (by simp [hfl, ← hnx]) (by simp)) (by simp; omega)
  | true =>
    have htT : t = T := by
      rcases Nat.lt_or_ge t T with h' | h'
      · rw [hm t h'] at e; cases e
      · omega
    subst htT
    have e1 := (isEnd_true hw).1 e
    simp -dsimp -implicitDefEqProofs [hw, e1, hwl]
end
def lotV (n o : Nat) : List FR := (List.range n).map fun i => if i = o then frQ 1 else frQ 0
theorem lotV_len (n o : Nat) : (lotV n o).length = n := by simp [lotV]
theorem lotV_set (n o : Nat) : (List.replicate n (frQ 0)).set o (frQ 1) = lotV n o := by
  refine List.ext_getElem (by simp [lotV]) fun j h1 h2 => ?_
  have e0 : (lotV n o)[j]'h2 = if j = o then frQ 1 else frQ 0 := by simp [lotV]
  rw [List.getElem_set, e0, List.getElem_replicate]
  by_cases e : o = j
  · rw [if_pos e, if_pos e.symm]
  · rw [if_neg e, if_neg (fun e' => e e'.symm)]
set_option maxRecDepth 20000 in
theorem vplain_s (n o : Nat) (hn : n ≤ 1048576) (ho : o < n) : CallsS Tryz.prog 61 [.one (.int .i64 (n : Int)), .one (.int .i64 (o : Int))] (.v (.one (frsS (lotV n o)))) := by
  have n0 := vnum_s 0 (by decide) (by decide)
  have n1 := vnum_s 1 (by decide) (by decide)
  obtain ⟨z, hz⟩ : ∃ z, z = frQ 0 := ⟨_, rfl⟩
  have hr0 : optRow [.bool false, .nils, .nils] rowFr (some z) = [S1.bool false, .sl true 1 ((toW 0).map fun x => [.int .u32 x]), .sl true 1 ((toW 1).map fun x => [.int .u32 x])] := by rw [hz]; rfl
  have hr1 : rowFr (frQ 1) = [S1.bool false, .sl true 1 ((toW 1).map fun x => [.int .u32 x]), .sl true 1 ((toW 1).map fun x => [.int .u32 x])] := rfl
  refine calls Tryz.func61 rfl (by rfl) (by rfl) (by kernel_rfl) ?_
  simp -dsimp -implicitDefEqProofs [Tryz.f61]
  refine ⟨by omega, ?_⟩
  have hrl : (List.replicate n z).length = n := by simp
  refine sw_loop_e (fun p : {p : Nat // p ≤ n} => SS.of [(1, I .i64 o), (5, .v (.one (.ms 0 0 n 3 true))), (10, I .i64 n), (11, I .i64 p.1)] [(0, ⟨26, flat (optRow [.bool false, .nils, .nils] rowFr) (filled id (List.replicate n z) p.1)⟩)] 1)
    (fun p => n - p.1) ⟨0, Nat.zero_le _⟩ (by kernel_rfl) (Le.to (by simp) (by simp [filled_zero, flat_rep _ rowFr]) (by simp)) ?_
  rintro ⟨i, hi⟩
  by_cases a1 : i < n
  · have wi : IntKind.i64.wrap ((i : Int) + 1) = ((i + 1 : Nat) : Int) := by rw [wrap_i64 _ (by omega) (by omega)]; rfl
    have ml := filled_len id (List.replicate n z) (i := i) (by omega)
    have mset := filled_set id (List.replicate n z) i (by omega)
    have hset := set3_flat (f := optRow [.bool false, .nils, .nils] rowFr) (filled id (List.replicate n z) i) i (some z) hr0 (by omega)
    rw [List.getElem_replicate, id] at mset
    rw [mset] at hset
    rw [hrl] at ml
    simp -dsimp -implicitDefEqProofs [a1]
    refine eCall.of n0 (by simp) ?_
    simp -dsimp -implicitDefEqProofs [a1, ml]
    refine ⟨by omega, ?_⟩
    exact Again.by ⟨i + 1, a1⟩ (Le.to (by simp [wi]) (by simp [hset]) (by simp)) (by simp; omega)
  · have hi2 : i = n := by omega
    subst hi2
    have hff : flat (optRow [.bool false, .nils, .nils] rowFr) (filled id (List.replicate i z) i) = flat rowFr (List.replicate i z) := by
      have := filled_full id (List.replicate i z)
      rw [hrl] at this
      rw [this]
      simp [flat, optRow]
    have hset := set3_flat (f := rowFr) (List.replicate i z) o (frQ 1) hr1 (by simpa using ho)
    rw [hz, lotV_set] at hset
    have hll := lotV_len i o
    have hro := rowsOf_flat (f := rowFr) (lotV i o) i hll.symm
    rw [← hset] at hro
    simp -dsimp -implicitDefEqProofs [hff]
    refine eCall.of n1 (by simp) ?_
    simp -dsimp -implicitDefEqProofs [ho, hz, hro]
    omega
set_option maxRecDepth 20000 in
theorem rlot_s (n o : Nat) (hn : n ≤ 1048576) : CallsS Tryz.prog 83 [.one (.int .i64 (n : Int)), .one (.int .i64 (o : Int))] (.v (.one (frsS (lotV n o)))) := by
  have n1 := ofR_s 1 (by decide) (by decide)
  refine calls Tryz.func83 rfl (by rfl) (by rfl) (by kernel_rfl) ?_
  simp -dsimp -implicitDefEqProofs [Tryz.f83]
  refine sw_loop_e (fun q : {q : Nat × Nat // q.1 ≤ n} => SS.of [(0, I .i64 n), (1, I .i64 o), (5, if q.1.1 = 0 then .v (.one .nils) else .v (.one (.ms (q.1.2 + 1) 0 q.1.1 3 true))), (6, I .i64 q.1.1)] (if q.1.1 = 0 then [] else [(q.1.2 + 1, ⟨26, flat rowFr ((lotV n o).take q.1.1)⟩)]) (q.1.2 + 2))
    (fun q => n - q.1.1) ⟨(0, 0), Nat.zero_le _⟩ (by kernel_rfl) (Le.to (by simp) (by simp) (by simp)) ?_
  rintro ⟨⟨i, c⟩, hi⟩
  simp only at hi
  have hll := lotV_len n o
  by_cases a1 : i < n
  · have wi : IntKind.i64.wrap ((i : Int) + 1) = ((i + 1 : Nat) : Int) := by rw [wrap_i64 _ (by omega) (by omega)]; rfl
    have hgi : (lotV n o)[i]'(by omega) = if i = o then frQ 1 else frQ 0 := by simp [lotV]
    have hfl := flat_snoc (f := rowFr) (lotV n o)[i] ((lotV n o).take i)
    rw [← takeSnoc (lotV n o) i (by omega), hgi] at hfl
    have htl : min i (lotV n o).length = i := by omega
    have go1 : i = o → flat rowFr ((lotV n o).take (i + 1)) = flat rowFr ((lotV n o).take i) ++ [S1.bool false, .sl true 1 ((toW 1).map fun x => [.int .u32 x]), .sl true 1 ((toW 1).map fun x => [.int .u32 x])] := fun e => by
      rw [if_pos e] at hfl; exact hfl
    have go0 : ¬ i = o → flat rowFr ((lotV n o).take (i + 1)) = flat rowFr ((lotV n o).take i) ++ [S1.bool false, .sl true 1 ((toW 0).map fun x => [.int .u32 x]), .sl true 1 ((toW 1).map fun x => [.int .u32 x])] := fun e => by
      rw [if_neg e] at hfl; exact hfl
    by_cases i0 : i = 0
    · have hif : ∀ {α : Type} (x y : α), (if i = 0 then x else y) = x := fun x y => if_pos i0
      have hf0 : flat rowFr ((lotV n o).take i) = [] := by rw [i0]; rfl
      rw [hf0, List.nil_append] at go1 go0
      by_cases e : i = o
      · have hgo := go1 e
        subst e
        simp -dsimp -implicitDefEqProofs [hif, a1]
        refine eCall.of n1 (by simp) ?_
        simp -dsimp -implicitDefEqProofs [hif, slots]
        exact Again.by ⟨(i + 1, c + 2), a1⟩ (Le.to (by simp [wi, i0, i64_1]) (by simp [hgo]) (by simp)) (by simp; omega)
      · have hgo := go0 e
        have e' : ¬ (i : Int) = (o : Int) := by omega
        simp -dsimp -implicitDefEqProofs [hif, a1, e, e']
        refine eCall.of zeroR_s (by simp) ?_
        simp -dsimp -implicitDefEqProofs [hif, slots]
        exact Again.by ⟨(i + 1, c + 2), a1⟩ (Le.to (by simp [wi, i0, i64_1]) (by simp [hgo]) (by simp)) (by simp; omega)
    · have hif : ∀ {α : Type} (x y : α), (if i = 0 then x else y) = y := fun x y => if_neg i0
      by_cases e : i = o
      · have hgo := go1 e
        subst e
        simp -dsimp -implicitDefEqProofs [hif, a1]
        refine eCall.of n1 (by simp) ?_
        simp -dsimp -implicitDefEqProofs [hif, slots, htl]
        refine ⟨by omega, ?_⟩
        exact Again.by ⟨(i + 1, c + 2), a1⟩ (Le.to (by simp [wi]) (by simp [hgo]) (by simp)) (by simp; omega)
      · have hgo := go0 e
        have e' : ¬ (i : Int) = (o : Int) := by omega
        simp -dsimp -implicitDefEqProofs [hif, a1, e, e']
        refine eCall.of zeroR_s (by simp) ?_
        simp -dsimp -implicitDefEqProofs [hif, slots, htl]
        refine ⟨by omega, ?_⟩
        exact Again.by ⟨(i + 1, c + 2), a1⟩ (Le.to (by simp [wi]) (by simp [hgo]) (by simp)) (by simp; omega)
  have hi2 : i = n := by omega
  subst hi2
  by_cases i0 : i = 0
  · subst i0
    simp -dsimp -implicitDefEqProofs [lotV]
  · have hif : ∀ {α : Type} (x y : α), (if i = 0 then x else y) = y := fun x y => if_neg i0
    have htk : (lotV i o).take i = lotV i o := List.take_of_length_le (by omega)
    simp -dsimp -implicitDefEqProofs [hif, htk, hll]
end Go.Proofs.YtaljbebkooppiaaGreat.Sh

namespace Go.Proofs.YtaljbebkooppiaaGreat.Sh
open Go Go.RowKit
instance : RowF 2 rowCe := ⟨fun _ => rfl, fun x s h => by simp at h; rcases h with rfl | rfl <;> rfl⟩
def isPlay (g : Gm) (l : List Vn) (p : List Int) (at' : Int) (way : List Int) (e : Int) : Prop :=
  (∃ d, isTree g l d ∧ d ≠ 0 ∧ at' = 0 ∧ way = [] ∧ e = d) ∨ (GmOk g ∧ TreeOk g l ∧ ¬ isProf g p ∧ at' = 0 ∧ way = [] ∧ e = 80) ∨
  (GmOk g ∧ TreeOk g l ∧ isProf g p ∧ ∃ T, T < l.length ∧ isEndV l (wayV l p T) = true ∧ (∀ t, t < T → isEndV l (wayV l p t) = false) ∧ at' = (wayV l p T : Int) ∧ way = wayL l p T ∧ e = 0)
theorem isPlay_of (g : Gm) (l : List Vn) (p : List Int) : ∃ at' way e, isPlay g l p at' way e := by
  obtain ⟨d, h1, h2⟩ := isTree_of g l
  by_cases h0 : d = 0
  · obtain ⟨g1, g2⟩ := h2.1 h0
    by_cases hp : isProf g p
    · obtain ⟨T, t1, t2, t3⟩ := g2.endOf p
      exact ⟨_, _, _, .inr (.inr ⟨g1, g2, hp, T, t1, t2, t3, rfl, rfl, rfl⟩)⟩
    · exact ⟨_, _, _, .inr (.inl ⟨g1, g2, hp, rfl, rfl, rfl⟩)⟩
  · exact ⟨_, _, _, .inl ⟨d, h1, h0, rfl, rfl, rfl⟩⟩
theorem idx_no {g : Gm} {p : List Int} (h : ¬ isProf g p) : isIdx g p (-1) := .inr ⟨h, rfl⟩
theorem idx_yes {g : Gm} (hf : Fine g) {p : List Int} (h : isProf g p) : isIdx g p (whr g p) ∧ 0 ≤ whr g p := ⟨.inl ⟨h, rfl⟩, (whrTo_ok hf (Nat.le_refl _) h.2).1⟩
theorem wayL_last (l : List Vn) (p : List Int) (T : Nat) (h : T < (wayL l p T).length) : (wayL l p T)[T] = (wayV l p T : Int) := by simp [wayL]
set_option maxRecDepth 20000 in
theorem vplay_s (g : Gm) (hg : g.ok) (hb : Sh.beyond g = false) (l : List Vn) (hl : l.length ≤ 1048576) (hv : NearV l) (p : List Int) (hp : p.length ≤ 1048576) (at' : Int) (way : List Int) (e : Int) (h : isPlay g l p at' way e) :
    CallsS Tryz.prog 29 [gmS g, viS l, .one (intsS p)] (.tup [.one (.int .i64 at'), .one (intsS way), .one (.int .i64 e)]) := by
  refine calls Tryz.func29 rfl (by rfl) (by rfl) (by kernel_rfl) ?_
  simp -dsimp -implicitDefEqProofs [Tryz.f29]
  rcases h with ⟨d, h1, h2, rfl, rfl, rfl⟩ | ⟨g1, g2, h3, rfl, rfl, rfl⟩ | ⟨g1, g2, h3, T, t1, t2, t3, rfl, rfl, rfl⟩
  · refine eCall.of (vright8_s g hg hb l hl hv e h1) (by simp) ?_
    simp -dsimp -implicitDefEqProofs [h2]
  · refine eCall.of (vright8_s g hg hb l hl hv 0 (.inr (.inr ⟨g1, g2, rfl⟩))) (by simp) ?_
    simp -dsimp -implicitDefEqProofs
    refine eCall.of (index_s g (g1.fine hg hb) p (by omega) (-1) (idx_no h3)) (by simp) ?_
    simp -dsimp -implicitDefEqProofs
  · obtain ⟨i1, i2⟩ := idx_yes (g1.fine hg hb) h3
    have i3 : ¬ whr g p < 0 := by omega
    have hwl := wayL_len l p T
    have hla := wayL_last l p T (by omega)
    have hTl := g2.len
    have wT : IntKind.i64.wrap (((T : Int) + 1) - 1) = (T : Int) := by rw [wrap_i64 _ (by omega) (by omega)]; omega
    have wT' : IntKind.i64.wrap (T : Int) = (T : Int) := wrap_i64 _ (by omega) (by omega)
    have tl : T < (wayL l p T).length := by omega
    refine eCall.of (vright8_s g hg hb l hl hv 0 (.inr (.inr ⟨g1, g2, rfl⟩))) (by simp) ?_
    simp -dsimp -implicitDefEqProofs
    refine eCall.of (index_s g (g1.fine hg hb) p (by omega) _ i1) (by simp) ?_
    simp -dsimp -implicitDefEqProofs [i3]
    refine eCall.of (vwalk_s g2 hv h3 T t2 t3 t1) (by simp) ?_
    simp -dsimp -implicitDefEqProofs [hwl, wT, wT', tl, hla]
    omega
set_option maxRecDepth 20000 in
theorem rplay_s (g : Gm) (hg : g.ok) (hb : Sh.beyond g = false) (l : List Vn) (hl : l.length ≤ 1048576) (hv : NearV l) (p : List Int) (hp : p.length ≤ 1048576) (at' : Int) (way : List Int) (e : Int) (h : isPlay g l p at' way e) :
    CallsS Tryz.prog 30 [gmS g, viS l, .one (intsS p)] (.tup [.one (.int .i64 at'), .one (intsS way), .one (.int .i64 e)]) := by
  refine calls Tryz.func30 rfl (by rfl) (by rfl) (by kernel_rfl) ?_
  simp -dsimp -implicitDefEqProofs [Tryz.f30]
  rcases h with ⟨d, h1, h2, rfl, rfl, rfl⟩ | ⟨g1, g2, h3, rfl, rfl, rfl⟩ | ⟨g1, g2, h3, T, t1, t2, t3, rfl, rfl, rfl⟩
  · refine eCall.of (rright8_s g hg hb l hl hv e h1) (by simp) ?_
    simp -dsimp -implicitDefEqProofs [h2]
  · refine eCall.of (rright8_s g hg hb l hl hv 0 (.inr (.inr ⟨g1, g2, rfl⟩))) (by simp) ?_
    simp -dsimp -implicitDefEqProofs
    refine eCall.of (rindex_s g (g1.fine hg hb) p (by omega) (-1) (idx_no h3)) (by simp) ?_
    simp -dsimp -implicitDefEqProofs
  · obtain ⟨i1, i2⟩ := idx_yes (g1.fine hg hb) h3
    have i3 : ¬ whr g p < 0 := by omega
    have hwl := wayL_len l p T
    have hla := wayL_last l p T (by omega)
    have hTl := g2.len
    have wT : IntKind.i64.wrap (((T : Int) + 1) - 1) = (T : Int) := by rw [wrap_i64 _ (by omega) (by omega)]; omega
    have wT' : IntKind.i64.wrap (T : Int) = (T : Int) := wrap_i64 _ (by omega) (by omega)
    have tl : T < (wayL l p T).length := by omega
    refine eCall.of (rright8_s g hg hb l hl hv 0 (.inr (.inr ⟨g1, g2, rfl⟩))) (by simp) ?_
    simp -dsimp -implicitDefEqProofs
    refine eCall.of (rindex_s g (g1.fine hg hb) p (by omega) _ i1) (by simp) ?_
    simp -dsimp -implicitDefEqProofs [i3]
    refine eCall.of (rpath_s g2 hv h3 T t2 t3 t1) (by simp) ?_
    simp -dsimp -implicitDefEqProofs [hwl, wT, wT', tl, hla]
    omega
def cellV (g : Gm) (x : Vn) : Ce := ⟨lotV g.outs.length x.out.toNat, x.pay.map fxF⟩
def ruleV (g : Gm) (l : List Vn) : List Ce := (profs g).map fun p => cellV g (vnAt l (endV l p))
theorem fxR_eq : fxR = fxF := rfl
set_option maxRecDepth 20000 in
set_option maxHeartbeats 1000000 in
theorem vruleof_s (g : Gm) (hg : g.ok) (hb : Sh.beyond g = false) (l : List Vn) (hl : l.length ≤ 1048576) (hv : NearV l) (h : TreeOk g l) (hG : GmOk g) :
    CallsS Tryz.prog 14 [gmS g, viS l] (.tup [ruS (ruleV g l), .one (.int .i64 0)]) := by
  have hf := hG.fine hg hb
  have hol := (sizeOk_all hf.sz).2.1
  have hal := (sizeOk_all hf.sz).1
  have hpl := profs_length g
  have hp16 := (sizeOk_all hf.sz).2.2.2.2
  have hll := h.len
  refine calls Tryz.func14 rfl (by rfl) (by rfl) (by kernel_rfl) ?_
  simp -dsimp -implicitDefEqProofs [Tryz.f14]
  refine eCall.of (vright8_s g hg hb l hl hv 0 (.inr (.inr ⟨hG, h, rfl⟩))) (by simp) ?_
  simp -dsimp -implicitDefEqProofs
  refine eCall.of (profiles_s g hf) (by simp) ?_
  simp -dsimp -implicitDefEqProofs
  refine sw_loop_e (fun q : {q : Nat × Nat // q.1 ≤ (profs g).length} => SS.of [(2, .v (.one (.mp 0 0))), (3, .v (.one (.mp 1 0))), (4, .v (.one (.mp 2 0))), (7, .v (.one (.mp 3 0))), (20, .v (.one (profsS (profs g)))), (21, I .i64 (profs g).length), (22, I .i64 q.1.1)]
      ([(0, ⟨31, rowGm g⟩), (1, ⟨34, [vnsS l]⟩), (2, ⟨45, [.nils]⟩)] ++ if q.1.1 = 0 then [(3, ⟨45, [.nils]⟩)] else [(3, ⟨45, [.ms (q.1.2 + 4) 0 q.1.1 2 true]⟩), (q.1.2 + 4, ⟨56, flat rowCe ((ruleV g l).take q.1.1)⟩)]) (q.1.2 + 5))
    (fun q => (profs g).length - q.1.1) ⟨(0, 0), Nat.zero_le _⟩ (by kernel_rfl) (Le.to (by simp) (by simp) (by simp)) ?_
  rintro ⟨⟨i, c⟩, hi⟩
  simp only at hi
  have hrl : (ruleV g l).length = (profs g).length := by simp [ruleV]
  by_cases a1 : i < (profs g).length
  · have wi : IntKind.i64.wrap ((i : Int) + 1) = ((i + 1 : Nat) : Int) := by rw [wrap_i64 _ (by omega) (by omega)]; rfl
    have hip : isProf g (profs g)[i] := by
      have := profs_at (show i < prodK g.agents by omega)
      rw [List.getElem?_eq_getElem a1] at this
      rw [Option.some.inj this]
      exact at_isProf (by omega)
    obtain ⟨T, t1, t2, t3⟩ := h.endOf (profs g)[i]
    have hen := h.endWay (profs g)[i] t2
    have hwl := wayL_len l (profs g)[i] T
    have hla := wayL_last l (profs g)[i] T (by omega)
    have wT : IntKind.i64.wrap (((T : Int) + 1) - 1) = (T : Int) := by rw [wrap_i64 _ (by omega) (by omega)]; omega
    have wT' : IntKind.i64.wrap (T : Int) = (T : Int) := wrap_i64 _ (by omega) (by omega)
    have tl : T < (wayL l (profs g)[i] T).length := by omega
    have hwi := h.way (profs g)[i] T
    have hEo := h.ends (wayV l (profs g)[i] T) hwi (by rw [vnAt_eq hwi]; exact (isEnd_true hwi).1 t2)
    rw [vnAt_eq hwi] at hEo
    obtain ⟨e1, e2, e3, -⟩ := hEo
    obtain ⟨o, ho⟩ : ∃ o : Nat, l[wayV l (profs g)[i] T].out = (o : Int) := ⟨l[wayV l (profs g)[i] T].out.toNat, by omega⟩
    have hce : (ruleV g l)[i]'(by omega) = ⟨lotV g.outs.length o, l[wayV l (profs g)[i] T].pay.map fxF⟩ := by
      simp only [ruleV, List.getElem_map, cellV]
      rw [← hen, vnAt_eq hwi, ho, Int.toNat_natCast]
    have hfl := flat_snoc (f := rowCe) (ruleV g l)[i] ((ruleV g l).take i)
    rw [← takeSnoc (ruleV g l) i (by omega), hce] at hfl
    have htl : min i (ruleV g l).length = i := by omega
    have hpo := ((hv _ (List.getElem_mem hwi)).1.f)
    have hfx := vfixed_s l[wayV l (profs g)[i] T].pay hpo.2 (by omega)
    have hla' := vplain_s g.outs.length o (by omega) (by omega)
    by_cases i0 : i = 0
    · subst i0
      have hif : ∀ {α : Type} (x y : α), (if 0 = 0 then x else y) = x := fun x y => if_pos rfl
      rw [List.take_zero, flat_nil, List.nil_append] at hfl
      simp -dsimp -implicitDefEqProofs [hif, a1]
      refine eCall.of (vwalk_s h hv hip T t2 t3 t1) (by simp) ?_
      simp -dsimp -implicitDefEqProofs [hif, hwl, wT, wT', tl, hla, hwi, ho]
      refine ⟨by omega, ?_⟩
      refine eCall.of hla' (by simp) ?_
      simp -dsimp -implicitDefEqProofs [hif]
      refine eCall.of hfx (by simp) ?_
      simp -dsimp -implicitDefEqProofs [hif, slots]
      exact Again.by ⟨(1, c + 2), a1⟩ (Le.to (by simp [i64_1]) (by simp at hfl; simp [hfl]) (by simp)) (by simp; omega)
    · have hif : ∀ {α : Type} (x y : α), (if i = 0 then x else y) = y := fun x y => if_neg i0
      simp -dsimp -implicitDefEqProofs [hif, a1]
      refine eCall.of (vwalk_s h hv hip T t2 t3 t1) (by simp) ?_
      simp -dsimp -implicitDefEqProofs [hif, hwl, wT, wT', tl, hla, hwi, ho]
      refine ⟨by omega, ?_⟩
      refine eCall.of hla' (by simp) ?_
      simp -dsimp -implicitDefEqProofs [hif]
      refine eCall.of hfx (by simp) ?_
      simp -dsimp -implicitDefEqProofs [hif, slots, htl]
      refine ⟨by omega, ?_⟩
      exact Again.by ⟨(i + 1, c + 2), a1⟩ (Le.to (by simp [wi]) (by simp [hfl]) (by simp)) (by simp; omega)
  have hi2 : i = (profs g).length := by omega
  subst hi2
  have hpp := hf.prod_pos
  have hif : ∀ {α : Type} (x y : α), (if (profs g).length = 0 then x else y) = y := fun x y => if_neg (by omega)
  have hne : ¬ profs g = [] := fun e => by rw [e] at hpl; simp at hpl; omega
  have htk : (ruleV g l).take (profs g).length = ruleV g l := List.take_of_length_le (by omega)
  simp -dsimp -implicitDefEqProofs [hif, hne, htk, hrl]
set_option maxRecDepth 20000 in
theorem vruleof_no (g : Gm) (hg : g.ok) (hb : Sh.beyond g = false) (l : List Vn) (hl : l.length ≤ 1048576) (hv : NearV l) (e : Int) (h : isTree g l e) (h0 : e ≠ 0) :
    CallsS Tryz.prog 14 [gmS g, viS l] (.tup [ruS [], .one (.int .i64 e)]) := by
  refine calls Tryz.func14 rfl (by rfl) (by rfl) (by kernel_rfl) ?_
  simp -dsimp -implicitDefEqProofs [Tryz.f14]
  refine eCall.of (vright8_s g hg hb l hl hv e h) (by simp) ?_
  simp -dsimp -implicitDefEqProofs [h0]
set_option maxRecDepth 20000 in
set_option maxHeartbeats 1000000 in
theorem rruleof_s (g : Gm) (hg : g.ok) (hb : Sh.beyond g = false) (l : List Vn) (hl : l.length ≤ 1048576) (hv : NearV l) (h : TreeOk g l) (hG : GmOk g) :
    CallsS Tryz.prog 31 [gmS g, viS l] (.tup [ruS (ruleV g l), .one (.int .i64 0)]) := by
  have hf := hG.fine hg hb
  have hol := (sizeOk_all hf.sz).2.1
  have hal := (sizeOk_all hf.sz).1
  have hpl := profs_length g
  have hp16 := (sizeOk_all hf.sz).2.2.2.2
  have hll := h.len
  refine calls Tryz.func31 rfl (by rfl) (by rfl) (by kernel_rfl) ?_
  simp -dsimp -implicitDefEqProofs [Tryz.f31]
  refine eCall.of (rright8_s g hg hb l hl hv 0 (.inr (.inr ⟨hG, h, rfl⟩))) (by simp) ?_
  simp -dsimp -implicitDefEqProofs
  refine eCall.of (rprofiles_s g hf) (by simp) ?_
  simp -dsimp -implicitDefEqProofs
  refine sw_loop_e (fun q : {q : Nat × Nat // q.1 ≤ (profs g).length} => SS.of [(2, .v (.one (.mp 0 0))), (3, .v (.one (.mp 1 0))), (4, .v (.one (.mp 2 0))), (6, .v (.one (profsS (profs g)))), (7, I .i64 q.1.1)]
      ([(0, ⟨31, rowGm g⟩), (1, ⟨34, [vnsS l]⟩)] ++ if q.1.1 = 0 then [(2, ⟨45, [.nils]⟩)] else [(2, ⟨45, [.ms (q.1.2 + 4) 0 q.1.1 2 true]⟩), (q.1.2 + 4, ⟨56, flat rowCe ((ruleV g l).take q.1.1)⟩)]) (q.1.2 + 5))
    (fun q => (profs g).length - q.1.1) ⟨(0, 0), Nat.zero_le _⟩ (by kernel_rfl) (Le.to (by simp) (by simp) (by simp)) ?_
  rintro ⟨⟨i, c⟩, hi⟩
  simp only at hi
  have hrl : (ruleV g l).length = (profs g).length := by simp [ruleV]
  by_cases a1 : i < (profs g).length
  · have wi : IntKind.i64.wrap ((i : Int) + 1) = ((i + 1 : Nat) : Int) := by rw [wrap_i64 _ (by omega) (by omega)]; rfl
    have hip : isProf g (profs g)[i] := by
      have := profs_at (show i < prodK g.agents by omega)
      rw [List.getElem?_eq_getElem a1] at this
      rw [Option.some.inj this]
      exact at_isProf (by omega)
    obtain ⟨T, t1, t2, t3⟩ := h.endOf (profs g)[i]
    have hen := h.endWay (profs g)[i] t2
    have hwl := wayL_len l (profs g)[i] T
    have hla := wayL_last l (profs g)[i] T (by omega)
    have wT : IntKind.i64.wrap (((T : Int) + 1) - 1) = (T : Int) := by rw [wrap_i64 _ (by omega) (by omega)]; omega
    have wT' : IntKind.i64.wrap (T : Int) = (T : Int) := wrap_i64 _ (by omega) (by omega)
    have tl : T < (wayL l (profs g)[i] T).length := by omega
    have hwi := h.way (profs g)[i] T
    have hEo := h.ends (wayV l (profs g)[i] T) hwi (by rw [vnAt_eq hwi]; exact (isEnd_true hwi).1 t2)
    rw [vnAt_eq hwi] at hEo
    obtain ⟨e1, e2, e3, -⟩ := hEo
    obtain ⟨o, ho⟩ : ∃ o : Nat, l[wayV l (profs g)[i] T].out = (o : Int) := ⟨l[wayV l (profs g)[i] T].out.toNat, by omega⟩
    have hce : (ruleV g l)[i]'(by omega) = ⟨lotV g.outs.length o, l[wayV l (profs g)[i] T].pay.map fxF⟩ := by
      simp only [ruleV, List.getElem_map, cellV]
      rw [← hen, vnAt_eq hwi, ho, Int.toNat_natCast]
    have hfl := flat_snoc (f := rowCe) (ruleV g l)[i] ((ruleV g l).take i)
    rw [← takeSnoc (ruleV g l) i (by omega), hce] at hfl
    have htl : min i (ruleV g l).length = i := by omega
    have hpo := ((hv _ (List.getElem_mem hwi)).1.f)
    have hfx := rfixed8_s l[wayV l (profs g)[i] T].pay (by omega) hpo.2
    rw [fxR_eq] at hfx
    have hla' := rlot_s g.outs.length o (by omega)
    by_cases i0 : i = 0
    · subst i0
      have hif : ∀ {α : Type} (x y : α), (if 0 = 0 then x else y) = x := fun x y => if_pos rfl
      rw [List.take_zero, flat_nil, List.nil_append] at hfl
      simp -dsimp -implicitDefEqProofs [hif, a1]
      refine eCall.of (rpath_s h hv hip T t2 t3 t1) (by simp) ?_
      simp -dsimp -implicitDefEqProofs [hif, hwl, wT, wT', tl, hla, hwi, ho]
      refine ⟨by omega, ?_⟩
      refine eCall.of hla' (by simp) ?_
      simp -dsimp -implicitDefEqProofs [hif]
      refine eCall.of hfx (by simp) ?_
      simp -dsimp -implicitDefEqProofs [hif, slots]
      exact Again.by ⟨(1, c + 2), a1⟩ (Le.to (by simp [i64_1]) (by simp at hfl; simp [hfl]) (by simp)) (by simp; omega)
    · have hif : ∀ {α : Type} (x y : α), (if i = 0 then x else y) = y := fun x y => if_neg i0
      simp -dsimp -implicitDefEqProofs [hif, a1]
      refine eCall.of (rpath_s h hv hip T t2 t3 t1) (by simp) ?_
      simp -dsimp -implicitDefEqProofs [hif, hwl, wT, wT', tl, hla, hwi, ho]
      refine ⟨by omega, ?_⟩
      refine eCall.of hla' (by simp) ?_
      simp -dsimp -implicitDefEqProofs [hif]
      refine eCall.of hfx (by simp) ?_
      simp -dsimp -implicitDefEqProofs [hif, slots, htl]
      refine ⟨by omega, ?_⟩
      exact Again.by ⟨(i + 1, c + 2), a1⟩ (Le.to (by simp [wi]) (by simp [hfl]) (by simp)) (by simp; omega)
  have hi2 : i = (profs g).length := by omega
  subst hi2
  have hpp := hf.prod_pos
  have hif : ∀ {α : Type} (x y : α), (if (profs g).length = 0 then x else y) = y := fun x y => if_neg (by omega)
  have hne : ¬ profs g = [] := fun e => by rw [e] at hpl; simp at hpl; omega
  have htk : (ruleV g l).take (profs g).length = ruleV g l := List.take_of_length_le (by omega)
  simp -dsimp -implicitDefEqProofs [hif, hne, htk, hrl]
set_option maxRecDepth 20000 in
theorem rruleof_no (g : Gm) (hg : g.ok) (hb : Sh.beyond g = false) (l : List Vn) (hl : l.length ≤ 1048576) (hv : NearV l) (e : Int) (h : isTree g l e) (h0 : e ≠ 0) :
    CallsS Tryz.prog 31 [gmS g, viS l] (.tup [ruS [], .one (.int .i64 e)]) := by
  refine calls Tryz.func31 rfl (by rfl) (by rfl) (by kernel_rfl) ?_
  simp -dsimp -implicitDefEqProofs [Tryz.f31]
  refine eCall.of (rright8_s g hg hb l hl hv e h) (by simp) ?_
  simp -dsimp -implicitDefEqProofs [h0]
end Go.Proofs.YtaljbebkooppiaaGreat.Sh

namespace Go.Proofs.YtaljbebkooppiaaGreat.Sh
open Go Go.RowKit
@[simp] theorem ty1 : tyOf Tryz.prog 1 = some ⟨1, 8, .cell, [.nilFunc]⟩ := by kernel_rfl
@[simp] theorem ty23 : tyOf Tryz.prog 23 = some ⟨1, 8, .cell, [.nilFunc]⟩ := by kernel_rfl
@[simp] theorem ty37 : tyOf Tryz.prog 37 = some ⟨1, 8, .cell, [.nilFunc]⟩ := by kernel_rfl
@[simp] theorem ty38 : tyOf Tryz.prog 38 = some ⟨1, 8, .cell, [.nilFunc]⟩ := by kernel_rfl
@[simp] theorem ty42 : tyOf Tryz.prog 42 = some ⟨1, 8, .cell, [.nilFunc]⟩ := by kernel_rfl
@[simp] theorem ty47 : tyOf Tryz.prog 47 = some ⟨1, 8, .cell, [.nilFunc]⟩ := by kernel_rfl
@[simp] theorem ty48 : tyOf Tryz.prog 48 = some ⟨1, 8, .cell, [.nilFunc]⟩ := by kernel_rfl
@[simp] theorem ty49 : tyOf Tryz.prog 49 = some ⟨1, 8, .cell, [.nilFunc]⟩ := by kernel_rfl
@[simp] theorem ty50 : tyOf Tryz.prog 50 = some ⟨1, 8, .cell, [.nilFunc]⟩ := by kernel_rfl
@[simp] theorem ty52 : tyOf Tryz.prog 52 = some ⟨1, 8, .cell, [.nilFunc]⟩ := by kernel_rfl
@[simp] theorem ty53 : tyOf Tryz.prog 53 = some ⟨1, 8, .cell, [.nilFunc]⟩ := by kernel_rfl
@[simp] theorem ty57 : tyOf Tryz.prog 57 = some ⟨1, 8, .cell, [.nilFunc]⟩ := by kernel_rfl
@[simp] theorem ty58 : tyOf Tryz.prog 58 = some ⟨1, 8, .cell, [.nilFunc]⟩ := by kernel_rfl
@[simp] theorem ty59 : tyOf Tryz.prog 59 = some ⟨1, 8, .cell, [.nilFunc]⟩ := by kernel_rfl
@[simp] theorem ty60 : tyOf Tryz.prog 60 = some ⟨1, 8, .cell, [.nilFunc]⟩ := by kernel_rfl
@[simp] theorem ty61 : tyOf Tryz.prog 61 = some ⟨1, 8, .cell, [.nilFunc]⟩ := by kernel_rfl
@[simp] theorem ty62 : tyOf Tryz.prog 62 = some ⟨1, 8, .cell, [.nilFunc]⟩ := by kernel_rfl
@[simp] theorem ty63 : tyOf Tryz.prog 63 = some ⟨1, 8, .cell, [.nilFunc]⟩ := by kernel_rfl
@[simp] theorem ty64 : tyOf Tryz.prog 64 = some ⟨1, 8, .cell, [.nilFunc]⟩ := by kernel_rfl
@[simp] theorem ty65 : tyOf Tryz.prog 65 = some ⟨1, 8, .cell, [.nilFunc]⟩ := by kernel_rfl
@[simp] theorem ty67 : tyOf Tryz.prog 67 = some ⟨1, 8, .cell, [.nilFunc]⟩ := by kernel_rfl
@[simp] theorem ty68 : tyOf Tryz.prog 68 = some ⟨1, 8, .cell, [.nilFunc]⟩ := by kernel_rfl
@[simp] theorem ty69 : tyOf Tryz.prog 69 = some ⟨1, 8, .cell, [.nilFunc]⟩ := by kernel_rfl
@[simp] theorem ty70 : tyOf Tryz.prog 70 = some ⟨1, 8, .cell, [.nilFunc]⟩ := by kernel_rfl
@[simp] theorem ty71 : tyOf Tryz.prog 71 = some ⟨1, 8, .cell, [.nilFunc]⟩ := by kernel_rfl
@[simp] theorem ty72 : tyOf Tryz.prog 72 = some ⟨1, 8, .cell, [.nilFunc]⟩ := by kernel_rfl
@[simp] theorem ty73 : tyOf Tryz.prog 73 = some ⟨1, 8, .cell, [.nilFunc]⟩ := by kernel_rfl
@[simp] theorem ty74 : tyOf Tryz.prog 74 = some ⟨1, 8, .cell, [.nilFunc]⟩ := by kernel_rfl
@[simp] theorem ty75 : tyOf Tryz.prog 75 = some ⟨1, 8, .cell, [.nilFunc]⟩ := by kernel_rfl
@[simp] theorem ty79 : tyOf Tryz.prog 79 = some ⟨1, 8, .cell, [.nilFunc]⟩ := by kernel_rfl
@[simp] theorem ty80 : tyOf Tryz.prog 80 = some ⟨1, 8, .cell, [.nilFunc]⟩ := by kernel_rfl
@[simp] theorem ty82 : tyOf Tryz.prog 82 = some ⟨1, 8, .cell, [.nilFunc]⟩ := by kernel_rfl
@[simp] theorem ty83 : tyOf Tryz.prog 83 = some ⟨1, 8, .cell, [.nilFunc]⟩ := by kernel_rfl
@[simp] theorem ty84 : tyOf Tryz.prog 84 = some ⟨1, 8, .cell, [.nilFunc]⟩ := by kernel_rfl
@[simp] theorem ty85 : tyOf Tryz.prog 85 = some ⟨1, 8, .cell, [.nilFunc]⟩ := by kernel_rfl
@[simp] theorem ty90 : tyOf Tryz.prog 90 = some ⟨1, 8, .cell, [.nilFunc]⟩ := by kernel_rfl
@[simp] theorem ty91 : tyOf Tryz.prog 91 = some ⟨1, 8, .cell, [.nilFunc]⟩ := by kernel_rfl
@[simp] theorem ty95 : tyOf Tryz.prog 95 = some ⟨1, 8, .cell, [.nilFunc]⟩ := by kernel_rfl
@[simp] theorem ty100 : tyOf Tryz.prog 100 = some ⟨1, 8, .cell, [.nilFunc]⟩ := by kernel_rfl
@[simp] theorem ty103 : tyOf Tryz.prog 103 = some ⟨1, 8, .cell, [.nilFunc]⟩ := by kernel_rfl
@[simp] theorem ty105 : tyOf Tryz.prog 105 = some ⟨1, 8, .cell, [.nilFunc]⟩ := by kernel_rfl
@[simp] theorem ty108 : tyOf Tryz.prog 108 = some ⟨1, 8, .cell, [.nilFunc]⟩ := by kernel_rfl
@[simp] theorem ty111 : tyOf Tryz.prog 111 = some ⟨1, 8, .cell, [.nilFunc]⟩ := by kernel_rfl
@[simp] theorem ty114 : tyOf Tryz.prog 114 = some ⟨1, 8, .cell, [.nilFunc]⟩ := by kernel_rfl
@[simp] theorem ty115 : tyOf Tryz.prog 115 = some ⟨1, 8, .cell, [.nilFunc]⟩ := by kernel_rfl
@[simp] theorem ty116 : tyOf Tryz.prog 116 = some ⟨1, 8, .cell, [.nilFunc]⟩ := by kernel_rfl
@[simp] theorem ty117 : tyOf Tryz.prog 117 = some ⟨1, 8, .cell, [.nilFunc]⟩ := by kernel_rfl
@[simp] theorem ty118 : tyOf Tryz.prog 118 = some ⟨1, 8, .cell, [.nilFunc]⟩ := by kernel_rfl
@[simp] theorem ty119 : tyOf Tryz.prog 119 = some ⟨1, 8, .cell, [.nilFunc]⟩ := by kernel_rfl
@[simp] theorem ty120 : tyOf Tryz.prog 120 = some ⟨1, 8, .cell, [.nilFunc]⟩ := by kernel_rfl
@[simp] theorem ty121 : tyOf Tryz.prog 121 = some ⟨1, 8, .cell, [.nilFunc]⟩ := by kernel_rfl
@[simp] theorem ty122 : tyOf Tryz.prog 122 = some ⟨1, 8, .cell, [.nilFunc]⟩ := by kernel_rfl
@[simp] theorem ty123 : tyOf Tryz.prog 123 = some ⟨1, 8, .cell, [.nilFunc]⟩ := by kernel_rfl
@[simp] theorem ty124 : tyOf Tryz.prog 124 = some ⟨1, 8, .cell, [.nilFunc]⟩ := by kernel_rfl
@[simp] theorem ty125 : tyOf Tryz.prog 125 = some ⟨1, 8, .cell, [.nilFunc]⟩ := by kernel_rfl
@[simp] theorem ty126 : tyOf Tryz.prog 126 = some ⟨1, 8, .cell, [.nilFunc]⟩ := by kernel_rfl
@[simp] theorem ty127 : tyOf Tryz.prog 127 = some ⟨1, 8, .cell, [.nilFunc]⟩ := by kernel_rfl
@[simp] theorem ty128 : tyOf Tryz.prog 128 = some ⟨1, 8, .cell, [.nilFunc]⟩ := by kernel_rfl
@[simp] theorem ty129 : tyOf Tryz.prog 129 = some ⟨1, 8, .cell, [.nilFunc]⟩ := by kernel_rfl
@[simp] theorem ty130 : tyOf Tryz.prog 130 = some ⟨1, 8, .cell, [.nilFunc]⟩ := by kernel_rfl
@[simp] theorem ty134 : tyOf Tryz.prog 134 = some ⟨1, 8, .cell, [.nilFunc]⟩ := by kernel_rfl
@[simp] theorem ty135 : tyOf Tryz.prog 135 = some ⟨1, 8, .cell, [.nilFunc]⟩ := by kernel_rfl
@[simp] theorem ty136 : tyOf Tryz.prog 136 = some ⟨1, 8, .cell, [.nilFunc]⟩ := by kernel_rfl
@[simp] theorem ty137 : tyOf Tryz.prog 137 = some ⟨1, 8, .cell, [.nilFunc]⟩ := by kernel_rfl
@[simp] theorem ty138 : tyOf Tryz.prog 138 = some ⟨1, 8, .cell, [.nilFunc]⟩ := by kernel_rfl
@[simp] theorem ty139 : tyOf Tryz.prog 139 = some ⟨1, 8, .cell, [.nilFunc]⟩ := by kernel_rfl
@[simp] theorem ty140 : tyOf Tryz.prog 140 = some ⟨1, 8, .cell, [.nilFunc]⟩ := by kernel_rfl
@[simp] theorem ty141 : tyOf Tryz.prog 141 = some ⟨1, 8, .cell, [.nilFunc]⟩ := by kernel_rfl
@[simp] theorem ty144 : tyOf Tryz.prog 144 = some ⟨1, 8, .cell, [.nilFunc]⟩ := by kernel_rfl
@[simp] theorem ty146 : tyOf Tryz.prog 146 = some ⟨1, 8, .cell, [.nilFunc]⟩ := by kernel_rfl
@[simp] theorem ty148 : tyOf Tryz.prog 148 = some ⟨1, 8, .cell, [.nilFunc]⟩ := by kernel_rfl
@[simp] theorem ty150 : tyOf Tryz.prog 150 = some ⟨1, 8, .cell, [.nilFunc]⟩ := by kernel_rfl
@[simp] theorem ty151 : tyOf Tryz.prog 151 = some ⟨1, 8, .cell, [.nilFunc]⟩ := by kernel_rfl
@[simp] theorem ty153 : tyOf Tryz.prog 153 = some ⟨1, 8, .cell, [.nilFunc]⟩ := by kernel_rfl
@[simp] theorem ty156 : tyOf Tryz.prog 156 = some ⟨1, 8, .cell, [.nilFunc]⟩ := by kernel_rfl
@[simp] theorem ty157 : tyOf Tryz.prog 157 = some ⟨1, 8, .cell, [.nilFunc]⟩ := by kernel_rfl
@[simp] theorem ty158 : tyOf Tryz.prog 158 = some ⟨1, 8, .cell, [.nilFunc]⟩ := by kernel_rfl
@[simp] theorem ty159 : tyOf Tryz.prog 159 = some ⟨1, 8, .cell, [.nilFunc]⟩ := by kernel_rfl
@[simp] theorem ty163 : tyOf Tryz.prog 163 = some ⟨1, 8, .cell, [.nilFunc]⟩ := by kernel_rfl
@[simp] theorem ty164 : tyOf Tryz.prog 164 = some ⟨1, 8, .cell, [.nilFunc]⟩ := by kernel_rfl
@[simp] theorem ty165 : tyOf Tryz.prog 165 = some ⟨1, 8, .cell, [.nilFunc]⟩ := by kernel_rfl
@[simp] theorem ty166 : tyOf Tryz.prog 166 = some ⟨1, 8, .cell, [.nilFunc]⟩ := by kernel_rfl
@[simp] theorem ty168 : tyOf Tryz.prog 168 = some ⟨1, 8, .cell, [.nilFunc]⟩ := by kernel_rfl
@[simp] theorem ty169 : tyOf Tryz.prog 169 = some ⟨1, 8, .cell, [.nilFunc]⟩ := by kernel_rfl
@[simp] theorem ty173 : tyOf Tryz.prog 173 = some ⟨1, 8, .cell, [.nilFunc]⟩ := by kernel_rfl
@[simp] theorem ty174 : tyOf Tryz.prog 174 = some ⟨1, 8, .cell, [.nilFunc]⟩ := by kernel_rfl
@[simp] theorem ty178 : tyOf Tryz.prog 178 = some ⟨1, 8, .cell, [.nilFunc]⟩ := by kernel_rfl
@[simp] theorem ty179 : tyOf Tryz.prog 179 = some ⟨1, 8, .cell, [.nilFunc]⟩ := by kernel_rfl
@[simp] theorem ty180 : tyOf Tryz.prog 180 = some ⟨1, 8, .cell, [.nilFunc]⟩ := by kernel_rfl
@[simp] theorem ty182 : tyOf Tryz.prog 182 = some ⟨1, 8, .cell, [.nilFunc]⟩ := by kernel_rfl
@[simp] theorem ty183 : tyOf Tryz.prog 183 = some ⟨1, 8, .cell, [.nilFunc]⟩ := by kernel_rfl
@[simp] theorem ty186 : tyOf Tryz.prog 186 = some ⟨1, 8, .cell, [.nilFunc]⟩ := by kernel_rfl
@[simp] theorem ty187 : tyOf Tryz.prog 187 = some ⟨1, 8, .cell, [.nilFunc]⟩ := by kernel_rfl
@[simp] theorem ty188 : tyOf Tryz.prog 188 = some ⟨1, 8, .cell, [.nilFunc]⟩ := by kernel_rfl
@[simp] theorem ty189 : tyOf Tryz.prog 189 = some ⟨1, 8, .cell, [.nilFunc]⟩ := by kernel_rfl
@[simp] theorem ty190 : tyOf Tryz.prog 190 = some ⟨1, 8, .cell, [.nilFunc]⟩ := by kernel_rfl
@[simp] theorem ty191 : tyOf Tryz.prog 191 = some ⟨1, 8, .cell, [.nilFunc]⟩ := by kernel_rfl
@[simp] theorem ty192 : tyOf Tryz.prog 192 = some ⟨1, 8, .cell, [.nilFunc]⟩ := by kernel_rfl
@[simp] theorem ty193 : tyOf Tryz.prog 193 = some ⟨1, 8, .cell, [.nilFunc]⟩ := by kernel_rfl
@[simp] theorem ty194 : tyOf Tryz.prog 194 = some ⟨1, 8, .cell, [.nilFunc]⟩ := by kernel_rfl
@[simp] theorem ty195 : tyOf Tryz.prog 195 = some ⟨1, 8, .cell, [.nilFunc]⟩ := by kernel_rfl
@[simp] theorem ty199 : tyOf Tryz.prog 199 = some ⟨1, 8, .cell, [.nilFunc]⟩ := by kernel_rfl
@[simp] theorem ty200 : tyOf Tryz.prog 200 = some ⟨1, 8, .cell, [.nilFunc]⟩ := by kernel_rfl
@[simp] theorem ty201 : tyOf Tryz.prog 201 = some ⟨1, 8, .cell, [.nilFunc]⟩ := by kernel_rfl
@[simp] theorem ty202 : tyOf Tryz.prog 202 = some ⟨1, 8, .cell, [.nilFunc]⟩ := by kernel_rfl
@[simp] theorem ty203 : tyOf Tryz.prog 203 = some ⟨1, 8, .cell, [.nilFunc]⟩ := by kernel_rfl
@[simp] theorem ty204 : tyOf Tryz.prog 204 = some ⟨1, 8, .cell, [.nilFunc]⟩ := by kernel_rfl
@[simp] theorem ty205 : tyOf Tryz.prog 205 = some ⟨1, 8, .cell, [.nilFunc]⟩ := by kernel_rfl
@[simp] theorem ty206 : tyOf Tryz.prog 206 = some ⟨1, 8, .cell, [.nilFunc]⟩ := by kernel_rfl
@[simp] theorem ty207 : tyOf Tryz.prog 207 = some ⟨1, 8, .cell, [.nilFunc]⟩ := by kernel_rfl
@[simp] theorem ty208 : tyOf Tryz.prog 208 = some ⟨1, 8, .cell, [.nilFunc]⟩ := by kernel_rfl
@[simp] theorem ty209 : tyOf Tryz.prog 209 = some ⟨1, 8, .cell, [.nilFunc]⟩ := by kernel_rfl
@[simp] theorem ty210 : tyOf Tryz.prog 210 = some ⟨1, 8, .cell, [.nilFunc]⟩ := by kernel_rfl
@[simp] theorem ty211 : tyOf Tryz.prog 211 = some ⟨1, 8, .cell, [.nilFunc]⟩ := by kernel_rfl
@[simp] theorem ty212 : tyOf Tryz.prog 212 = some ⟨1, 8, .cell, [.nilFunc]⟩ := by kernel_rfl
@[simp] theorem ty213 : tyOf Tryz.prog 213 = some ⟨1, 8, .cell, [.nilFunc]⟩ := by kernel_rfl
@[simp] theorem ty214 : tyOf Tryz.prog 214 = some ⟨1, 8, .cell, [.nilFunc]⟩ := by kernel_rfl
@[simp] theorem ty215 : tyOf Tryz.prog 215 = some ⟨1, 8, .cell, [.nilFunc]⟩ := by kernel_rfl
@[simp] theorem ty216 : tyOf Tryz.prog 216 = some ⟨1, 8, .cell, [.nilFunc]⟩ := by kernel_rfl
@[simp] theorem ty217 : tyOf Tryz.prog 217 = some ⟨1, 8, .cell, [.nilFunc]⟩ := by kernel_rfl
@[simp] theorem ty218 : tyOf Tryz.prog 218 = some ⟨1, 8, .cell, [.nilFunc]⟩ := by kernel_rfl
@[simp] theorem ty219 : tyOf Tryz.prog 219 = some ⟨1, 8, .cell, [.nilFunc]⟩ := by kernel_rfl
@[simp] theorem ty220 : tyOf Tryz.prog 220 = some ⟨1, 8, .cell, [.nilFunc]⟩ := by kernel_rfl
@[simp] theorem ty221 : tyOf Tryz.prog 221 = some ⟨1, 8, .cell, [.nilFunc]⟩ := by kernel_rfl
@[simp] theorem ty222 : tyOf Tryz.prog 222 = some ⟨1, 8, .cell, [.nilFunc]⟩ := by kernel_rfl
@[simp] theorem ty223 : tyOf Tryz.prog 223 = some ⟨1, 8, .cell, [.nilFunc]⟩ := by kernel_rfl
@[simp] theorem ty224 : tyOf Tryz.prog 224 = some ⟨1, 8, .cell, [.nilFunc]⟩ := by kernel_rfl
@[simp] theorem ty226 : tyOf Tryz.prog 226 = some ⟨1, 8, .cell, [.nilFunc]⟩ := by kernel_rfl
@[simp] theorem ty228 : tyOf Tryz.prog 228 = some ⟨1, 8, .cell, [.nilFunc]⟩ := by kernel_rfl
@[simp] theorem ty231 : tyOf Tryz.prog 231 = some ⟨1, 8, .cell, [.nilFunc]⟩ := by kernel_rfl
@[simp] theorem ty232 : tyOf Tryz.prog 232 = some ⟨1, 8, .cell, [.nilFunc]⟩ := by kernel_rfl
@[simp] theorem ty235 : tyOf Tryz.prog 235 = some ⟨1, 8, .cell, [.nilFunc]⟩ := by kernel_rfl
@[simp] theorem ty236 : tyOf Tryz.prog 236 = some ⟨1, 8, .cell, [.nilFunc]⟩ := by kernel_rfl
@[simp] theorem ty237 : tyOf Tryz.prog 237 = some ⟨1, 8, .cell, [.nilFunc]⟩ := by kernel_rfl
@[simp] theorem ty240 : tyOf Tryz.prog 240 = some ⟨1, 8, .cell, [.nilFunc]⟩ := by kernel_rfl
@[simp] theorem ty241 : tyOf Tryz.prog 241 = some ⟨1, 8, .cell, [.nilFunc]⟩ := by kernel_rfl
@[simp] theorem ty242 : tyOf Tryz.prog 242 = some ⟨1, 8, .cell, [.nilFunc]⟩ := by kernel_rfl
@[simp] theorem ty243 : tyOf Tryz.prog 243 = some ⟨1, 8, .cell, [.nilFunc]⟩ := by kernel_rfl
@[simp] theorem ty244 : tyOf Tryz.prog 244 = some ⟨1, 8, .cell, [.nilFunc]⟩ := by kernel_rfl
@[simp] theorem ty245 : tyOf Tryz.prog 245 = some ⟨1, 8, .cell, [.nilFunc]⟩ := by kernel_rfl
@[simp] theorem ty246 : tyOf Tryz.prog 246 = some ⟨1, 8, .cell, [.nilFunc]⟩ := by kernel_rfl
@[simp] theorem ty248 : tyOf Tryz.prog 248 = some ⟨1, 8, .cell, [.nilFunc]⟩ := by kernel_rfl
@[simp] theorem ty249 : tyOf Tryz.prog 249 = some ⟨1, 8, .cell, [.nilFunc]⟩ := by kernel_rfl
@[simp] theorem ty250 : tyOf Tryz.prog 250 = some ⟨1, 8, .cell, [.nilFunc]⟩ := by kernel_rfl
@[simp] theorem ty251 : tyOf Tryz.prog 251 = some ⟨1, 8, .cell, [.nilFunc]⟩ := by kernel_rfl
@[simp] theorem ty252 : tyOf Tryz.prog 252 = some ⟨1, 8, .cell, [.nilFunc]⟩ := by kernel_rfl
@[simp] theorem ty254 : tyOf Tryz.prog 254 = some ⟨1, 8, .cell, [.nilFunc]⟩ := by kernel_rfl
@[simp] theorem ty255 : tyOf Tryz.prog 255 = some ⟨1, 8, .cell, [.nilFunc]⟩ := by kernel_rfl
@[simp] theorem ty256 : tyOf Tryz.prog 256 = some ⟨1, 8, .cell, [.nilFunc]⟩ := by kernel_rfl
@[simp] theorem ty258 : tyOf Tryz.prog 258 = some ⟨1, 8, .cell, [.nilFunc]⟩ := by kernel_rfl
@[simp] theorem ty260 : tyOf Tryz.prog 260 = some ⟨1, 8, .cell, [.nilFunc]⟩ := by kernel_rfl
@[simp] theorem ty262 : tyOf Tryz.prog 262 = some ⟨1, 8, .cell, [.nilFunc]⟩ := by kernel_rfl
@[simp] theorem ty263 : tyOf Tryz.prog 263 = some ⟨1, 8, .cell, [.nilFunc]⟩ := by kernel_rfl
@[simp] theorem ty264 : tyOf Tryz.prog 264 = some ⟨1, 8, .cell, [.nilFunc]⟩ := by kernel_rfl
@[simp] theorem ty265 : tyOf Tryz.prog 265 = some ⟨1, 8, .cell, [.nilFunc]⟩ := by kernel_rfl
@[simp] theorem ty266 : tyOf Tryz.prog 266 = some ⟨1, 8, .cell, [.nilFunc]⟩ := by kernel_rfl
@[simp] theorem ty274 : tyOf Tryz.prog 274 = some ⟨1, 8, .cell, [.nilFunc]⟩ := by kernel_rfl
end Go.Proofs.YtaljbebkooppiaaGreat.Sh

