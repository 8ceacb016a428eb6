/- A part of the proof: R130, R131 -/
import Derived.Test.YtglhjjokijdagaaGreatL23
set_option linter.unusedSimpArgs false
set_option linter.unusedVariables false
set_option linter.unusedSectionVars false
/- A crowd: Chase, of the program. -/
namespace Go.Proofs.YtglhjjokijdagaaGreat.Sh
open Go Go.RowKit

/-- How many turns have changed nothing. -/
def calmQ (P : Nat → List Int) : Nat → Nat
  | 0 => 0
  | k + 1 => if P (k + 1) = P k then calmQ P k + 1 else 0
theorem calm_iff (P : Nat → List Int) : ∀ (k d : Nat), d ≤ calmQ P k ↔ d ≤ k ∧ ∀ i, k < i + d → i ≤ k → P i = P (i - 1)
  | 0, d => by
    unfold calmQ
    exact ⟨fun h => ⟨h, fun i h1 h2 => by omega⟩, fun h => h.1⟩
  | k + 1, d => by
    have ih := calm_iff P k
    unfold calmQ
    by_cases c : P (k + 1) = P k
    · rw [if_pos c]
      cases d with
      | zero => exact ⟨fun _ => ⟨by omega, fun i h1 h2 => by omega⟩, fun _ => by omega⟩
      | succ d =>
        constructor
        · intro h
          obtain ⟨h1, h2⟩ := (ih d).1 (by omega)
          refine ⟨by omega, fun i h3 h4 => ?_⟩
          by_cases e : i = k + 1
          · rw [e, Nat.add_sub_cancel]; exact c
          · exact h2 i (by omega) (by omega)
        · intro h
          have := (ih d).2 ⟨by omega, fun i h3 h4 => h.2 i (by omega) (by omega)⟩
          omega
    · rw [if_neg c]
      constructor
      · intro h; exact ⟨by omega, fun i h1 h2 => by omega⟩
      · intro h
        refine Nat.not_lt.1 fun hd => c ?_
        have := h.2 (k + 1) (by omega) (by omega)
        rwa [Nat.add_sub_cancel] at this
theorem still_calm (P : Nat → List Int) (n k : Nat) : StillL P n (k + 2) ↔ n ≤ calmQ P (k + 1) := by
  rw [calm_iff]
  exact ⟨fun h => ⟨by have := h.1; omega, fun i h1 h2 => h.2 i (by omega) (by omega)⟩, fun h => ⟨by have := h.1; omega, fun i h1 h2 => h.2 i (by omega) (by omega)⟩⟩
theorem calm_le (P : Nat → List Int) (k : Nat) : calmQ P k ≤ k := ((calm_iff P k _).1 (Nat.le_refl _)).1

set_option maxRecDepth 20000 in
set_option maxHeartbeats 4000000 in
theorem chaseC_s (g : Gm) (r : List Ce) (hs : Seen g r) (hf : far g = false) (six : ∀ c ∈ r, CeSix c) (tr st : List Int) (htl : tr.length ≤ 1048576) (hsl : st.length ≤ 1048576) (l : List (List Int)) (at_ e : Int) (hc : IsChase g r tr st l at_ e) :
    CallsS Tryz.prog 18 [gmS g, ruS r, .one (intsS tr), .one (intsS st)] (.tup [.one (profsS l), .one (.int .i64 at_), .one (.int .i64 e)]) := by
  obtain ⟨eg, hg1, hg2⟩ := isGood_of g r
  refine calls Tryz.func18 rfl (by rfl) (by rfl) (by kernel_rfl) ?_
  simp -dsimp -implicitDefEqProofs [Tryz.f18]
  refine eCall.of (rright_s g r hs eg hg1) (by simp) ?_
  by_cases e0 : eg = 0
  case neg =>
    obtain ⟨h1, rfl, rfl⟩ := hc.bad (mt hg2.2 e0)
    obtain rfl := h1.eq hg1
    simp -dsimp -implicitDefEqProofs [e0]
  subst e0
  have hgd := hg2.1 rfl
  have hP : Play g r := ⟨hs, hf, hgd⟩
  obtain ⟨b, hb⟩ := boolOf (AllP g [tr, st])
  simp -dsimp -implicitDefEqProofs [slots]
  refine eCall.of (cprofs_s hP [tr, st] (by simp) (by intro p hp; simp at hp; rcases hp with rfl | rfl <;> assumption) b hb) (by simp [rowsOf, List.range_succ]) ?_
  cases b with
  | false =>
    obtain ⟨rfl, rfl, rfl⟩ := hc.prof hgd (fun hh => by
      have := hb.2 (fun p hp => by simp at hp; rcases hp with rfl | rfl; exact hh.1; exact hh.2)
      cases this)
    simp -dsimp -implicitDefEqProofs
  | true =>
  have hall := hb.1 rfl
  have p1 : isProf g tr := hall tr (by simp)
  have p2 : isProf g st := hall st (by simp)
  obtain ⟨rfl, L, hE, rfl⟩ := hc.ok hgd p1 p2
  have h : Chs g r tr st := ⟨hP, six, p1, p2⟩
  have hL := hE.short h
  have hag := h.ag
  have hag4 := (sizeOk_all hP.fine.sz).1
  have hne : st ≠ [] := fun e => by have := p2.1; rw [e] at this; simp at this; omega
  have hcl := clone_s st hne hsl
  simp -dsimp -implicitDefEqProofs
  refine eCall.of hcl (by simp) ?_
  simp -dsimp -implicitDefEqProofs
  refine eCall.of hcl (by simp) ?_
  simp -dsimp -implicitDefEqProofs [slots]
  refine sw_loop_e (fun q : {q : Nat × Nat // q.1 + 1 < L} => SS.of [(2, .v (.one (intsS tr))), (4, .v (.one (.mp 0 0))), (8, .v (.one (.ms (q.1.2 + 4) 0 (q.1.1 + 1) 1 true))), (12, .v (.one (.mp 2 0))), (13, .v (.one (intsS (pathQ g r tr st q.1.1)))), (14, I .i64 g.agents.length), (15, I .i64 q.1.1), (16, I .i64 (calmQ (pathQ g r tr st) q.1.1))] [(0, ⟨26, rowGm g⟩), (2, ⟨87, rowSi g r⟩), (q.1.2 + 4, ⟨33, flat rowProf (pathL g r tr st (q.1.1 + 1))⟩)] (q.1.2 + 5))
    (fun q => L - q.1.1) ⟨(0, 0), by have := hE.two; simp only; omega⟩ (by kernel_rfl) (Le.to (by simp [pathQ, calmQ]) (by simp [pathL, pathQ, flat_prof1]) (by simp)) ?_
  rintro ⟨⟨k, c⟩, hk⟩
  simp only at hk
  obtain ⟨a, hak⟩ : ∃ a, k % g.agents.length = a := ⟨_, rfl⟩
  have hm : a < g.agents.length := by rw [← hak]; exact Nat.mod_lt k hag
  have hpk := h.prof k
  have hst := h.sit hm
  obtain ⟨t1, t2⟩ := h.kT hm
  obtain ⟨s1, s2⟩ := h.say hm hpk
  have hpl := pathL_len g r tr st (k + 1)
  have hpl2 := pathL_len g r tr st (k + 2)
  have htl' : a < tr.length := by rw [p1.1]; exact hm
  have ht3 : tr[a] = (kT tr a : Int) := by rw [List.getElem?_eq_getElem htl'] at t1; exact Option.some.inj t1
  have hsl' : a < (pathQ g r tr st k).length := by rw [hpk.1]; exact hm
  have hs3 : (pathQ g r tr st k)[a] = (sayN (pathQ g r tr st k) a : Int) := by rw [List.getElem?_eq_getElem hsl'] at s1; exact Option.some.inj s1
  have hput := put_s (pathQ g r tr st k) (a : Int) (repQ g r tr (pathQ g r tr st k) a) (by rw [hpk.1]; omega)
  rw [show putP (pathQ g r tr st k) (a : Int) (repQ g r tr (pathQ g r tr st k) a) = pathQ g r tr st (k + 1) by rw [← hak]; rfl] at hput
  obtain ⟨m, ⟨m1, m2, m3⟩, hbest⟩ := best_s hst (l := [pathQ g r tr st k]) (by simp) (fun q hq => by rw [List.mem_singleton.1 hq]; exact hpk) t2 [(kT tr a : Int), (sayN (pathQ g r tr st k) a : Int)] (by simp; omega) (by simp)
  rw [h.pick hm hpk m1 m2 m3] at hbest
  have hsame := h.same k
  rw [hak] at hsame
  have hcalm : calmQ (pathQ g r tr st) k < g.agents.length := by
    cases k with
    | zero => exact hag
    | succ j => exact Nat.not_le.1 fun hh => (hE.go (j + 2) (by omega) hk).1 ((still_calm _ _ j).2 hh)
  have hstc := still_calm (pathQ g r tr st) g.agents.length k
  have wc : IntKind.i64.wrap ((calmQ (pathQ g r tr st) k : Int) + 1) = ((calmQ (pathQ g r tr st) k + 1 : Nat) : Int) := by rw [wrap_i64 _ (by omega) (by omega)]; rfl
  have wt : IntKind.i64.wrap ((k : Int) + 1) = ((k + 1 : Nat) : Int) := by rw [wrap_i64 _ (by omega) (by omega)]; rfl
  have hfl := flat_snoc (f := rowProf) (pathQ g r tr st (k + 1)) (pathL g r tr st (k + 1))
  rw [← pathL_snoc] at hfl
  have hfl' : flat rowProf (pathL g r tr st (k + 1)) ++ [S1.sl true 1 (List.map (fun x => [S1.int .i64 x]) (pathQ g r tr st (k + 1)))] = flat rowProf (pathL g r tr st (k + 2)) := hfl.symm
  have hro := rowsOf_flat (f := rowProf) (pathL g r tr st (k + 2)) (k + 2) hpl2.symm
  have w4 : IntKind.i64.wrap (IntKind.i64.wrap ((k : Int) + 1) - (g.agents.length : Int)) = (k : Int) + 1 - (g.agents.length : Int) := by
    rw [wrap_i64 ((k : Int) + 1) (by omega) (by omega), wrap_i64 _ (by omega) (by omega)]
  have hna : ¬ g.agents = [] := List.length_pos_iff.1 hag
  have hrem : (k : Int).tmod (g.agents.length : Int) = (a : Int) := by
    rw [Int.tmod_eq_emod_of_nonneg (by omega), ← hak]; rfl
  have hrem2 : (k : Int) % (g.agents.length : Int) = (a : Int) := by rw [← hak]; rfl
  have wa : IntKind.i64.wrap (a : Int) = (a : Int) := wrap_i64 _ (by omega) (by omega)
  have w2 : IntKind.i64.wrap (((k + 2 : Nat) : Int) - 1) = ((k + 1 : Nat) : Int) := by rw [wrap_i64 _ (by omega) (by omega)]; omega
  have w3 : IntKind.i64.wrap (((k + 1 : Nat) : Int) - (g.agents.length : Int)) = ((k + 1 : Nat) : Int) - (1 * g.agents.length : Nat) := by rw [wrap_i64 _ (by omega) (by omega)]; omega
  simp -dsimp -implicitDefEqProofs [hna, hrem, hrem2, wa, htl', ht3, hsl', hs3, slots]
  refine eCall.of hbest (by simp) ?_
  simp -dsimp -implicitDefEqProofs [hna, hsl', hs3, wc]
  by_cases hrs : repQ g r tr (pathQ g r tr st k) a = sayN (pathQ g r tr st k) a
  · have hcq : calmQ (pathQ g r tr st) (k + 1) = calmQ (pathQ g r tr st) k + 1 := by rw [calmQ, if_pos (hsame.2 hrs)]
    rw [hrs] at hput
    simp -dsimp -implicitDefEqProofs [hrs, hsl', hs3]
    refine eCall.of hput (by simp) ?_
    simp -dsimp -implicitDefEqProofs [hpl, slots]
    refine ⟨⟨by omega, by omega⟩, ?_⟩
    by_cases hss : StillL (pathQ g r tr st) g.agents.length (k + 2)
    · obtain ⟨eL, rfl⟩ := hE.still (by omega) (by omega) hss
      subst eL
      have hcn : ((calmQ (pathQ g r tr st) k + 1 : Nat) : Int) = (g.agents.length : Int) := by have := hstc.1 hss; omega
      have hcn2 : calmQ (pathQ g r tr st) k + 1 = g.agents.length := by omega
      have hcn3 : (calmQ (pathQ g r tr st) k : Int) + 1 = (g.agents.length : Int) := by omega
      simp -dsimp -implicitDefEqProofs [hcn, hcn2, hcn3, hpl2, hfl', hro]
    have hcn : ¬ ((calmQ (pathQ g r tr st) k + 1 : Nat) : Int) = (g.agents.length : Int) := fun hh => hss (hstc.2 (by omega))
    have hcn2 : ¬ calmQ (pathQ g r tr st) k + 1 = g.agents.length := by omega
    have hcn3 : ¬ (calmQ (pathQ g r tr st) k : Int) + 1 = (g.agents.length : Int) := by omega
    simp -dsimp -implicitDefEqProofs [hcn, hcn2, hcn3, w2, w3]
    refine sw_loop_e (fun q : {q : Nat // q * g.agents.length ≤ k + 1 ∧ ∀ d, 0 < d → d ≤ q → pathQ g r tr st (k + 1 - d * g.agents.length) ≠ pathQ g r tr st (k + 1)} => SS.of [(2, .v (.one (intsS tr))), (4, .v (.one (.mp 0 0))), (8, .v (.one (.ms (c + 7) 0 (k + 2) 1 true))), (12, .v (.one (.mp 2 0))), (13, .v (.one (intsS (pathQ g r tr st (k + 1))))), (14, I .i64 g.agents.length), (15, I .i64 k), (16, I .i64 (calmQ (pathQ g r tr st) k + 1 : Nat)), (20, I .i64 (((k + 1 : Nat) : Int) - ((q.1 + 1) * g.agents.length : Nat)))] [(0, ⟨26, rowGm g⟩), (2, ⟨87, rowSi g r⟩), (c + 7, ⟨33, flat rowProf (pathL g r tr st (k + 2))⟩)] (c + 8))
      (fun q => k + 2 - q.1) ⟨0, by omega, fun d h1 h2 => absurd h1 (by omega)⟩ (by kernel_rfl) (Le.to (by simp [w2, w3, w4, hcq]) (by simp [hfl]) (by simp)) ?_
    rintro ⟨q, hq, hqn⟩
    have hqq : q ≤ q * g.agents.length := Nat.le_mul_of_pos_right q hag
    have hsn : (q + 1) * g.agents.length = q * g.agents.length + g.agents.length := by rw [Nat.add_mul, Nat.one_mul]
    by_cases a1 : (q + 1) * g.agents.length ≤ k + 1
    · have h0 : (0 : Int) ≤ ((k + 1 : Nat) : Int) - ((q + 1) * g.agents.length : Nat) := by omega
      obtain ⟨i, hi⟩ : ∃ i : Nat, ((k + 1 : Nat) : Int) - ((q + 1) * g.agents.length : Nat) = (i : Int) := ⟨k + 1 - (q + 1) * g.agents.length, by omega⟩
      have hie : i = k + 1 - (q + 1) * g.agents.length := by omega
      have a2 : i < k + 2 := by omega
      have a2' : i < (pathL g r tr st (k + 2)).length := by omega
      have a2i : (i : Int) < (k : Int) + 2 := by omega
      have a2j : (i : Int) < (k : Int) + 1 + 1 := by omega
      have a2k : i < k + 1 + 1 := by omega
      have a2z : (0 : Int) ≤ (i : Int) := by omega
      have wj : IntKind.i64.wrap ((i : Int) - (g.agents.length : Int)) = ((k + 1 : Nat) : Int) - ((q + 1 + 1) * g.agents.length : Nat) := by
        rw [wrap_i64 _ (by omega) (by omega), Nat.add_mul (q + 1), Nat.one_mul]; omega
      have hgi := pathL_get g r tr st a2'
      have hfg : (flat rowProf (pathL g r tr st (k + 2)))[i]? = some (intsS (pathQ g r tr st i)) := by
        rw [flat_prof, List.getElem?_map, List.getElem?_eq_getElem a2', hgi]; rfl
      have hei := equalI_s (pathQ g r tr st i) (pathQ g r tr st (k + 1)) (by rw [(h.prof i).1]; omega) (by rw [(h.prof (k + 1)).1]; omega)
      rw [hi]
      simp -dsimp -implicitDefEqProofs [a2, a2', a2i, a2j, a2k, a2z, hpl2, hgi, hfg]
      refine eCall.of hei (by simp) ?_
      by_cases c5 : pathQ g r tr st i = pathQ g r tr st (k + 1)
      · have hse : SeenAt (pathQ g r tr st) g.agents.length (k + 2) i := ⟨by omega, by rw [hie, show k + 2 - 1 - (k + 1 - (q + 1) * g.agents.length) = (q + 1) * g.agents.length by omega, Nat.mul_mod_left], c5, fun j h1 h2 h3 h4 => by
          obtain ⟨d, hd⟩ := Nat.dvd_of_mod_eq_zero h3
          rw [Nat.mul_comm] at hd
          have hd0 : 0 < d := Nat.pos_of_ne_zero fun e => by rw [e, Nat.zero_mul] at hd; omega
          have hdq : d ≤ q := Nat.not_lt.1 fun hc => by
            have : (q + 1) * g.agents.length ≤ d * g.agents.length := Nat.mul_le_mul_right _ hc
            omega
          refine hqn d hd0 hdq ?_
          rw [← hd, show k + 1 - (k + 2 - 1 - j) = j by omega]; exact h4⟩
        obtain ⟨eL, rfl⟩ := hE.seen (by omega) (by omega) hss hse
        subst eL
        simp -dsimp -implicitDefEqProofs [c5, hpl2]
      · simp -dsimp -implicitDefEqProofs [c5]
        refine Again.by ⟨q + 1, a1, fun d h1 h2 => ?_⟩ (Le.to (by simp [wj]) (by simp) (by simp)) (by simp; omega)
        by_cases e' : d = q + 1
        · rw [e', ← hie]; exact c5
        · exact hqn d h1 (by omega)
    have h0 := eq_false (show ¬ (0 : Int) ≤ ((k + 1 : Nat) : Int) - ((q + 1) * g.agents.length : Nat) by omega)
    have hno : NoSeen (pathQ g r tr st) g.agents.length (k + 2) := fun j h1 h3 h4 => by
      obtain ⟨d, hd⟩ := Nat.dvd_of_mod_eq_zero h3
      rw [Nat.mul_comm] at hd
      have hd0 : 0 < d := Nat.pos_of_ne_zero fun e => by rw [e, Nat.zero_mul] at hd; omega
      have hdq : d ≤ q := Nat.not_lt.1 fun hc => by
        have : (q + 1) * g.agents.length ≤ d * g.agents.length := Nat.mul_le_mul_right _ hc
        omega
      refine hqn d hd0 hdq ?_
      rw [← hd, show k + 1 - (k + 2 - 1 - j) = j by omega]; exact h4
    obtain ⟨z, hz⟩ : ∃ z : Int, ((k + 1 : Nat) : Int) - ((q + 1) * g.agents.length : Nat) = z := ⟨_, rfl⟩
    rw [hz] at h0 ⊢
    simp -dsimp -implicitDefEqProofs [h0]
    exact Again.by ⟨(k + 1, c + 3), hE.on (by omega) hss hno⟩ (Le.to (by simp [wt, hcq]) (by simp) (by simp)) (by simp; omega)
  · have hcq : calmQ (pathQ g r tr st) (k + 1) = 0 := by rw [calmQ, if_neg (mt hsame.1 hrs)]
    have hrs2 : ¬ (repQ g r tr (pathQ g r tr st k) a : Int) = (sayN (pathQ g r tr st k) a : Int) := by omega
    simp -dsimp -implicitDefEqProofs [hrs, hrs2, hsl', hs3]
    refine eCall.of hput (by simp) ?_
    simp -dsimp -implicitDefEqProofs [hpl, slots]
    refine ⟨⟨by omega, by omega⟩, ?_⟩
    have hss : ¬ StillL (pathQ g r tr st) g.agents.length (k + 2) := fun hh => by have := hstc.1 hh; omega
    have hcn : ¬ (0 : Int) = (g.agents.length : Int) := by omega
    have hcn2 : ¬ 0 = g.agents.length := by omega
    have hcn3 : ¬ g.agents.length = 0 := by omega
    simp -dsimp -implicitDefEqProofs [hcn, hcn2, hcn3, w2, w3]
    refine sw_loop_e (fun q : {q : Nat // q * g.agents.length ≤ k + 1 ∧ ∀ d, 0 < d → d ≤ q → pathQ g r tr st (k + 1 - d * g.agents.length) ≠ pathQ g r tr st (k + 1)} => SS.of [(2, .v (.one (intsS tr))), (4, .v (.one (.mp 0 0))), (8, .v (.one (.ms (c + 7) 0 (k + 2) 1 true))), (12, .v (.one (.mp 2 0))), (13, .v (.one (intsS (pathQ g r tr st (k + 1))))), (14, I .i64 g.agents.length), (15, I .i64 k), (16, I .i64 (0)), (20, I .i64 (((k + 1 : Nat) : Int) - ((q.1 + 1) * g.agents.length : Nat)))] [(0, ⟨26, rowGm g⟩), (2, ⟨87, rowSi g r⟩), (c + 7, ⟨33, flat rowProf (pathL g r tr st (k + 2))⟩)] (c + 8))
      (fun q => k + 2 - q.1) ⟨0, by omega, fun d h1 h2 => absurd h1 (by omega)⟩ (by kernel_rfl) (Le.to (by simp [w2, w3, w4, hcq]) (by simp [hfl]) (by simp)) ?_
    rintro ⟨q, hq, hqn⟩
    have hqq : q ≤ q * g.agents.length := Nat.le_mul_of_pos_right q hag
    have hsn : (q + 1) * g.agents.length = q * g.agents.length + g.agents.length := by rw [Nat.add_mul, Nat.one_mul]
    by_cases a1 : (q + 1) * g.agents.length ≤ k + 1
    · have h0 : (0 : Int) ≤ ((k + 1 : Nat) : Int) - ((q + 1) * g.agents.length : Nat) := by omega
      obtain ⟨i, hi⟩ : ∃ i : Nat, ((k + 1 : Nat) : Int) - ((q + 1) * g.agents.length : Nat) = (i : Int) := ⟨k + 1 - (q + 1) * g.agents.length, by omega⟩
      have hie : i = k + 1 - (q + 1) * g.agents.length := by omega
      have a2 : i < k + 2 := by omega
      have a2' : i < (pathL g r tr st (k + 2)).length := by omega
      have a2i : (i : Int) < (k : Int) + 2 := by omega
      have a2j : (i : Int) < (k : Int) + 1 + 1 := by omega
      have a2k : i < k + 1 + 1 := by omega
      have a2z : (0 : Int) ≤ (i : Int) := by omega
      have wj : IntKind.i64.wrap ((i : Int) - (g.agents.length : Int)) = ((k + 1 : Nat) : Int) - ((q + 1 + 1) * g.agents.length : Nat) := by
        rw [wrap_i64 _ (by omega) (by omega), Nat.add_mul (q + 1), Nat.one_mul]; omega
      have hgi := pathL_get g r tr st a2'
      have hfg : (flat rowProf (pathL g r tr st (k + 2)))[i]? = some (intsS (pathQ g r tr st i)) := by
        rw [flat_prof, List.getElem?_map, List.getElem?_eq_getElem a2', hgi]; rfl
      have hei := equalI_s (pathQ g r tr st i) (pathQ g r tr st (k + 1)) (by rw [(h.prof i).1]; omega) (by rw [(h.prof (k + 1)).1]; omega)
      rw [hi]
      simp -dsimp -implicitDefEqProofs [a2, a2', a2i, a2j, a2k, a2z, hpl2, hgi, hfg]
      refine eCall.of hei (by simp) ?_
      by_cases c5 : pathQ g r tr st i = pathQ g r tr st (k + 1)
      · have hse : SeenAt (pathQ g r tr st) g.agents.length (k + 2) i := ⟨by omega, by rw [hie, show k + 2 - 1 - (k + 1 - (q + 1) * g.agents.length) = (q + 1) * g.agents.length by omega, Nat.mul_mod_left], c5, fun j h1 h2 h3 h4 => by
          obtain ⟨d, hd⟩ := Nat.dvd_of_mod_eq_zero h3
          rw [Nat.mul_comm] at hd
          have hd0 : 0 < d := Nat.pos_of_ne_zero fun e => by rw [e, Nat.zero_mul] at hd; omega
          have hdq : d ≤ q := Nat.not_lt.1 fun hc => by
            have : (q + 1) * g.agents.length ≤ d * g.agents.length := Nat.mul_le_mul_right _ hc
            omega
          refine hqn d hd0 hdq ?_
          rw [← hd, show k + 1 - (k + 2 - 1 - j) = j by omega]; exact h4⟩
        obtain ⟨eL, rfl⟩ := hE.seen (by omega) (by omega) hss hse
        subst eL
        simp -dsimp -implicitDefEqProofs [c5, hpl2]
      · simp -dsimp -implicitDefEqProofs [c5]
        refine Again.by ⟨q + 1, a1, fun d h1 h2 => ?_⟩ (Le.to (by simp [wj]) (by simp) (by simp)) (by simp; omega)
        by_cases e' : d = q + 1
        · rw [e', ← hie]; exact c5
        · exact hqn d h1 (by omega)
    have h0 := eq_false (show ¬ (0 : Int) ≤ ((k + 1 : Nat) : Int) - ((q + 1) * g.agents.length : Nat) by omega)
    have hno : NoSeen (pathQ g r tr st) g.agents.length (k + 2) := fun j h1 h3 h4 => by
      obtain ⟨d, hd⟩ := Nat.dvd_of_mod_eq_zero h3
      rw [Nat.mul_comm] at hd
      have hd0 : 0 < d := Nat.pos_of_ne_zero fun e => by rw [e, Nat.zero_mul] at hd; omega
      have hdq : d ≤ q := Nat.not_lt.1 fun hc => by
        have : (q + 1) * g.agents.length ≤ d * g.agents.length := Nat.mul_le_mul_right _ hc
        omega
      refine hqn d hd0 hdq ?_
      rw [← hd, show k + 1 - (k + 2 - 1 - j) = j by omega]; exact h4
    obtain ⟨z, hz⟩ : ∃ z : Int, ((k + 1 : Nat) : Int) - ((q + 1) * g.agents.length : Nat) = z := ⟨_, rfl⟩
    rw [hz] at h0 ⊢
    simp -dsimp -implicitDefEqProofs [h0]
    exact Again.by ⟨(k + 1, c + 3), hE.on (by omega) hss hno⟩ (Le.to (by simp [wt, hcq]) (by simp) (by simp)) (by simp; omega)
end Go.Proofs.YtglhjjokijdagaaGreat.Sh

/- The law of CrowdChase. -/
namespace Go.Proofs.YtglhjjokijdagaaGreat.Sh
open Go Go.RowKit

set_option maxRecDepth 20000 in
set_option maxHeartbeats 4000000 in
theorem lawChase_s (g : Gm) (r : List Ce) (tr st : List Int) (hg : g.ok) (hl : lenOk r) (hr : ∀ c ∈ r, c.ok) (hT : tr.length ≤ 140737488355328) (hS : st.length ≤ 140737488355328) :
    CallsS Tryz.prog 4 [gmS g, ruS r, .agg [intsS tr, intsS st]] (B true) := by
  have hbe := bey14_s g r hg hl hr
  refine calls Tryz.func4 rfl (by rfl) (by rfl) (by kernel_rfl) ?_
  simp -dsimp -implicitDefEqProofs [Tryz.f4]
  refine eCall.of hbe (by simp) ?_
  cases h1 : far g with
  | true => simp -dsimp -implicitDefEqProofs
  | false =>
  cases h2 : beyondRule r with
  | true => simp -dsimp -implicitDefEqProofs
  | false =>
  by_cases c1 : 100 < tr.length
  · have c1' : (100 : Int) < (tr.length : Int) := by omega
    have c1n : ¬ (tr.length : Int) ≤ 100 := by omega
    simp -dsimp -implicitDefEqProofs [c1, c1', c1n]
  have c1' : (tr.length : Int) ≤ 100 := by omega
  have c1n := eq_false (show ¬ (100 : Int) < (tr.length : Int) by omega)
  by_cases c2 : 100 < st.length
  · have c2' : (100 : Int) < (st.length : Int) := by omega
    have c2n : ¬ (st.length : Int) ≤ 100 := by omega
    simp -dsimp -implicitDefEqProofs [c1, c1', c1n, c2, c2', c2n]
  have c2' : (st.length : Int) ≤ 100 := by omega
  have c2n := eq_false (show ¬ (100 : Int) < (st.length : Int) by omega)
  have hs := seen_of hg hr h1 h2
  have six := six_of hr h2
  obtain ⟨l, at_, e, hc⟩ := isChase_of (tr := tr) (st := st) hs h1 six
  obtain ⟨ok, bn, xx, xy, xz, lP, lX, lY, htr, hno⟩ := truth_any g r hs h1
  simp -dsimp -implicitDefEqProofs [c1, c1', c1n, c2, c2', c2n]
  refine eCall.of (chaseR_s g r hs h1 six tr st (by omega) (by omega) l at_ e hc) (by simp) ?_
  simp -dsimp -implicitDefEqProofs
  refine eCall.of (chaseC_s g r hs h1 six tr st (by omega) (by omega) l at_ e hc) (by simp) ?_
  simp -dsimp -implicitDefEqProofs
  have hsl : l.length ≤ 1048576 ∧ ∀ p ∈ l, p.length ≤ 1048576 := by
    by_cases hgd : Good g r
    · by_cases hp : isProf g tr ∧ isProf g st
      · obtain ⟨-, L, hE, rfl⟩ := hc.ok hgd hp.1 hp.2
        have h : Chs g r tr st := ⟨⟨hs, h1, hgd⟩, six, hp.1, hp.2⟩
        refine ⟨by rw [pathL_len]; have := hE.short h; omega, fun p hp => ?_⟩
        obtain ⟨i, -, rfl⟩ := List.mem_map.1 hp
        have := (h.prof i).1
        have := (sizeOk_all h.play.fine.sz).1
        omega
      · obtain ⟨-, rfl, -⟩ := hc.prof hgd hp; simp
    · obtain ⟨-, rfl, -⟩ := hc.bad hgd; simp
  refine eCall.of (sameLists_s l hsl.1 hsl.2) (by simp) ?_
  by_cases e0 : e = 0
  case neg =>
    simp -dsimp -implicitDefEqProofs [e0]
    refine eCall.of fixed_s (by simp) ?_
    simp -dsimp -implicitDefEqProofs
  have hgd : Good g r := Classical.byContradiction fun hn => by
    obtain ⟨h3, -, -⟩ := hc.bad hn
    rcases h3 with ⟨-, h3⟩ | ⟨-, -, h3⟩ | ⟨h3, -⟩
    · omega
    · omega
    · exact hn h3
  have hpp : isProf g tr ∧ isProf g st := Classical.byContradiction fun hn => by
    obtain ⟨h3, -, -⟩ := hc.prof hgd hn; omega
  obtain ⟨-, L, hE, rfl⟩ := hc.ok hgd hpp.1 hpp.2
  have hP : Play g r := ⟨hs, h1, hgd⟩
  have h : Chs g r tr st := ⟨hP, six, hpp.1, hpp.2⟩
  have hL := hE.short h
  have hL2 := hE.two
  have hag := h.ag
  have hag4 := (sizeOk_all hP.fine.sz).1
  have hpl := pathL_len g r tr st L
  have hlt : L - 1 < (pathL g r tr st L).length := by omega
  have hlg := pathL_get g r tr st hlt
  have hL1 : L - 1 < L := by omega
  have hlg' : (pathL g r tr st L)[L - 1]? = some (pathQ g r tr st (L - 1)) := by rw [List.getElem?_eq_getElem hlt, hlg]
  have w1 : IntKind.i64.wrap ((L : Int) - 1) = ((L - 1 : Nat) : Int) := by rw [wrap_i64 _ (by omega) (by omega)]; omega
  have hprl := h.prof (L - 1)
  have hsi := sameInts_s (pathQ g r tr st (L - 1)) tr (by rw [hprl.1]; omega) (by omega)
  obtain ⟨p, hpq⟩ : ∃ p, p = pathQ g r tr st (L - 1) := ⟨_, rfl⟩
  simp -dsimp -implicitDefEqProofs [e0, hpl, w1, hL1, hlg, hlg']
  rw [← hpq] at hprl hsi ⊢
  by_cases a0 : at_ < 0
  case neg =>
    have hok : ok = false := by
      cases ok with
      | false => rfl
      | true => have := (h.truthEnd (hno rfl) hE).1; omega
    subst hok
    refine sw_loop_e (fun _ : Unit => SS.of [(3, .v (.one (.mp 0 0))), (4, .v (.one (.mp 1 0))), (5, .v (.one (.mp 2 0))), (10, .v (.one (profsS (pathL g r tr st L)))), (11, I .i64 at_), (13, .v (.one (intsS p))), (14, I .i64 0)] [(0, ⟨26, rowGm g⟩), (1, ⟨29, [cesS r]⟩), (2, ⟨56, [intsS tr, intsS st]⟩)] 3)
      (fun _ => 0) () (by kernel_rfl) (Le.to (by simp) (by simp) (by simp)) ?_
    rintro ⟨⟩
    simp -dsimp -implicitDefEqProofs [hag, a0]
    refine eCall.of htr (by simp) ?_
    simp -dsimp -implicitDefEqProofs
    refine eCall.of fixed_s (by simp) ?_
    simp -dsimp -implicitDefEqProofs
  have hst : StillL (pathQ g r tr st) g.agents.length L ∧ at_ = -1 := by
    rcases hE.stop with h3 | ⟨-, i, -, h3⟩
    · exact h3
    · omega
  obtain ⟨hst, rfl⟩ := hst
  refine sw_loop_e (fun q : {q : Nat × Nat // q.1 ≤ g.agents.length} => SS.of [(3, .v (.one (.mp 0 0))), (4, .v (.one (.mp 1 0))), (5, .v (.one (.mp 2 0))), (10, .v (.one (profsS (pathL g r tr st L)))), (11, I .i64 (-1)), (13, .v (.one (intsS p))), (14, I .i64 q.1.1)] [(0, ⟨26, rowGm g⟩), (1, ⟨29, [cesS r]⟩), (2, ⟨56, [intsS tr, intsS st]⟩)] (q.1.2 + 3))
    (fun q => g.agents.length - q.1.1) ⟨(0, 0), Nat.zero_le _⟩ (by kernel_rfl) (Le.to (by simp) (by simp) (by simp)) ?_
  rintro ⟨⟨a, c⟩, ha⟩
  simp only at ha
  by_cases a1 : a < g.agents.length
  · have wa : IntKind.i64.wrap ((a : Int) + 1) = ((a + 1 : Nat) : Int) := by rw [wrap_i64 _ (by omega) (by omega)]; rfl
    have hsit := h.sit a1
    have hkl := hsit.kl
    have hk4 := hsit.kle
    obtain ⟨t1, t2⟩ := h.kT a1
    obtain ⟨s1, s2⟩ := h.say a1 hprl
    have tl : a < tr.length := by rw [hpp.1.1]; exact a1
    have sl : a < p.length := by rw [hprl.1]; exact a1
    have t3 : tr[a] = (kT tr a : Int) := by rw [List.getElem?_eq_getElem tl] at t1; exact Option.some.inj t1
    have s3 : p[a] = (sayN p a : Int) := by rw [List.getElem?_eq_getElem sl] at s1; exact Option.some.inj s1
    have z0 := hsit.sz (i := 10) (by omega) (hsit.over hprl (t := (sayN p a : Int)) (by omega) (by omega) t2)
    simp -dsimp -implicitDefEqProofs [a1, tl, sl, t3, s3]
    refine eCall.of (has14_s hsit hprl t2 s2) (by simp) ?_
    simp -dsimp -implicitDefEqProofs
    refine sw_loop_e (fun q : {q : Nat // q ≤ kl g a} => SS.of [(3, .v (.one (.mp 0 0))), (4, .v (.one (.mp 1 0))), (5, .v (.one (.mp 2 0))), (10, .v (.one (profsS (pathL g r tr st L)))), (11, I .i64 (-1)), (13, .v (.one (intsS p))), (14, I .i64 a), (15, .v (.one (.mp (c + 3) 0))), (16, I .i64 q.1)] [(0, ⟨26, rowGm g⟩), (1, ⟨29, [cesS r]⟩), (2, ⟨56, [intsS tr, intsS st]⟩), (c + 3, ⟨40, rowFr (frQ (useP g r a (kT tr a) p (sayN p a)))⟩)] (c + 4))
      (fun q => kl g a - q.1) ⟨0, Nat.zero_le _⟩ (by kernel_rfl) (Le.to (by simp) (by simp [frQ, ng]) (by simp)) ?_
    rintro ⟨k, hk⟩
    by_cases b1 : k < kl g a
    · have b2 : k < g.agents[a].kinds.length := by omega
      have wk : IntKind.i64.wrap ((k : Int) + 1) = ((k + 1 : Nat) : Int) := by rw [wrap_i64 _ (by omega) (by omega)]; rfl
      have z1 := hsit.sz (i := 10) (by omega) (hsit.over hprl (t := (k : Int)) (by omega) (by omega) t2)
      have hcm := cmpR_s (frQ (useP g r a (kT tr a) p k)) (frQ (useP g r a (kT tr a) p (sayN p a))) (frQ_ok (by omega)) (frQ_ok (by omega))
      rw [fix_frQ z1, fix_frQ z0] at hcm
      have hna := h.nash hst a1 b1
      rw [← hpq] at hna
      have hn : ¬ 0 < cmpQ (useP g r a (kT tr a) p k) (useP g r a (kT tr a) p (sayN p a)) := mt cmpQ_pos.1 (Rat.not_lt.2 hna)
      simp -dsimp -implicitDefEqProofs [a1, b2, tl, t3]
      refine eCall.of (has14_s hsit hprl t2 b1) (by simp) ?_
      simp -dsimp -implicitDefEqProofs
      refine eCall.of hcm (by simp [frQ, ng]) ?_
      simp -dsimp -implicitDefEqProofs [hn]
      exact Again.by ⟨k + 1, b1⟩ (Le.to (by simp [wk]) (by simp [frQ, ng]) (by simp)) (by simp; omega)
    have hk2 : k = kl g a := by omega
    subst hk2
    have b2 : ¬ kl g a < g.agents[a].kinds.length := by omega
    simp -dsimp -implicitDefEqProofs [a1, b2]
    exact Again.by ⟨(a + 1, c + 1), a1⟩ (Le.to (by simp [wa]) (by simp) (by simp)) (by simp; omega)
  have ha2 : a = g.agents.length := by omega
  subst ha2
  simp -dsimp -implicitDefEqProofs
  refine eCall.of htr (by simp) ?_
  cases ok with
  | false =>
    simp -dsimp -implicitDefEqProofs
    refine eCall.of fixed_s (by simp) ?_
    simp -dsimp -implicitDefEqProofs
  | true =>
  obtain ⟨-, h4, h5⟩ := h.truthEnd (hno rfl) hE
  rw [hpq, h4, decide_eq_true rfl] at hsi
  have hpt : p = tr := by rw [hpq, h4]
  have wm : IntKind.i64.wrap (IntKind.i64.wrap (2 * (g.agents.length : Int)) + 1) = ((2 * g.agents.length + 1 : Nat) : Int) := by
    rw [wrap_i64 (2 * (g.agents.length : Int)) (by omega) (by omega), wrap_i64 _ (by omega) (by omega)]; omega
  have hle : (L : Int) ≤ ((2 * g.agents.length + 1 : Nat) : Int) := by omega
  simp -dsimp -implicitDefEqProofs [hpt]
  refine eCall.of hsi (by simp) ?_
  have wm2 : IntKind.i64.wrap (2 * (g.agents.length : Int)) = 2 * (g.agents.length : Int) := wrap_i64 _ (by omega) (by omega)
  have wm3 : IntKind.i64.wrap (2 * (g.agents.length : Int) + 1) = 2 * (g.agents.length : Int) + 1 := wrap_i64 _ (by omega) (by omega)
  have hle2 := eq_true (show (L : Int) ≤ 2 * (g.agents.length : Int) + 1 by omega)
  have hle3 := eq_false (show ¬ 2 * (g.agents.length : Int) + 1 < (L : Int) by omega)
  simp -dsimp -implicitDefEqProofs [hpl, wm2, wm3, hle2, hle3]
  refine eCall.of fixed_s (by simp) ?_
  simp -dsimp -implicitDefEqProofs
end Go.Proofs.YtglhjjokijdagaaGreat.Sh

