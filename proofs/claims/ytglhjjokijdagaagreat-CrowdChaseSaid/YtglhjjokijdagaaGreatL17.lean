/- A part of the proof: R38, R39, R40, R41 -/
import Derived.Test.YtglhjjokijdagaaGreatL16
set_option linter.unusedSimpArgs false
set_option linter.unusedVariables false
set_option linter.unusedSectionVars false
/- speech: needs. -/
namespace Go.Proofs.YtglhjjokijdagaaGreat.Sh
open Go Go.RowKit

@[simp] def onceK (l : List Nd) : List MK := (onceL l).map MK.int
@[simp] def pairK (l : List Nd) : List MK := (pairL l).map fun p => MK.two p.1 p.2
theorem mem_onceK {l : List Nd} {k : Int} : MK.int k ∈ onceK l ↔ k ∈ onceL l := by
  unfold onceK
  constructor
  · intro h; obtain ⟨x, hx, e⟩ := List.mem_map.1 h; cases e; exact hx
  · exact fun h => List.mem_map.2 ⟨k, h, rfl⟩
theorem mem_pairK {l : List Nd} {a b : Int} : MK.two a b ∈ pairK l ↔ (a, b) ∈ pairL l := by
  unfold pairK
  constructor
  · intro h; obtain ⟨⟨x, y⟩, hx, e⟩ := List.mem_map.1 h; cases e; exact hx
  · exact fun h => List.mem_map.2 ⟨(a, b), h, rfl⟩
theorem onceK_of {l : List Nd} : ∀ x ∈ onceK l, x.of .int = true := by
  intro x hx; obtain ⟨s, -, rfl⟩ := List.mem_map.1 hx; rfl
theorem pairK_of {l : List Nd} : ∀ x ∈ pairK l, x.of .two = true := by
  intro x hx; obtain ⟨s, -, rfl⟩ := List.mem_map.1 hx; rfl

set_option maxRecDepth 20000 in
set_option maxHeartbeats 2000000 in
theorem needs_s (g : Gm) (hg : g.ok) (hl1 : g.outs.length ≤ 1048576) : ∀ b, (b = true ↔ NeedsOk g) → CallsS Tryz.prog 142 [gmS g] (B b) := by
  intro b hb
  obtain ⟨ga, go, gn, hA, hO, hN, -⟩ := id hg
  unfold lenOk at gn
  have mk1 : mapKT Tryz.prog 195 = some .int := by kernel_rfl
  have mk2 : mapKT Tryz.prog 196 = some .two := by kernel_rfl
  refine calls Tryz.func142 rfl (by rfl) (by rfl) (by kernel_rfl) ?_
  simp -dsimp -implicitDefEqProofs [Tryz.f142]
  refine spec_makeMap (fun r1 hr1 => ?_)
  simp -dsimp -implicitDefEqProofs
  refine spec_makeMap (fun r2 hr2 => ?_)
  have hr : ¬ r1 = r2 := by
    have := hr2 (r1, []) (by simp)
    exact this
  have hr' : ¬ r2 = r1 := fun h => hr h.symm
  simp -dsimp -implicitDefEqProofs
  refine sw_loop_e (fun p : {p : Nat × Nat // p.1 ≤ g.needs.length ∧ ∀ i (h : i < g.needs.length), i < p.1 → NeedOk g i g.needs[i]} => (SS.of [(1, .v (.one (.mp 0 0))), (3, .v (.one (.val (.map (some r1))))), (4, .v (.one (.val (.map (some r2))))), (12, .v (.one (ndsS g.needs))), (13, I .i64 g.needs.length), (14, I .i64 p.1.1)] [(0, ⟨26, rowGm g⟩)] (p.1.2 + 1)).wx { XS.nil with maps := [(r2, pairK (g.needs.take p.1.1)), (r1, onceK (g.needs.take p.1.1))] })
    (fun p => g.needs.length - p.1.1) ⟨(0, 0), Nat.zero_le _, fun i _ h => absurd h (by simp)⟩ (by kernel_rfl) (Le.toX (by simp) (by simp) (by simp) (by simp [onceL, pairL])) ?_
  rintro ⟨⟨i, c⟩, hi, hp⟩
  simp only at hi hp
  by_cases a1 : i < g.needs.length
  · have wi : IntKind.i64.wrap ((i : Int) + 1) = ((i + 1 : Nat) : Int) := by rw [wrap_i64 _ (by omega) (by omega)]; rfl
    obtain ⟨-, -, -, n4, n5, n6, -, -⟩ := hN _ (List.getElem_mem a1)
    have hs := fsign_s g.needs[i].bound n4
    have bad : ¬ NeedOk g i g.needs[i] → b = false := fun h => nf hb (fun hh => h (hh i a1))
    have good : NeedOk g i g.needs[i] → ∀ j (h : j < g.needs.length), j < i + 1 → NeedOk g j g.needs[j] := by
      intro h j hj hji
      by_cases e : j = i
      · subst e; exact h
      · exact hp j hj (by omega)
    have hsh : ∀ m ∈ g.needs.take i, ShapedOk g.agents.length g.outs.length m := by
      intro m hm
      obtain ⟨j, hj, rfl⟩ := List.getElem_of_mem hm
      rw [List.length_take] at hj
      rw [List.getElem_take]
      exact (hp j (by omega) (by omega)).1
    have ho1 : onceL (g.needs.take (i + 1)) = onceL (g.needs.take i) ++ onceL [g.needs[i]] := by rw [takeSnoc g.needs i a1, onceL_append]
    have hp1 : pairL (g.needs.take (i + 1)) = pairL (g.needs.take i) ++ pairL [g.needs[i]] := by rw [takeSnoc g.needs i a1, pairL_append]
    generalize hn : g.needs[i] = n at *
    have hnk : NeedOk g i n ↔ ShapedOk g.agents.length g.outs.length n ∧ ¬ AgainOk (g.needs.take i) n := Iff.rfl
    unfold ShapedOk at hnk
    by_cases k1 : n.kind = 1 ∨ n.kind = 2 ∨ n.kind = 3 ∨ n.kind = 4
    · have hk5 : ¬ n.kind = 5 := by omega
      have hp2 : pairL (g.needs.take (i + 1)) = pairL (g.needs.take i) := by rw [hp1]; simp [pairL, hk5]
      have ho2 : onceL (g.needs.take (i + 1)) = onceL (g.needs.take i) ++ [n.kind] := by rw [ho1]; simp [onceL, k1]
      have hnk1 : NeedOk g i n ↔ n.agent = 0 ∧ n.other = 0 ∧ ((n.kind = 4 ∧ 0 ≤ sgnQ n.bound.fix) ∨ (¬ n.kind = 4 ∧ sgnQ n.bound.fix = 0)) ∧ n.outs = [] ∧ n.swap = [] ∧ ¬ n.kind ∈ onceL (g.needs.take i) := by
        rw [hnk]
        by_cases k4 : n.kind = 4
        · rw [if_neg (by omega), if_pos k4]
          constructor
          · rintro ⟨⟨h1, h2, h3, h4, h5⟩, h6⟩
            exact ⟨h1, h2, .inl ⟨k4, h3⟩, h4, h5, fun h => h6 ((again_once k1 h1 h2 hsh).2 h)⟩
          · rintro ⟨h1, h2, h3, h4, h5, h6⟩
            rcases h3 with ⟨-, h3⟩ | ⟨h3, -⟩
            · exact ⟨⟨h1, h2, h3, h4, h5⟩, fun h => h6 ((again_once k1 h1 h2 hsh).1 h)⟩
            · exact absurd k4 h3
        · rw [if_pos (by omega)]
          constructor
          · rintro ⟨⟨h1, h2, h3, h4, h5⟩, h6⟩
            exact ⟨h1, h2, .inr ⟨k4, h3⟩, h4, h5, fun h => h6 ((again_once k1 h1 h2 hsh).2 h)⟩
          · rintro ⟨h1, h2, h3, h4, h5, h6⟩
            rcases h3 with ⟨h3, -⟩ | ⟨-, h3⟩
            · exact absurd h3 k4
            · exact ⟨⟨h1, h2, h3, h4, h5⟩, fun h => h6 ((again_once k1 h1 h2 hsh).1 h)⟩
      generalize sgnQ n.bound.fix = s at *
      rcases id k1 with k | k | k | k
      · simp -dsimp -implicitDefEqProofs [a1, wi, hn, k]
        refine spec_lookup (κ := .int) (r := r1) (ks := onceK (g.needs.take i)) (key := .int n.kind) mk1 (by simp) (by simp) onceK_of (by simp [keyOfS, k]) rfl ?_
        by_cases e0 : n.kind ∈ onceL (g.needs.take i)
        · have hb' := bad (fun h => (hnk1.1 h).2.2.2.2.2 e0)
          rw [decide_eq_true (mem_onceK.2 e0)]
          simp -dsimp -implicitDefEqProofs [hb']
        rw [decide_eq_false (mt mem_onceK.1 e0)]
        by_cases e1 : n.agent = 0
        · by_cases e2 : n.other = 0
          · by_cases e4 : n.outs = []
            · by_cases e5 : n.swap = []
              · simp -dsimp -implicitDefEqProofs [e1, e2, e4, e5, k]
                refine spec_mapUpdate (κ := .int) (r := r1) (ks := onceK (g.needs.take i)) (key := .int n.kind) mk1 (by simp) (by simp) onceK_of (by simp [keyOfS, k]) rfl (by simp) (mt mem_onceK.1 e0) ?_
                simp -dsimp -implicitDefEqProofs
                refine eCall.of hs (by simp) ?_
                by_cases e6 : s < 0
                · have hb' := bad (fun h => by have := hnk1.1 h; omega)
                  simp -dsimp -implicitDefEqProofs [e6, hb']
                by_cases e7 : 0 < s
                · have hb' := bad (fun h => by have := hnk1.1 h; omega)
                  simp -dsimp -implicitDefEqProofs [e6, e7, hb', k]
                simp -dsimp -implicitDefEqProofs [e6, e7]
                exact Again.by ⟨(i + 1, c + 1), a1, good (hnk1.2 ⟨e1, e2, by omega, e4, e5, e0⟩)⟩ (Le.toX (by simp [wi]) (by simp) (by simp) (by simp [putKey, ho2, hp2, hr', k])) (by simp; omega)
              · have hb' := bad (fun h => e5 (hnk1.1 h).2.2.2.2.1)
                simp -dsimp -implicitDefEqProofs [e1, e2, e4, e5, List.length_pos_iff.2 e5, hb']
            · have hb' := bad (fun h => e4 (hnk1.1 h).2.2.2.1)
              simp -dsimp -implicitDefEqProofs [e1, e2, e4, List.length_pos_iff.2 e4, hb']
          · have hb' := bad (fun h => e2 (hnk1.1 h).2.1)
            simp -dsimp -implicitDefEqProofs [e1, e2, hb']
        · have hb' := bad (fun h => e1 (hnk1.1 h).1)
          simp -dsimp -implicitDefEqProofs [e1, hb']
      · simp -dsimp -implicitDefEqProofs [a1, wi, hn, k]
        refine spec_lookup (κ := .int) (r := r1) (ks := onceK (g.needs.take i)) (key := .int n.kind) mk1 (by simp) (by simp) onceK_of (by simp [keyOfS, k]) rfl ?_
        by_cases e0 : n.kind ∈ onceL (g.needs.take i)
        · have hb' := bad (fun h => (hnk1.1 h).2.2.2.2.2 e0)
          rw [decide_eq_true (mem_onceK.2 e0)]
          simp -dsimp -implicitDefEqProofs [hb']
        rw [decide_eq_false (mt mem_onceK.1 e0)]
        by_cases e1 : n.agent = 0
        · by_cases e2 : n.other = 0
          · by_cases e4 : n.outs = []
            · by_cases e5 : n.swap = []
              · simp -dsimp -implicitDefEqProofs [e1, e2, e4, e5, k]
                refine spec_mapUpdate (κ := .int) (r := r1) (ks := onceK (g.needs.take i)) (key := .int n.kind) mk1 (by simp) (by simp) onceK_of (by simp [keyOfS, k]) rfl (by simp) (mt mem_onceK.1 e0) ?_
                simp -dsimp -implicitDefEqProofs
                refine eCall.of hs (by simp) ?_
                by_cases e6 : s < 0
                · have hb' := bad (fun h => by have := hnk1.1 h; omega)
                  simp -dsimp -implicitDefEqProofs [e6, hb']
                by_cases e7 : 0 < s
                · have hb' := bad (fun h => by have := hnk1.1 h; omega)
                  simp -dsimp -implicitDefEqProofs [e6, e7, hb', k]
                simp -dsimp -implicitDefEqProofs [e6, e7]
                exact Again.by ⟨(i + 1, c + 1), a1, good (hnk1.2 ⟨e1, e2, by omega, e4, e5, e0⟩)⟩ (Le.toX (by simp [wi]) (by simp) (by simp) (by simp [putKey, ho2, hp2, hr', k])) (by simp; omega)
              · have hb' := bad (fun h => e5 (hnk1.1 h).2.2.2.2.1)
                simp -dsimp -implicitDefEqProofs [e1, e2, e4, e5, List.length_pos_iff.2 e5, hb']
            · have hb' := bad (fun h => e4 (hnk1.1 h).2.2.2.1)
              simp -dsimp -implicitDefEqProofs [e1, e2, e4, List.length_pos_iff.2 e4, hb']
          · have hb' := bad (fun h => e2 (hnk1.1 h).2.1)
            simp -dsimp -implicitDefEqProofs [e1, e2, hb']
        · have hb' := bad (fun h => e1 (hnk1.1 h).1)
          simp -dsimp -implicitDefEqProofs [e1, hb']
      · simp -dsimp -implicitDefEqProofs [a1, wi, hn, k]
        refine spec_lookup (κ := .int) (r := r1) (ks := onceK (g.needs.take i)) (key := .int n.kind) mk1 (by simp) (by simp) onceK_of (by simp [keyOfS, k]) rfl ?_
        by_cases e0 : n.kind ∈ onceL (g.needs.take i)
        · have hb' := bad (fun h => (hnk1.1 h).2.2.2.2.2 e0)
          rw [decide_eq_true (mem_onceK.2 e0)]
          simp -dsimp -implicitDefEqProofs [hb']
        rw [decide_eq_false (mt mem_onceK.1 e0)]
        by_cases e1 : n.agent = 0
        · by_cases e2 : n.other = 0
          · by_cases e4 : n.outs = []
            · by_cases e5 : n.swap = []
              · simp -dsimp -implicitDefEqProofs [e1, e2, e4, e5, k]
                refine spec_mapUpdate (κ := .int) (r := r1) (ks := onceK (g.needs.take i)) (key := .int n.kind) mk1 (by simp) (by simp) onceK_of (by simp [keyOfS, k]) rfl (by simp) (mt mem_onceK.1 e0) ?_
                simp -dsimp -implicitDefEqProofs
                refine eCall.of hs (by simp) ?_
                by_cases e6 : s < 0
                · have hb' := bad (fun h => by have := hnk1.1 h; omega)
                  simp -dsimp -implicitDefEqProofs [e6, hb']
                by_cases e7 : 0 < s
                · have hb' := bad (fun h => by have := hnk1.1 h; omega)
                  simp -dsimp -implicitDefEqProofs [e6, e7, hb', k]
                simp -dsimp -implicitDefEqProofs [e6, e7]
                exact Again.by ⟨(i + 1, c + 1), a1, good (hnk1.2 ⟨e1, e2, by omega, e4, e5, e0⟩)⟩ (Le.toX (by simp [wi]) (by simp) (by simp) (by simp [putKey, ho2, hp2, hr', k])) (by simp; omega)
              · have hb' := bad (fun h => e5 (hnk1.1 h).2.2.2.2.1)
                simp -dsimp -implicitDefEqProofs [e1, e2, e4, e5, List.length_pos_iff.2 e5, hb']
            · have hb' := bad (fun h => e4 (hnk1.1 h).2.2.2.1)
              simp -dsimp -implicitDefEqProofs [e1, e2, e4, List.length_pos_iff.2 e4, hb']
          · have hb' := bad (fun h => e2 (hnk1.1 h).2.1)
            simp -dsimp -implicitDefEqProofs [e1, e2, hb']
        · have hb' := bad (fun h => e1 (hnk1.1 h).1)
          simp -dsimp -implicitDefEqProofs [e1, hb']
      · simp -dsimp -implicitDefEqProofs [a1, wi, hn, k]
        refine spec_lookup (κ := .int) (r := r1) (ks := onceK (g.needs.take i)) (key := .int n.kind) mk1 (by simp) (by simp) onceK_of (by simp [keyOfS, k]) rfl ?_
        by_cases e0 : n.kind ∈ onceL (g.needs.take i)
        · have hb' := bad (fun h => (hnk1.1 h).2.2.2.2.2 e0)
          rw [decide_eq_true (mem_onceK.2 e0)]
          simp -dsimp -implicitDefEqProofs [hb']
        rw [decide_eq_false (mt mem_onceK.1 e0)]
        by_cases e1 : n.agent = 0
        · by_cases e2 : n.other = 0
          · by_cases e4 : n.outs = []
            · by_cases e5 : n.swap = []
              · simp -dsimp -implicitDefEqProofs [e1, e2, e4, e5, k]
                refine spec_mapUpdate (κ := .int) (r := r1) (ks := onceK (g.needs.take i)) (key := .int n.kind) mk1 (by simp) (by simp) onceK_of (by simp [keyOfS, k]) rfl (by simp) (mt mem_onceK.1 e0) ?_
                simp -dsimp -implicitDefEqProofs
                refine eCall.of hs (by simp) ?_
                by_cases e6 : s < 0
                · have hb' := bad (fun h => by have := hnk1.1 h; omega)
                  simp -dsimp -implicitDefEqProofs [e6, hb']
                by_cases e7 : 0 < s
                · simp -dsimp -implicitDefEqProofs [e6, e7, k]
                  exact Again.by ⟨(i + 1, c + 1), a1, good (hnk1.2 ⟨e1, e2, by omega, e4, e5, e0⟩)⟩ (Le.toX (by simp [wi]) (by simp) (by simp) (by simp [putKey, ho2, hp2, hr', k])) (by simp; omega)
                simp -dsimp -implicitDefEqProofs [e6, e7]
                exact Again.by ⟨(i + 1, c + 1), a1, good (hnk1.2 ⟨e1, e2, by omega, e4, e5, e0⟩)⟩ (Le.toX (by simp [wi]) (by simp) (by simp) (by simp [putKey, ho2, hp2, hr', k])) (by simp; omega)
              · have hb' := bad (fun h => e5 (hnk1.1 h).2.2.2.2.1)
                simp -dsimp -implicitDefEqProofs [e1, e2, e4, e5, List.length_pos_iff.2 e5, hb']
            · have hb' := bad (fun h => e4 (hnk1.1 h).2.2.2.1)
              simp -dsimp -implicitDefEqProofs [e1, e2, e4, List.length_pos_iff.2 e4, hb']
          · have hb' := bad (fun h => e2 (hnk1.1 h).2.1)
            simp -dsimp -implicitDefEqProofs [e1, e2, hb']
        · have hb' := bad (fun h => e1 (hnk1.1 h).1)
          simp -dsimp -implicitDefEqProofs [e1, hb']
    have k1a : ¬ n.kind = 1 := fun h => k1 (.inl h)
    have k1b : ¬ n.kind = 2 := fun h => k1 (.inr (.inl h))
    have k1c : ¬ n.kind = 3 := fun h => k1 (.inr (.inr (.inl h)))
    have k1d : ¬ n.kind = 4 := fun h => k1 (.inr (.inr (.inr h)))
    rw [if_neg (by omega), if_neg k1d] at hnk
    have ho2 : onceL (g.needs.take (i + 1)) = onceL (g.needs.take i) := by rw [ho1]; simp [onceL, k1a, k1b, k1c, k1d]
    by_cases k5 : n.kind = 5
    · rw [if_pos k5] at hnk
      have hp2 : pairL (g.needs.take (i + 1)) = pairL (g.needs.take i) ++ [(n.agent, n.other)] := by rw [hp1]; simp [pairL, k5]
      rw [again_pair k5] at hnk
      by_cases e1 : n.agent < 0
      · have hb' := bad (fun h => by have := hnk.1 h; omega)
        simp -dsimp -implicitDefEqProofs [a1, wi, hn, k5, e1, hb']
      by_cases e2 : n.other ≤ n.agent
      · have hb' := bad (fun h => by have := hnk.1 h; omega)
        simp -dsimp -implicitDefEqProofs [a1, wi, hn, k5, e1, e2, hb']
      by_cases e3 : (g.agents.length : Int) ≤ n.other
      · have hb' := bad (fun h => by have := hnk.1 h; omega)
        simp -dsimp -implicitDefEqProofs [a1, wi, hn, k5, e1, e2, e3, hb']
      simp -dsimp -implicitDefEqProofs [a1, wi, hn, k5, e1, e2, e3]
      refine spec_lookup (κ := .two) (r := r2) (ks := pairK (g.needs.take i)) (key := .two n.agent n.other) mk2 (by simp) (by simp) pairK_of (by simp [keyOfS]) rfl ?_
      by_cases e4 : (n.agent, n.other) ∈ pairL (g.needs.take i)
      · have hb' := bad (fun h => (hnk.1 h).2 e4)
        rw [decide_eq_true (mem_pairK.2 e4)]
        simp -dsimp -implicitDefEqProofs [hb']
      rw [decide_eq_false (mt mem_pairK.1 e4)]
      simp -dsimp -implicitDefEqProofs
      refine eCall.of hs (by simp) ?_
      by_cases e5 : sgnQ n.bound.fix = 0
      · by_cases e6 : n.outs = []
        · simp -dsimp -implicitDefEqProofs [e5, e6]
          by_cases e7 : SwapOk n.swap g.outs.length
          · refine eCall.of (swaps_s n.swap g.outs.length hl1 true (by simp [e7])) (by simp) ?_
            simp -dsimp -implicitDefEqProofs
            refine spec_mapUpdate (κ := .two) (r := r2) (ks := pairK (g.needs.take i)) (key := .two n.agent n.other) mk2 (by simp) (by simp) pairK_of (by simp [keyOfS]) rfl (by simp) (mt mem_pairK.1 e4) ?_
            simp -dsimp -implicitDefEqProofs
            exact Again.by ⟨(i + 1, c + 2), a1, good (hnk.2 ⟨⟨by omega, by omega, by omega, e5, e6, e7⟩, e4⟩)⟩ (Le.toX (by simp [wi]) (by simp) (by simp) (by simp [putKey, ho2, hp2, hr])) (by simp; omega)
          · have hb' := bad (fun h => e7 (hnk.1 h).1.2.2.2.2.2)
            refine eCall.of (swaps_s n.swap g.outs.length hl1 false (by simp [e7])) (by simp) ?_
            simp -dsimp -implicitDefEqProofs [hb']
        · have hb' := bad (fun h => e6 (hnk.1 h).1.2.2.2.2.1)
          simp -dsimp -implicitDefEqProofs [e5, e6, List.length_pos_iff.2 e6, hb']
      · have hb' := bad (fun h => e5 (hnk.1 h).1.2.2.2.1)
        simp -dsimp -implicitDefEqProofs [e5, hb']
    rw [if_neg k5] at hnk
    have hp2 : pairL (g.needs.take (i + 1)) = pairL (g.needs.take i) := by rw [hp1]; simp [pairL, k5]
    by_cases k6 : n.kind = 6
    · rw [if_pos k6] at hnk
      have hag := again_order (l := g.needs.take i) k6
      by_cases e1 : n.agent < 0
      · have hb' := bad (fun h => by have := hnk.1 h; omega)
        simp -dsimp -implicitDefEqProofs [a1, wi, hn, k6, e1, hb']
      by_cases e2 : (g.agents.length : Int) ≤ n.agent
      · have hb' := bad (fun h => by have := hnk.1 h; omega)
        simp -dsimp -implicitDefEqProofs [a1, wi, hn, k6, e1, e2, hb']
      by_cases e3 : n.other = 0
      · simp -dsimp -implicitDefEqProofs [a1, wi, hn, k6, e1, e2, e3]
        refine eCall.of hs (by simp) ?_
        by_cases e4 : sgnQ n.bound.fix = 0
        · by_cases e5 : n.swap = []
          · simp -dsimp -implicitDefEqProofs [e4, e5]
            by_cases e6 : RiseOk n.outs g.outs.length
            · refine eCall.of (rises_s n.outs g.outs.length hl1 n5 true (by simp [e6])) (by simp) ?_
              simp -dsimp -implicitDefEqProofs
              exact Again.by ⟨(i + 1, c + 1), a1, good (hnk.2 ⟨⟨by omega, by omega, e3, e4, e6, e5⟩, hag⟩)⟩ (Le.toX (by simp [wi]) (by simp) (by simp) (by simp [ho2, hp2])) (by simp; omega)
            · have hb' := bad (fun h => e6 (hnk.1 h).1.2.2.2.2.1)
              refine eCall.of (rises_s n.outs g.outs.length hl1 n5 false (by simp [e6])) (by simp) ?_
              simp -dsimp -implicitDefEqProofs [hb']
          · have hb' := bad (fun h => e5 (hnk.1 h).1.2.2.2.2.2)
            simp -dsimp -implicitDefEqProofs [e4, e5, List.length_pos_iff.2 e5, hb']
        · have hb' := bad (fun h => e4 (hnk.1 h).1.2.2.2.1)
          simp -dsimp -implicitDefEqProofs [e4, hb']
      · have hb' := bad (fun h => e3 (hnk.1 h).1.2.2.1)
        simp -dsimp -implicitDefEqProofs [a1, wi, hn, k6, e1, e2, e3, hb']
    rw [if_neg k6] at hnk
    have hb' := bad (fun h => (hnk.1 h).1)
    simp -dsimp -implicitDefEqProofs [a1, wi, hn, k1a, k1b, k1c, k1d, k5, k6, hb']
  have hi2 : i = g.needs.length := by omega
  subst hi2
  have hb' : b = true := hb.2 (fun i h => hp i h h)
  simp -dsimp -implicitDefEqProofs [hb']
end Go.Proofs.YtglhjjokijdagaaGreat.Sh

/- speech: Right. -/
namespace Go.Proofs.YtglhjjokijdagaaGreat.Sh
open Go Go.RowKit

theorem prod_pos {l : List Ag} (h : ∀ a ∈ l, a.kinds ≠ []) : ∀ i, i ≤ l.length → 0 < prodK (l.take i)
  | 0, _ => Nat.one_pos
  | i + 1, hi => by
    rw [prodK_take (by omega)]
    exact Nat.mul_pos (prod_pos h i (by omega)) (List.length_pos_iff.2 (h _ (List.getElem_mem _)))
theorem prod_zero {l : List Ag} {a : Ag} (ha : a ∈ l) (h : a.kinds = []) : prodK l = 0 := by
  obtain ⟨i, hi, rfl⟩ := List.getElem_of_mem ha
  have e : ∀ k, i < k → k ≤ l.length → prodK (l.take k) = 0 := by
    intro k
    induction k with
    | zero => intro h; omega
    | succ k ih =>
      intro h1 h2
      rw [prodK_take (by omega)]
      by_cases c : i = k
      · subst c; rw [h]; rfl
      · rw [ih (by omega) (by omega), Nat.zero_mul]
  have := e l.length hi (Nat.le_refl _)
  rwa [List.take_length] at this

/-- What speech asks of an agent. -/
def agentIn (g : Gm) (a : Ag) : Prop := (∀ k ∈ a.kinds, RKd g.outs.length k) ∧ NamesOk (a.kinds.map Kd.name)

theorem rightOk_iff {g : Gm} : RightOk g ↔ (g.agents ≠ [] ∧ g.outs ≠ [] ∧ prodK g.agents ≠ 0 ∧ NamesOk g.outs ∧ 1 ≤ g.aim ∧ g.aim ≤ 3) ∧ (∀ a ∈ g.agents, agentIn g a) ∧ NamesOk (g.agents.map Ag.name) ∧ NeedsOk g := by
  constructor
  · rintro ⟨h1, h2, h3, h4, h5, h6, h7⟩
    refine ⟨⟨h1, h2, ?_, h4, by omega, by omega⟩, fun a ha => ⟨(h6 a ha).2.2, (h6 a ha).2.1⟩, h3, h7⟩
    have := prod_pos (l := g.agents) (fun a ha => (h6 a ha).1) g.agents.length (Nat.le_refl _)
    rw [List.take_length] at this
    omega
  · rintro ⟨⟨h1, h2, h3, h4, h5, h6⟩, h7, h8, h9⟩
    exact ⟨h1, h2, h8, h4, by omega, fun a ha => ⟨fun e => h3 (prod_zero ha e), (h7 a ha).2, (h7 a ha).1⟩, h9⟩

set_option maxRecDepth 20000 in
set_option maxHeartbeats 2000000 in
theorem sright_s (g : Gm) (hg : g.ok) (hb : beyond g = false) : ∀ e, isRight g e → CallsS Tryz.prog 106 [gmS g] (I .i64 e) := by
  intro e he
  obtain ⟨b1, b2, b3, b4⟩ := beyond_len hb
  obtain ⟨ga, go, gn, hA, hO, hN, -⟩ := id hg
  have hsl : (sizesL g).length = g.agents.length := by simp [sizesL]
  have dos := distinct_s g.outs go hO
  have das := distinct_s (g.agents.map Ag.name) (by unfold lenOk; rw [List.length_map]; omega) (fun s hs => by obtain ⟨k, hk1, rfl⟩ := List.mem_map.1 hs; exact (hA k hk1).1)
  have hnd := needs_s g hg (by omega)
  have small : sizeOk g = false → e = 1 := fun h => by
    rcases he with he | he | he
    · exact he.2
    · rw [h] at he; exact absurd he.1 (by decide)
    · rw [h] at he; exact absurd he.1 (by decide)
  -- the sizes
  refine calls_cut 3 (fun _ : {u : Unit // g.agents.length ≤ 4 ∧ g.outs.length ≤ 6 ∧ g.needs.length ≤ 12 ∧ ∀ a ∈ g.agents, a.kinds.length ≤ 4} => SS.of [(1, .v (.one (.mp 0 0))), (3, I .i64 (prodK g.agents))] [(0, ⟨26, rowGm g⟩)] 1) Tryz.func106 rfl (by rfl) (by rfl) (by rfl) (by kernel_rfl) (by kernel_rfl) ?_ ?_
  · by_cases l1 : (4 : Int) < (g.agents.length : Int)
    · have hb := small (by unfold sizeOk; rw [decide_eq_false (show ¬ g.agents.length ≤ 4 by omega)]; simp)
      simp -dsimp -implicitDefEqProofs [l1, hb]
    by_cases l2 : (6 : Int) < (g.outs.length : Int)
    · have hb := small (by unfold sizeOk; rw [decide_eq_false (show ¬ g.outs.length ≤ 6 by omega)]; simp)
      simp -dsimp -implicitDefEqProofs [l1, l2, hb]
    by_cases l3 : (12 : Int) < (g.needs.length : Int)
    · have hb := small (by unfold sizeOk; rw [decide_eq_false (show ¬ g.needs.length ≤ 12 by omega)]; simp)
      simp -dsimp -implicitDefEqProofs [l1, l2, l3, hb]
    simp -dsimp -implicitDefEqProofs [l1, l2, l3]
    refine eCall.of (sizes_s g (by omega)) (by simp) ?_
    simp -dsimp -implicitDefEqProofs [hsl]
    refine sw_loop_e (fun p : {p : Nat // p ≤ g.agents.length ∧ ∀ a ∈ g.agents.take p, a.kinds.length ≤ 4} => SS.of [(1, .v (.one (.mp 0 0))), (3, I .i64 (prodK (g.agents.take p.1))), (29, .v (.one (intsS (sizesL g)))), (30, I .i64 g.agents.length), (31, I .i64 p.1)] [(0, ⟨26, rowGm g⟩)] 1)
      (fun p => g.agents.length - p.1) ⟨0, Nat.zero_le _, by simp⟩ (by kernel_rfl) (Le.to (by simp [prodK]) (by simp) (by simp)) ?_
    rintro ⟨i, hi, hp⟩
    by_cases a1 : i < g.agents.length
    · have wi : IntKind.i64.wrap ((i : Int) + 1) = ((i + 1 : Nat) : Int) := by rw [wrap_i64 _ (by omega) (by omega)]; rfl
      have a2 : i < (sizesL g).length := by omega
      have hsi : (sizesL g)[i] = (g.agents[i].kinds.length : Int) := by simp [sizesL]
      by_cases c1 : (4 : Int) < (g.agents[i].kinds.length : Int)
      · have hb := small (by
          unfold sizeOk
          rw [List.all_eq_false.2 ⟨_, List.getElem_mem a1, by simp; omega⟩]; simp)
        simp -dsimp -implicitDefEqProofs [a1, a2, hsi, wi, c1, hb]
      have c2 : g.agents[i].kinds.length ≤ 4 := by omega
      have hp2 := all_take a1 hp c2
      have h4 := prodK_le (l := g.agents.take (i + 1)) hp2 (i + 1) (by simp; omega)
      rw [List.take_take, Nat.min_self] at h4
      have h5 : (4 : Nat) ^ (i + 1) ≤ 4 ^ 4 := Nat.pow_le_pow_right (by decide) (by omega)
      have ht := prodK_take a1
      have wm : IntKind.i64.wrap ((prodK (g.agents.take i) : Int) * (g.agents[i].kinds.length : Int)) = (prodK (g.agents.take (i + 1)) : Int) := by
        rw [ht] at h4 ⊢
        rw [← Int.natCast_mul, wrap_i64 _ (by omega) (by omega)]
      simp -dsimp -implicitDefEqProofs [a1, a2, hsi, wi, c1]
      exact Again.by ⟨i + 1, a1, hp2⟩ (Le.to (by simp [wi, wm]) (by simp) (by simp)) (by simp; omega)
    have hi2 : i = g.agents.length := by omega
    subst hi2
    rw [List.take_length] at hp
    simp -dsimp -implicitDefEqProofs
    exact Cut.by ⟨(), by omega, by omega, by omega, hp⟩ (Le.to (by simp) (by simp) (by simp))
  rintro ⟨-, l1, l2, l3, l4⟩
  have hsz : sizeOk g = decide (prodK g.agents ≤ 16) := by
    unfold sizeOk
    rw [decide_eq_true l1, decide_eq_true l2, decide_eq_true l3, List.all_eq_true.2 (fun a ha => decide_eq_true (l4 a ha))]
    rfl
  by_cases c1 : (16 : Int) < (prodK g.agents : Int)
  · have hb := small (by rw [hsz]; exact decide_eq_false (by omega))
    simp -dsimp -implicitDefEqProofs [c1, hb]
  have s1 : sizeOk g = true := by rw [hsz]; exact decide_eq_true (by omega)
  have bad : ¬ RightOk g → e = 2 := isRight_bad he s1
  rw [rightOk_iff] at bad
  by_cases e1 : (g.agents.length : Int) < 1
  · have hb := bad (fun h => h.1.1 (List.length_eq_zero_iff.1 (by omega)))
    simp -dsimp -implicitDefEqProofs [c1, e1, hb]
  by_cases e2 : (g.outs.length : Int) < 1
  · have hb := bad (fun h => h.1.2.1 (List.length_eq_zero_iff.1 (by omega)))
    simp -dsimp -implicitDefEqProofs [c1, e1, e2, hb]
  by_cases e3 : (prodK g.agents : Int) < 1
  · have hb := bad (fun h => h.1.2.2.1 (by omega))
    simp -dsimp -implicitDefEqProofs [c1, e1, e2, e3, hb]
  simp -dsimp -implicitDefEqProofs [c1, e1, e2, e3]
  by_cases e4 : NamesOk g.outs
  · refine eCall.of (dos true (by simp [e4])) (by simp) ?_
    by_cases e5 : g.aim < 1
    · have hb := bad (fun h => by have := h.1.2.2.2.2; omega)
      simp -dsimp -implicitDefEqProofs [e5, hb]
    by_cases e6 : 3 < g.aim
    · have hb := bad (fun h => by have := h.1.2.2.2.2; omega)
      simp -dsimp -implicitDefEqProofs [e5, e6, hb]
    simp -dsimp -implicitDefEqProofs [e5, e6]
    have n1 : g.agents ≠ [] := fun h => by rw [h] at e1; exact e1 (by decide)
    have n2 : g.outs ≠ [] := fun h => by rw [h] at e2; exact e2 (by decide)
    refine sw_loop_e (fun p : {p : Nat × Nat × Nat // p.1 ≤ g.agents.length ∧ p.2.2 < p.2.1 + 1 ∧ (p.1 ≠ 0 → 0 < p.2.2) ∧ ∀ a ∈ g.agents.take p.1, agentIn g a} => SS.of [(1, .v (.one (.mp 0 0))), (6, if p.1.1 = 0 then .v (.one .nils) else .v (.one (.ms p.1.2.2 0 p.1.1 1 true))), (74, .v (.one (agsS g.agents))), (75, I .i64 g.agents.length), (76, I .i64 p.1.1)] ((0, ⟨26, rowGm g⟩) :: if p.1.1 = 0 then [] else [(p.1.2.2, ⟨9, flat rowStr ((g.agents.map Ag.name).take p.1.1)⟩)]) (p.1.2.1 + 1))
      (fun p => g.agents.length - p.1.1) ⟨(0, 0, 0), Nat.zero_le _, by decide, fun h => absurd rfl h, by simp⟩ (by kernel_rfl) (Le.to (by simp) (by simp) (by simp)) ?_
    rintro ⟨⟨i, c, o⟩, hi, hoc, hoc', hp⟩
    simp only at hi hoc hoc' hp
    by_cases a1 : i < g.agents.length
    · have wi : IntKind.i64.wrap ((i : Int) + 1) = ((i + 1 : Nat) : Int) := by rw [wrap_i64 _ (by omega) (by omega)]; rfl
      have hma := List.getElem_mem a1
      have oa := hA _ hma
      have dks := distinct_s (g.agents[i].kinds.map Kd.name) (by have := b4 _ hma; unfold lenOk; rw [List.length_map]; omega) (fun s hs => by obtain ⟨k, hk1, rfl⟩ := List.mem_map.1 hs; exact (oa.2.2 k hk1).1)
      have hb4 := b4 _ hma
      have hfl := flat_snoc (f := rowStr) g.agents[i].name ((g.agents.map Ag.name).take i)
      have hsn := takeSnoc (g.agents.map Ag.name) i (by simpa using a1)
      rw [List.getElem_map] at hsn
      rw [← hsn] at hfl
      have hll : ((g.agents.map Ag.name).take i).length = i := by simp; omega
      by_cases i0 : i = 0
      · subst i0
        rw [show (g.agents.map Ag.name).take 0 = [] from rfl, flat_nil, List.nil_append] at hfl
        simp -dsimp -implicitDefEqProofs [a1, wi, slots]
        refine sw_loop_e (fun p : {p : Nat × Nat × Nat // p.1 ≤ g.agents[0].kinds.length ∧ c + 3 < p.2.1 ∧ p.2.2 < p.2.1 ∧ (p.1 ≠ 0 → c + 3 < p.2.2) ∧ ∀ k ∈ g.agents[0].kinds.take p.1, RKd g.outs.length k} => SS.of [(1, .v (.one (.mp 0 0))), (6, .v (.one (.ms (c + 3) 0 (0 + 1) 1 true))), (9, if p.1.1 = 0 then .v (.one .nils) else .v (.one (.ms p.1.2.2 0 p.1.1 1 true))), (74, .v (.one (agsS g.agents))), (75, I .i64 g.agents.length), (76, I .i64 (((0 : Nat) : Int))), (86, .v (.one (kdsS g.agents[0].kinds))), (87, I .i64 g.agents[0].kinds.length), (88, I .i64 p.1.1)] ((0, ⟨26, rowGm g⟩) :: (c + 3, ⟨9, flat rowStr ((g.agents.map Ag.name).take (0 + 1))⟩) :: if p.1.1 = 0 then [] else [(p.1.2.2, ⟨9, flat rowStr ((g.agents[0].kinds.map Kd.name).take p.1.1)⟩)]) p.1.2.1)
          (fun p => g.agents[0].kinds.length - p.1.1) ⟨(0, c + 4, 0), Nat.zero_le _, by simp, by simp, fun h => absurd rfl h, by simp⟩ (by kernel_rfl) (Le.to (by simp) (by simp [hfl]) (by simp)) ?_
        rintro ⟨⟨k, m, q⟩, hk, hcm, hq, hq', hkp⟩
        simp only at hk hcm hq hq' hkp
        by_cases a3 : k < g.agents[0].kinds.length
        · have wk : IntKind.i64.wrap ((k : Int) + 1) = ((k + 1 : Nat) : Int) := by rw [wrap_i64 _ (by omega) (by omega)]; rfl
          have hkf := flat_snoc (f := rowStr) g.agents[0].kinds[k].name ((g.agents[0].kinds.map Kd.name).take k)
          have hks := takeSnoc (g.agents[0].kinds.map Kd.name) k (by simpa using a3)
          rw [List.getElem_map] at hks
          rw [← hks] at hkf
          have hkl : ((g.agents[0].kinds.map Kd.name).take k).length = k := by simp; omega
          obtain ⟨m1, m2, m3, m4, m5⟩ := oa.2.2 _ (List.getElem_mem a3)
          have hs := fsign_s g.agents[0].kinds[k].weight m2
          have x1 : ¬ 0 = m := by omega
          have x2 : ¬ c + 3 = m := by omega
          have x3 : ¬ c + 3 = m + 1 := by omega
          have x5 : ¬ c + 3 = m + 2 := by omega
          have z1 : ¬ m = 0 := by omega
          have w1 : ¬ m = m + 1 + 1 := by omega
          have w2 : ¬ m + 1 = m + 1 + 1 := by omega
          have w3 : ¬ m = m + 1 := by omega
          have z2 : ¬ m = c + 3 := by omega
          have z3 : ¬ m + 1 = c + 3 := by omega
          have z4 : ¬ m + 2 = c + 3 := by omega
          have z5 : ¬ m + 1 + 1 = c + 3 := by omega
          have x4 : ¬ c + 3 = m + 1 + 1 := by omega
          by_cases k0 : k = 0
          · subst k0
            rw [show (g.agents[0].kinds.map Kd.name).take 0 = [] from rfl, flat_nil, List.nil_append] at hkf
            simp -dsimp -implicitDefEqProofs [a1, a3, wi, wk, slots, x1, x2, x3, x4, x5, z1, z2, z3, z4, z5, w1, w2, w3]
            refine eCall.of hs (by simp) ?_
            by_cases c1 : sgnQ g.agents[0].kinds[0].weight.fix < 0
            · have hb := bad (fun h => ((h.2.1 _ hma).1 _ (List.getElem_mem a3)).1 c1)
              simp -dsimp -implicitDefEqProofs [c1, hb]
            by_cases c2 : g.agents[0].kinds[0].worth.length = g.outs.length
            · simp -dsimp -implicitDefEqProofs [c1, c2, a3, x1, x2, x3, x4, x5, z1, z2, z3, z4, z5, w1, w2, w3]
              exact Again.by ⟨(1, m + 3, m + 2), by omega, by simp only; omega, by simp only; omega, by simp only; omega, all_take a3 hkp ⟨c1, c2⟩⟩ (Le.to (by simp [i64_1]) (by simp [hkf, hfl, x1, x2, x3, x4, x5, z1, z2, z3, z4, z5, w1, w2, w3]) (by simp)) (by simp; omega)
            · have hb := bad (fun h => c2 ((h.2.1 _ hma).1 _ (List.getElem_mem a3)).2)
              simp -dsimp -implicitDefEqProofs [c1, c2, show ¬ (g.agents[0].kinds[0].worth.length : Int) = g.outs.length by omega, hb, a3, x1, x2, x3, x4, x5, z1, z2, z3, z4, z5, w1, w2, w3]
          · have y1 : ¬ q = 0 := by have := hq' k0; omega
            have y1' : ¬ 0 = q := by omega
            have y2 : ¬ q = c + 3 := by have := hq' k0; omega
            have y2' : ¬ c + 3 = q := by omega
            have y3 : ¬ q = m := by omega
            have y3' : ¬ m = q := by omega
            have y4' : ¬ m + 1 = q := by omega
            have y5' : ¬ m + 2 = q := by omega
            have y4 : ¬ q = m + 1 := by omega
            have y5 : ¬ q = m + 2 := by omega
            simp -dsimp -implicitDefEqProofs [a1, a3, wi, wk, slots, k0, hkl, x1, x2, x3, x4, x5, z1, z2, z3, z4, z5, w1, w2, w3, y1, y1', y2, y2', y3, y4, y5, y3', y4', y5']
            refine ⟨by omega, ?_⟩
            refine eCall.of hs (by simp) ?_
            by_cases c1 : sgnQ g.agents[0].kinds[k].weight.fix < 0
            · have hb := bad (fun h => ((h.2.1 _ hma).1 _ (List.getElem_mem a3)).1 c1)
              simp -dsimp -implicitDefEqProofs [c1, hb]
            by_cases c2 : g.agents[0].kinds[k].worth.length = g.outs.length
            · simp -dsimp -implicitDefEqProofs [c1, c2, a3, k0, x1, x2, x3, x4, x5, z1, z2, z3, z4, z5, w1, w2, w3, y1, y1', y2, y2', y3, y4, y5, y3', y4', y5']
              exact Again.by ⟨(k + 1, m + 3, m + 2), by omega, by simp only; omega, by simp only; omega, by simp only; omega, all_take a3 hkp ⟨c1, c2⟩⟩ (Le.to (by simp [wk, k0]) (by simp [hkf, k0, hfl, x1, x2, x3, x4, x5, z1, z2, z3, z4, z5, w1, w2, w3, y1, y1', y2, y2', y3, y4, y5, y3', y4', y5']) (by simp)) (by simp; omega)
            · have hb := bad (fun h => c2 ((h.2.1 _ hma).1 _ (List.getElem_mem a3)).2)
              simp -dsimp -implicitDefEqProofs [c1, c2, show ¬ (g.agents[0].kinds[k].worth.length : Int) = g.outs.length by omega, hb, a3, k0, x1, x2, x3, x4, x5, z1, z2, z3, z4, z5, w1, w2, w3, y1, y1', y2, y2', y3, y4, y5, y3', y4', y5']
        have hk2 : k = g.agents[0].kinds.length := by omega
        subst hk2
        rw [List.take_length] at hkp
        have x1 : ¬ 0 = c + 3 := by omega
        by_cases k0 : g.agents[0].kinds.length = 0
        · have k1 : g.agents[0].kinds = [] := List.length_eq_zero_iff.1 k0
          simp -dsimp -implicitDefEqProofs [k0, k1]
          by_cases c3 : NamesOk (g.agents[0].kinds.map Kd.name)
          · refine eCall.of (dks true (by simp [c3])) (by simp [k1]) ?_
            simp -dsimp -implicitDefEqProofs
            exact Again.by ⟨(0 + 1, m, c + 3), by omega, by simp only; omega, by simp only; omega, all_take a1 hp ⟨hkp, c3⟩⟩ (Le.to (by simp [wi, i64_1]) (by simp [hfl]) (by simp)) (by simp; omega)
          · have hb := bad (fun h => c3 (h.2.1 _ hma).2)
            refine eCall.of (dks false (by simp [c3])) (by simp [k1]) ?_
            simp -dsimp -implicitDefEqProofs [hb]
        · have y1 : ¬ q = 0 := by have := hq' k0; omega
          have y1' : ¬ 0 = q := by omega
          have y2 : ¬ q = c + 3 := by have := hq' k0; omega
          have y2' : ¬ c + 3 = q := by omega
          have htk : (g.agents[0].kinds.map (rowStr ∘ Kd.name)).take g.agents[0].kinds.length = g.agents[0].kinds.map ((fun s => [S1.str s]) ∘ Kd.name) := by rw [List.take_of_length_le (by simp)]; rfl
          simp -dsimp -implicitDefEqProofs [k0, y1, y1', y2, y2', x1, htk]
          by_cases c3 : NamesOk (g.agents[0].kinds.map Kd.name)
          · refine eCall.of (dks true (by simp [c3])) (by simp) ?_
            simp -dsimp -implicitDefEqProofs [y1, y1', y2, y2', x1]
            exact Again.by ⟨(0 + 1, m, c + 3), by omega, by simp only; omega, by simp only; omega, all_take a1 hp ⟨hkp, c3⟩⟩ (Le.to (by simp [wi, i64_1, y1, y1', y2, y2', x1]) (by simp [hfl, y1, y1', y2, y2', x1]) (by simp)) (by simp; omega)
          · have hb := bad (fun h => c3 (h.2.1 _ hma).2)
            refine eCall.of (dks false (by simp [c3])) (by simp) ?_
            simp -dsimp -implicitDefEqProofs [hb]
      · have o0 : ¬ o = 0 := by have := hoc' i0; omega
        have o0' : ¬ 0 = o := by omega
        have oc1 : ¬ o = c + 1 := by omega
        have oc1' : ¬ c + 1 = o := by omega
        have oc2' : ¬ c + 2 = o := by omega
        have oc3' : ¬ c + 3 = o := by omega
        have oc2 : ¬ o = c + 2 := by omega
        have oc3 : ¬ o = c + 3 := by omega
        simp -dsimp -implicitDefEqProofs [a1, wi, i0, slots, hll, oc1, oc2, oc3, oc1', oc2', oc3', o0, o0']
        refine ⟨by omega, ?_⟩
        refine sw_loop_e (fun p : {p : Nat × Nat × Nat // p.1 ≤ g.agents[i].kinds.length ∧ c + 3 < p.2.1 ∧ p.2.2 < p.2.1 ∧ (p.1 ≠ 0 → c + 3 < p.2.2) ∧ ∀ k ∈ g.agents[i].kinds.take p.1, RKd g.outs.length k} => SS.of [(1, .v (.one (.mp 0 0))), (6, .v (.one (.ms (c + 3) 0 (i + 1) 1 true))), (9, if p.1.1 = 0 then .v (.one .nils) else .v (.one (.ms p.1.2.2 0 p.1.1 1 true))), (74, .v (.one (agsS g.agents))), (75, I .i64 g.agents.length), (76, I .i64 (i)), (86, .v (.one (kdsS g.agents[i].kinds))), (87, I .i64 g.agents[i].kinds.length), (88, I .i64 p.1.1)] ((0, ⟨26, rowGm g⟩) :: (c + 3, ⟨9, flat rowStr ((g.agents.map Ag.name).take (i + 1))⟩) :: if p.1.1 = 0 then [] else [(p.1.2.2, ⟨9, flat rowStr ((g.agents[i].kinds.map Kd.name).take p.1.1)⟩)]) p.1.2.1)
          (fun p => g.agents[i].kinds.length - p.1.1) ⟨(0, c + 4, 0), Nat.zero_le _, by simp, by simp, fun h => absurd rfl h, by simp⟩ (by kernel_rfl) (Le.to (by simp [i0]) (by simp [hfl, o0, o0']) (by simp)) ?_
        rintro ⟨⟨k, m, q⟩, hk, hcm, hq, hq', hkp⟩
        simp only at hk hcm hq hq' hkp
        by_cases a3 : k < g.agents[i].kinds.length
        · have wk : IntKind.i64.wrap ((k : Int) + 1) = ((k + 1 : Nat) : Int) := by rw [wrap_i64 _ (by omega) (by omega)]; rfl
          have hkf := flat_snoc (f := rowStr) g.agents[i].kinds[k].name ((g.agents[i].kinds.map Kd.name).take k)
          have hks := takeSnoc (g.agents[i].kinds.map Kd.name) k (by simpa using a3)
          rw [List.getElem_map] at hks
          rw [← hks] at hkf
          have hkl : ((g.agents[i].kinds.map Kd.name).take k).length = k := by simp; omega
          obtain ⟨m1, m2, m3, m4, m5⟩ := oa.2.2 _ (List.getElem_mem a3)
          have hs := fsign_s g.agents[i].kinds[k].weight m2
          have x1 : ¬ 0 = m := by omega
          have x2 : ¬ c + 3 = m := by omega
          have x3 : ¬ c + 3 = m + 1 := by omega
          have x5 : ¬ c + 3 = m + 2 := by omega
          have z1 : ¬ m = 0 := by omega
          have w1 : ¬ m = m + 1 + 1 := by omega
          have w2 : ¬ m + 1 = m + 1 + 1 := by omega
          have w3 : ¬ m = m + 1 := by omega
          have z2 : ¬ m = c + 3 := by omega
          have z3 : ¬ m + 1 = c + 3 := by omega
          have z4 : ¬ m + 2 = c + 3 := by omega
          have z5 : ¬ m + 1 + 1 = c + 3 := by omega
          have x4 : ¬ c + 3 = m + 1 + 1 := by omega
          by_cases k0 : k = 0
          · subst k0
            rw [show (g.agents[i].kinds.map Kd.name).take 0 = [] from rfl, flat_nil, List.nil_append] at hkf
            simp -dsimp -implicitDefEqProofs [a1, a3, wi, wk, slots, x1, x2, x3, x4, x5, z1, z2, z3, z4, z5, w1, w2, w3]
            refine eCall.of hs (by simp) ?_
            by_cases c1 : sgnQ g.agents[i].kinds[0].weight.fix < 0
            · have hb := bad (fun h => ((h.2.1 _ hma).1 _ (List.getElem_mem a3)).1 c1)
              simp -dsimp -implicitDefEqProofs [c1, hb]
            by_cases c2 : g.agents[i].kinds[0].worth.length = g.outs.length
            · simp -dsimp -implicitDefEqProofs [c1, c2, a3, x1, x2, x3, x4, x5, z1, z2, z3, z4, z5, w1, w2, w3]
              exact Again.by ⟨(1, m + 3, m + 2), by omega, by simp only; omega, by simp only; omega, by simp only; omega, all_take a3 hkp ⟨c1, c2⟩⟩ (Le.to (by simp [i64_1]) (by simp [hkf, hfl, x1, x2, x3, x4, x5, z1, z2, z3, z4, z5, w1, w2, w3]) (by simp)) (by simp; omega)
            · have hb := bad (fun h => c2 ((h.2.1 _ hma).1 _ (List.getElem_mem a3)).2)
              simp -dsimp -implicitDefEqProofs [c1, c2, show ¬ (g.agents[i].kinds[0].worth.length : Int) = g.outs.length by omega, hb, a3, x1, x2, x3, x4, x5, z1, z2, z3, z4, z5, w1, w2, w3]
          · have y1 : ¬ q = 0 := by have := hq' k0; omega
            have y1' : ¬ 0 = q := by omega
            have y2 : ¬ q = c + 3 := by have := hq' k0; omega
            have y2' : ¬ c + 3 = q := by omega
            have y3 : ¬ q = m := by omega
            have y3' : ¬ m = q := by omega
            have y4' : ¬ m + 1 = q := by omega
            have y5' : ¬ m + 2 = q := by omega
            have y4 : ¬ q = m + 1 := by omega
            have y5 : ¬ q = m + 2 := by omega
            simp -dsimp -implicitDefEqProofs [a1, a3, wi, wk, slots, k0, hkl, x1, x2, x3, x4, x5, z1, z2, z3, z4, z5, w1, w2, w3, y1, y1', y2, y2', y3, y4, y5, y3', y4', y5']
            refine ⟨by omega, ?_⟩
            refine eCall.of hs (by simp) ?_
            by_cases c1 : sgnQ g.agents[i].kinds[k].weight.fix < 0
            · have hb := bad (fun h => ((h.2.1 _ hma).1 _ (List.getElem_mem a3)).1 c1)
              simp -dsimp -implicitDefEqProofs [c1, hb]
            by_cases c2 : g.agents[i].kinds[k].worth.length = g.outs.length
            · simp -dsimp -implicitDefEqProofs [c1, c2, a3, k0, x1, x2, x3, x4, x5, z1, z2, z3, z4, z5, w1, w2, w3, y1, y1', y2, y2', y3, y4, y5, y3', y4', y5']
              exact Again.by ⟨(k + 1, m + 3, m + 2), by omega, by simp only; omega, by simp only; omega, by simp only; omega, all_take a3 hkp ⟨c1, c2⟩⟩ (Le.to (by simp [wk, k0]) (by simp [hkf, k0, hfl, x1, x2, x3, x4, x5, z1, z2, z3, z4, z5, w1, w2, w3, y1, y1', y2, y2', y3, y4, y5, y3', y4', y5']) (by simp)) (by simp; omega)
            · have hb := bad (fun h => c2 ((h.2.1 _ hma).1 _ (List.getElem_mem a3)).2)
              simp -dsimp -implicitDefEqProofs [c1, c2, show ¬ (g.agents[i].kinds[k].worth.length : Int) = g.outs.length by omega, hb, a3, k0, x1, x2, x3, x4, x5, z1, z2, z3, z4, z5, w1, w2, w3, y1, y1', y2, y2', y3, y4, y5, y3', y4', y5']
        have hk2 : k = g.agents[i].kinds.length := by omega
        subst hk2
        rw [List.take_length] at hkp
        have x1 : ¬ 0 = c + 3 := by omega
        by_cases k0 : g.agents[i].kinds.length = 0
        · have k1 : g.agents[i].kinds = [] := List.length_eq_zero_iff.1 k0
          simp -dsimp -implicitDefEqProofs [k0, k1]
          by_cases c3 : NamesOk (g.agents[i].kinds.map Kd.name)
          · refine eCall.of (dks true (by simp [c3])) (by simp [k1]) ?_
            simp -dsimp -implicitDefEqProofs
            exact Again.by ⟨(i + 1, m, c + 3), by omega, by simp only; omega, by simp only; omega, all_take a1 hp ⟨hkp, c3⟩⟩ (Le.to (by simp [wi, i64_1]) (by simp [hfl]) (by simp)) (by simp; omega)
          · have hb := bad (fun h => c3 (h.2.1 _ hma).2)
            refine eCall.of (dks false (by simp [c3])) (by simp [k1]) ?_
            simp -dsimp -implicitDefEqProofs [hb]
        · have y1 : ¬ q = 0 := by have := hq' k0; omega
          have y1' : ¬ 0 = q := by omega
          have y2 : ¬ q = c + 3 := by have := hq' k0; omega
          have y2' : ¬ c + 3 = q := by omega
          have htk : (g.agents[i].kinds.map (rowStr ∘ Kd.name)).take g.agents[i].kinds.length = g.agents[i].kinds.map ((fun s => [S1.str s]) ∘ Kd.name) := by rw [List.take_of_length_le (by simp)]; rfl
          simp -dsimp -implicitDefEqProofs [k0, y1, y1', y2, y2', x1, htk]
          by_cases c3 : NamesOk (g.agents[i].kinds.map Kd.name)
          · refine eCall.of (dks true (by simp [c3])) (by simp) ?_
            simp -dsimp -implicitDefEqProofs [y1, y1', y2, y2', x1]
            exact Again.by ⟨(i + 1, m, c + 3), by omega, by simp only; omega, by simp only; omega, all_take a1 hp ⟨hkp, c3⟩⟩ (Le.to (by simp [wi, i64_1, y1, y1', y2, y2', x1]) (by simp [hfl, y1, y1', y2, y2', x1]) (by simp)) (by simp; omega)
          · have hb := bad (fun h => c3 (h.2.1 _ hma).2)
            refine eCall.of (dks false (by simp [c3])) (by simp) ?_
            simp -dsimp -implicitDefEqProofs [hb]
    have hi2 : i = g.agents.length := by omega
    subst hi2
    rw [List.take_length] at hp
    have i0 : ¬ g.agents.length = 0 := by omega
    have o0 : ¬ o = 0 := by have := hoc' i0; omega
    have o0' : ¬ 0 = o := by omega
    have htk : (g.agents.map (rowStr ∘ Ag.name)).take g.agents.length = g.agents.map ((fun s => [S1.str s]) ∘ Ag.name) := by rw [List.take_of_length_le (by simp)]; rfl
    simp -dsimp -implicitDefEqProofs [i0, n1, o0, o0', htk]
    by_cases c3 : NamesOk (g.agents.map Ag.name)
    · refine eCall.of (das true (by simp [c3])) (by simp) ?_
      simp -dsimp -implicitDefEqProofs [o0, o0']
      by_cases c4 : NeedsOk g
      · refine eCall.of (hnd true (by simp [c4])) (by simp) ?_
        have hb := isRight_ok he s1 (rightOk_iff.2 ⟨⟨n1, n2, by omega, e4, by omega, by omega⟩, hp, c3, c4⟩)
        simp -dsimp -implicitDefEqProofs [hb]
      · have hb := bad (fun h => c4 h.2.2.2)
        refine eCall.of (hnd false (by simp [c4])) (by simp) ?_
        simp -dsimp -implicitDefEqProofs [hb]
    · have hb := bad (fun h => c3 h.2.2.1)
      refine eCall.of (das false (by simp [c3])) (by simp) ?_
      simp -dsimp -implicitDefEqProofs [hb]
  · have hb := bad (fun h => e4 h.1.2.2.2.1)
    refine eCall.of (dos false (by simp [e4])) (by simp) ?_
    simp -dsimp -implicitDefEqProofs [hb]
end Go.Proofs.YtglhjjokijdagaaGreat.Sh

/- Profiles as data: plain laws. -/
namespace Go.Proofs.YtglhjjokijdagaaGreat.Sh
open Go Go.RowKit

/-- Profiles, of sizes that are told from the last one on. -/
def profR : List Nat → List (List Int)
  | [] => [[]]
  | n :: r => (profR r).flatMap fun p => (List.range n).map fun (k : Nat) => p ++ [(k : Int)]
def atR : List Nat → Nat → List Int
  | [], _ => []
  | n :: r, i => atR r (i / n) ++ [((i % n : Nat) : Int)]
def prodR : List Nat → Nat
  | [] => 1
  | n :: r => prodR r * n

theorem profR_length : ∀ r, (profR r).length = prodR r
  | [] => rfl
  | n :: r => by
    rw [profR, List.length_flatMap]
    have : (List.map (fun p => ((List.range n).map fun (k : Nat) => p ++ [(k : Int)]).length) (profR r)) = List.replicate (profR r).length n := by
      rw [List.eq_replicate_iff]
      exact ⟨by simp, fun b hb => by obtain ⟨p, -, rfl⟩ := List.mem_map.1 hb; simp⟩
    rw [this, List.sum_replicate_nat, profR_length r, prodR]

theorem flatMap_at {α β : Type} (f : α → List β) (n : Nat) (hf : ∀ x, (f x).length = n) (hn : 0 < n) : ∀ (l : List α) (i : Nat), (l.flatMap f)[i]? = (l[i / n]?).bind fun x => (f x)[i % n]?
  | [], i => by simp
  | x :: l, i => by
    rw [List.flatMap_cons]
    by_cases h : i < n
    · rw [List.getElem?_append_left (by rw [hf]; exact h), Nat.div_eq_of_lt h, Nat.mod_eq_of_lt h]; rfl
    · rw [List.getElem?_append_right (by rw [hf]; omega), hf, flatMap_at f n hf hn l (i - n)]
      obtain ⟨d, rfl⟩ : ∃ d, i = d + n := ⟨i - n, by omega⟩
      rw [Nat.add_sub_cancel, Nat.add_div_right _ hn, Nat.add_mod_right, List.getElem?_cons_succ]

theorem profR_at : ∀ (r : List Nat) (i : Nat), i < prodR r → (profR r)[i]? = some (atR r i)
  | [], i, h => by
    have : i = 0 := by have : prodR [] = 1 := rfl; omega
    subst this; rfl
  | n :: r, i, h => by
    rw [prodR] at h
    have hn : 0 < n := by rcases Nat.eq_zero_or_pos n with e | e; rw [e] at h; omega; exact e
    rw [profR, flatMap_at _ n (by simp) hn, profR_at r (i / n) (Nat.div_lt_of_lt_mul (by rw [Nat.mul_comm]; exact h))]
    have hm : i % n < n := Nat.mod_lt _ hn
    simp [hm, atR]

theorem atR_length : ∀ (r : List Nat) (i : Nat), (atR r i).length = r.length
  | [], _ => rfl
  | n :: r, i => by rw [atR, List.length_append, atR_length]; rfl

def szs (g : Gm) : List Nat := g.agents.map fun a => a.kinds.length
def profs (g : Gm) : List (List Int) := profR (szs g).reverse
def atG (g : Gm) (i : Nat) : List Int := atR (szs g).reverse i

theorem prodR_append (r s : List Nat) : prodR (r ++ s) = prodR s * prodR r := by
  induction r with
  | nil => simp [prodR]
  | cons n r ih => rw [List.cons_append, prodR, ih, prodR, Nat.mul_assoc]
theorem foldl_prod (l : List Ag) : ∀ z, l.foldl (fun n a => n * a.kinds.length) z = z * prodR (l.map fun a => a.kinds.length).reverse := by
  induction l with
  | nil => intro z; simp [prodR]
  | cons a l ih =>
    intro z
    rw [List.foldl_cons, ih, List.map_cons, List.reverse_cons, prodR_append]
    show _ = z * (prodR [] * a.kinds.length * _)
    rw [show prodR [] = 1 from rfl, Nat.one_mul, Nat.mul_assoc]
theorem prodK_eq (l : List Ag) : prodK l = prodR (l.map fun a => a.kinds.length).reverse := by
  unfold prodK; rw [foldl_prod, Nat.one_mul]
theorem prodR_take (g : Gm) (i : Nat) : prodK (g.agents.take i) = prodR ((szs g).take i).reverse := by
  rw [prodK_eq, szs, List.map_take]
theorem profs_length (g : Gm) : (profs g).length = prodK g.agents := by rw [profs, profR_length, prodK_eq]; rfl
theorem profs_at {g : Gm} {i : Nat} (h : i < prodK g.agents) : (profs g)[i]? = some (atG g i) := profR_at _ _ (by rw [prodK_eq] at h; exact h)
theorem atG_length (g : Gm) (i : Nat) : (atG g i).length = g.agents.length := by rw [atG, atR_length]; simp [szs]

/-- Is a list a profile of the game, as far as its first i entries? -/
def profTo (g : Gm) (p : List Int) (i : Nat) : Prop := ∀ j, j < i → ∃ a x, g.agents[j]? = some a ∧ p[j]? = some x ∧ 0 ≤ x ∧ x < (a.kinds.length : Int)
def isProf (g : Gm) (p : List Int) : Prop := p.length = g.agents.length ∧ profTo g p g.agents.length
def whrTo (g : Gm) (p : List Int) : Nat → Int
  | 0 => 0
  | i + 1 => whrTo g p i * (((g.agents[i]?).map fun a => a.kinds.length).getD 0 : Nat) + (p[i]?).getD 0
def whr (g : Gm) (p : List Int) : Int := whrTo g p g.agents.length

theorem whrTo_step {g : Gm} {p : List Int} {i : Nat} {a : Ag} {x : Int} (h1 : g.agents[i]? = some a) (h2 : p[i]? = some x) : whrTo g p (i + 1) = whrTo g p i * (a.kinds.length : Int) + x := by
  simp only [whrTo, h1, h2, Option.map_some, Option.getD_some]

theorem whrTo_le {g : Gm} {p : List Int} : ∀ i, i ≤ g.agents.length → profTo g p i → 0 ≤ whrTo g p i ∧ whrTo g p i < (prodK (g.agents.take i) : Int)
  | 0, _, _ => ⟨Int.le_refl _, by show (0 : Int) < ((1 : Nat) : Int); decide⟩
  | i + 1, hi, h => by
    obtain ⟨h1, h2⟩ := whrTo_le i (by omega) (fun j hj => h j (by omega))
    obtain ⟨a, x, e1, e2, e3, e4⟩ := h i (by omega)
    rw [whrTo_step e1 e2]
    have hai : g.agents[i] = a := by rw [List.getElem?_eq_getElem (by omega)] at e1; exact Option.some.inj e1
    have hp : prodK (g.agents.take (i + 1)) = prodK (g.agents.take i) * a.kinds.length := by
      unfold prodK
      rw [List.take_add_one, e1, List.foldl_append]; rfl
    rw [hp]
    obtain ⟨w, hw⟩ := Int.eq_ofNat_of_zero_le h1
    obtain ⟨y, hy⟩ := Int.eq_ofNat_of_zero_le e3
    rw [hw] at h2 ⊢
    rw [hy] at e4 ⊢
    have h2 : w < prodK (g.agents.take i) := by omega
    have e4 : y < a.kinds.length := by omega
    generalize prodK (g.agents.take i) = P at *
    generalize a.kinds.length = n at *
    have : w * n + y < P * n := by
      have := Nat.mul_le_mul_right n (show w + 1 ≤ P from h2)
      rw [Nat.add_mul] at this
      omega
    constructor
    · rw [← Int.natCast_mul]; omega
    · rw [← Int.natCast_mul, ← Int.natCast_add]; exact Int.ofNat_lt.2 this

theorem atR_get : ∀ (r : List Nat) (i j : Nat), i < prodR r → (h : j < r.length) → ∃ x : Nat, (atR r i)[j]? = some (x : Int) ∧ x < r.reverse[j]'(by simpa using h)
  | [], _, _, _, h => absurd h (by simp)
  | n :: r, i, j, hi, h => by
    rw [prodR] at hi
    have hn : 0 < n := by rcases Nat.eq_zero_or_pos n with e | e; rw [e] at hi; omega; exact e
    have hd := Nat.div_lt_of_lt_mul (show i < n * prodR r by rw [Nat.mul_comm]; exact hi)
    by_cases c : j < r.length
    · obtain ⟨x, h1, h2⟩ := atR_get r (i / n) j hd c
      refine ⟨x, ?_, ?_⟩
      · rw [atR, List.getElem?_append_left (by rw [atR_length]; exact c)]; exact h1
      · have : (n :: r).reverse[j]'(by simpa using h) = r.reverse[j]'(by simpa using c) := by
          simp only [List.reverse_cons]
          rw [List.getElem_append_left (by simpa using c)]
        rw [this]; exact h2
    · have hj : j = r.length := by simp at h; omega
      subst hj
      refine ⟨i % n, ?_, ?_⟩
      · rw [atR, List.getElem?_append_right (by rw [atR_length]; exact Nat.le_refl _), atR_length, Nat.sub_self]; rfl
      · have : (n :: r).reverse[r.length]'(by simp) = n := by
          simp only [List.reverse_cons]
          rw [List.getElem_append_right (by simp)]; simp
        rw [this]; exact Nat.mod_lt _ hn

theorem at_isProf {g : Gm} {i : Nat} (h : i < prodK g.agents) : isProf g (atG g i) := by
  refine ⟨atG_length g i, fun j hj => ?_⟩
  rw [prodK_eq] at h
  obtain ⟨x, h1, h2⟩ := atR_get (szs g).reverse i j h (by simp [szs]; exact hj)
  simp only [List.reverse_reverse] at h2
  have h3 : (szs g)[j]'(by simp [szs]; exact hj) = g.agents[j].kinds.length := by simp [szs]
  rw [h3] at h2
  exact ⟨g.agents[j], x, List.getElem?_eq_getElem hj, h1, by omega, by omega⟩

/-- A profile with an entry changed. -/
def putP (p : List Int) (a k : Int) : List Int := if 0 ≤ a ∧ a < (p.length : Int) then p.set a.toNat k else p
theorem putp_length (p : List Int) (a k : Int) : (putP p a k).length = p.length := by unfold putP; split <;> simp
theorem put_isProf {g : Gm} {p : List Int} (h : isProf g p) {a : Nat} {k : Int} {A : Ag} (ha : g.agents[a]? = some A) (h0 : 0 ≤ k) (h1 : k < (A.kinds.length : Int)) : isProf g (putP p a k) := by
  refine ⟨by rw [putp_length]; exact h.1, fun j hj => ?_⟩
  have hal : a < g.agents.length := (List.getElem?_eq_some_iff.1 ha).1
  unfold putP
  rw [if_pos ⟨by omega, by rw [h.1]; omega⟩, Int.toNat_natCast]
  obtain ⟨B, x, e1, e2, e3, e4⟩ := h.2 j hj
  by_cases c : a = j
  · subst c
    rw [ha] at e1
    obtain rfl := Option.some.inj e1
    exact ⟨_, k, ha, by rw [List.getElem?_set_self (by rw [h.1]; exact hj)], h0, h1⟩
  · exact ⟨B, x, e1, by rw [List.getElem?_set_ne c]; exact e2, e3, e4⟩
end Go.Proofs.YtglhjjokijdagaaGreat.Sh

/- Profiles: speech's Profiles, Index, Put; the reference's Count, At, Where, Put. -/
namespace Go.Proofs.YtglhjjokijdagaaGreat.Sh
open Go Go.RowKit

/-- A game that is right: its sizes. -/
structure Fine (g : Gm) : Prop where
  ok : g.ok
  bey : beyond g = false
  sz : sizeOk g = true
  right : RightOk g

theorem Fine.isRight {g : Gm} (h : Fine g) : isRight g 0 := .inr (.inr ⟨h.sz, h.right, rfl⟩)
theorem sizeOk_all {g : Gm} (h : sizeOk g = true) : g.agents.length ≤ 4 ∧ g.outs.length ≤ 6 ∧ g.needs.length ≤ 12 ∧ (∀ a ∈ g.agents, a.kinds.length ≤ 4) ∧ prodK g.agents ≤ 16 := by
  unfold sizeOk at h
  simp only [Bool.and_eq_true, decide_eq_true_eq, List.all_eq_true] at h
  obtain ⟨⟨⟨⟨h1, h2⟩, h3⟩, h4⟩, h5⟩ := h
  exact ⟨h1, h2, h3, h4, h5⟩
theorem Fine.kinds_pos {g : Gm} (h : Fine g) : ∀ a ∈ g.agents, 0 < a.kinds.length := fun a ha => List.length_pos_iff.2 (h.right.all a ha).1
theorem Fine.prod_le {g : Gm} (h : Fine g) (i : Nat) (hi : i ≤ g.agents.length) : prodK (g.agents.take i) ≤ 256 := by
  obtain ⟨h1, -, -, h4, -⟩ := sizeOk_all h.sz
  have h3 := prodK_le h4 i hi
  have : (4 : Nat) ^ i ≤ 4 ^ 4 := Nat.pow_le_pow_right (by decide) (by omega)
  omega

set_option maxRecDepth 20000 in
theorem count_s (g : Gm) (h : Fine g) : CallsS Tryz.prog 117 [gmS g] (I .i64 (prodK g.agents)) := by
  obtain ⟨h1, -, -, h4, -⟩ := sizeOk_all h.sz
  refine calls Tryz.func117 rfl (by rfl) (by rfl) (by kernel_rfl) ?_
  simp -dsimp -implicitDefEqProofs [Tryz.f117]
  refine sw_loop_e (fun p : {p : Nat // p ≤ g.agents.length} => SS.of [(1, .v (.one (.mp 0 0))), (3, I .i64 (prodK (g.agents.take p.1))), (4, I .i64 p.1)] [(0, ⟨26, rowGm g⟩)] 1)
    (fun p => g.agents.length - p.1) ⟨0, Nat.zero_le _⟩ (by kernel_rfl) (Le.to (by simp [prodK]) (by simp) (by simp)) ?_
  rintro ⟨i, hi⟩
  by_cases a1 : i < g.agents.length
  · have wi : IntKind.i64.wrap ((i : Int) + 1) = ((i + 1 : Nat) : Int) := by rw [wrap_i64 _ (by omega) (by omega)]; rfl
    have hp := h.prod_le (i + 1) a1
    have ht := prodK_take a1
    have wm : IntKind.i64.wrap ((prodK (g.agents.take i) : Int) * (g.agents[i].kinds.length : Int)) = (prodK (g.agents.take (i + 1)) : Int) := by
      rw [ht] at hp ⊢
      rw [← Int.natCast_mul, wrap_i64 _ (by omega) (by omega)]
    simp -dsimp -implicitDefEqProofs [a1, wi]
    exact Again.by ⟨i + 1, a1⟩ (Le.to (by simp [wi, wm]) (by simp) (by simp)) (by simp; omega)
  have hi2 : i = g.agents.length := by omega
  subst hi2
  simp -dsimp -implicitDefEqProofs

set_option maxRecDepth 20000 in
theorem where_s (g : Gm) (h : Fine g) (p : List Int) (hp : isProf g p) : CallsS Tryz.prog 62 [gmS g, .one (intsS p)] (I .i64 (whr g p)) := by
  obtain ⟨h1, -, -, h4, -⟩ := sizeOk_all h.sz
  obtain ⟨pl, pv⟩ := hp
  refine calls Tryz.func62 rfl (by rfl) (by rfl) (by kernel_rfl) ?_
  simp -dsimp -implicitDefEqProofs [Tryz.f62]
  refine sw_loop_e (fun q : {q : Nat // q ≤ g.agents.length} => SS.of [(1, .v (.one (intsS p))), (2, .v (.one (.mp 0 0))), (5, I .i64 (whrTo g p q.1)), (6, I .i64 q.1)] [(0, ⟨26, rowGm g⟩)] 1)
    (fun q => g.agents.length - q.1) ⟨0, Nat.zero_le _⟩ (by kernel_rfl) (Le.to (by simp [whrTo]) (by simp) (by simp)) ?_
  rintro ⟨i, hi⟩
  by_cases a1 : i < g.agents.length
  · have wi : IntKind.i64.wrap ((i : Int) + 1) = ((i + 1 : Nat) : Int) := by rw [wrap_i64 _ (by omega) (by omega)]; rfl
    have a2 : i < p.length := by omega
    have hw := whrTo_step (g := g) (p := p) (List.getElem?_eq_getElem a1) (List.getElem?_eq_getElem a2)
    obtain ⟨w1, w2⟩ := whrTo_le (g := g) (p := p) i hi (fun j hj => pv j (by omega))
    obtain ⟨w3, w4⟩ := whrTo_le (g := g) (p := p) (i + 1) a1 (fun j hj => pv j (by omega))
    have hq := h.prod_le (i + 1) a1
    have hq0 := h.prod_le i hi
    have hk := h4 _ (List.getElem_mem a1)
    obtain ⟨A, x, e1, e2, e3, e4⟩ := pv i a1
    rw [List.getElem?_eq_getElem a2] at e2
    obtain rfl := Option.some.inj e2
    have wm : IntKind.i64.wrap (whrTo g p i * (g.agents[i].kinds.length : Int)) = whrTo g p i * (g.agents[i].kinds.length : Int) := by
      rw [hw] at w4
      have := Int.mul_nonneg w1 (Int.natCast_nonneg g.agents[i].kinds.length)
      rw [wrap_i64 _ (by omega) (by omega)]
    have wa : IntKind.i64.wrap (whrTo g p i * (g.agents[i].kinds.length : Int) + p[i]) = whrTo g p (i + 1) := by
      rw [hw] at w3 w4 ⊢
      rw [wrap_i64 _ (by omega) (by omega)]
    simp -dsimp -implicitDefEqProofs [a1, a2, pl, wi]
    exact Again.by ⟨i + 1, a1⟩ (Le.to (by simp [wi, wm, wa]) (by simp) (by simp)) (by simp; omega)
  have hi2 : i = g.agents.length := by omega
  subst hi2
  simp -dsimp -implicitDefEqProofs [pl, whr]

def atTo (g : Gm) (i j : Nat) : List Int := (atR ((szs g).take j).reverse i)

theorem flat_ints (p : List Int) : (List.map (fun x => [S1.int .i64 x]) p).flatten = flat rowInt p := rfl
theorem flat_int (p : List Int) : flat rowInt p = p.map (S1.int .i64) := by
  induction p with
  | nil => rfl
  | cons x p ih =>
    show rowInt x ++ flat rowInt p = _
    rw [ih]; rfl
theorem set_int (p : List Int) (i : Nat) (k : Int) : (flat rowInt p).set i (S1.int .i64 k) = flat rowInt (p.set i k) := by rw [flat_int, flat_int, List.map_set]

theorem known_int (p : List Int) : ∀ x ∈ flat rowInt p, (match x with | S1.any => false | _ => true) = true := by
  intro x hx
  rw [flat_int] at hx
  obtain ⟨y, -, rfl⟩ := List.mem_map.1 hx
  rfl

set_option maxRecDepth 20000 in
theorem put_s (p : List Int) (a k : Int) (hp : p.length ≤ 1048576) : CallsS Tryz.prog 59 [.one (intsS p), .one (.int .i64 a), .one (.int .i64 k)] (.v (.one (intsS (putP p a k)))) := by
  refine calls Tryz.func59 rfl (by rfl) (by rfl) (by kernel_rfl) ?_
  by_cases c1 : 0 ≤ a
  · by_cases c2 : a < (p.length : Int)
    · have hpl : putP p a k = p.set a.toNat k := if_pos ⟨c1, c2⟩
      have c3 : a.toNat < p.length := by omega
      simp -dsimp -implicitDefEqProofs [Tryz.f59, slots, flat_ints, c1, c2, c3, hpl, set_int]
      exact ⟨known_int p, ⟨by omega, by omega⟩, by omega, rfl⟩
    · have hpl : putP p a k = p := if_neg (fun h => c2 h.2)
      simp -dsimp -implicitDefEqProofs [Tryz.f59, slots, flat_ints, c1, c2, hpl]
      exact ⟨known_int p, by omega, by omega⟩
  · have hpl : putP p a k = p := if_neg (fun h => c1 h.1)
    simp -dsimp -implicitDefEqProofs [Tryz.f59, slots, flat_ints, c1, hpl]
    exact ⟨known_int p, by omega, by omega⟩

set_option maxRecDepth 20000 in
theorem putR_s (p : List Int) (a k : Int) (hp : p.length ≤ 1048576) : CallsS Tryz.prog 24 [.one (intsS p), .one (.int .i64 a), .one (.int .i64 k)] (.v (.one (intsS (putP p a k)))) := by
  refine calls Tryz.func24 rfl (by rfl) (by rfl) (by kernel_rfl) ?_
  simp -dsimp -implicitDefEqProofs [Tryz.f24]
  refine ⟨by omega, ?_⟩
  refine sw_loop_e (fun q : {q : Nat // q ≤ p.length} => SS.of [(0, .v (.one (intsS p))), (1, I .i64 a), (2, I .i64 k), (7, .v (.one (.ms 0 0 p.length 1 true))), (8, I .i64 q.1)] [(0, ⟨3, flat rowInt (p.take q.1 ++ List.replicate (p.length - q.1) 0)⟩)] 1)
    (fun q => p.length - q.1) ⟨0, Nat.zero_le _⟩ (by kernel_rfl) (Le.to (by simp) (by simp [flat_int]) (by simp)) ?_
  rintro ⟨i, hi⟩
  have hll : (p.take i ++ List.replicate (p.length - i) (0 : Int)).length = p.length := by simp; omega
  by_cases a1 : i < p.length
  · have wi : IntKind.i64.wrap ((i : Int) + 1) = ((i + 1 : Nat) : Int) := by rw [wrap_i64 _ (by omega) (by omega)]; rfl
    have hst : (p.take i ++ List.replicate (p.length - i) (0 : Int)).set i p[i] = p.take (i + 1) ++ List.replicate (p.length - (i + 1)) 0 := by
      obtain ⟨m, hm⟩ : ∃ m, p.length - i = m + 1 := ⟨p.length - i - 1, by omega⟩
      rw [hm, List.set_append_right _ _ (by simp; omega), List.length_take, Nat.min_eq_left hi, Nat.sub_self, List.replicate_succ, List.set_cons_zero, takeSnoc p i a1, List.append_assoc, show p.length - (i + 1) = m by omega]
      rfl
    simp -dsimp -implicitDefEqProofs [a1, wi, hll, set_int, hst]
    refine ⟨by omega, ?_⟩
    exact Again.by ⟨i + 1, a1⟩ (Le.to (by simp [wi]) (by simp) (by simp)) (by simp; omega)
  have hi2 : i = p.length := by omega
  subst hi2
  have he : p.take p.length ++ List.replicate (p.length - p.length) (0 : Int) = p := by simp
  rw [he] at hll
  by_cases c1 : 0 ≤ a
  · by_cases c2 : a < (p.length : Int)
    · have hpl : putP p a k = p.set a.toNat k := if_pos ⟨c1, c2⟩
      have c3 : a.toNat < p.length := by omega
      simp -dsimp -implicitDefEqProofs [c1, c2, c3, hpl, set_int]
      exact ⟨by omega, rfl⟩
    · have hpl : putP p a k = p := if_neg (fun h => c2 h.2)
      simp -dsimp -implicitDefEqProofs [c1, c2, hpl]
      try rfl
  · have hpl : putP p a k = p := if_neg (fun h => c1 h.1)
    simp -dsimp -implicitDefEqProofs [c1, hpl]
    try rfl
end Go.Proofs.YtglhjjokijdagaaGreat.Sh

