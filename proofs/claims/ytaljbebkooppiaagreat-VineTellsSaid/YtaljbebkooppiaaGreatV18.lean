/- A part of the proof: R39, R41, R42, R43, R44, R45, R46, R47, R48, R144 -/
import Derived.Test.YtaljbebkooppiaaGreatV17
import Derived.Test.YtaljbebkooppiaaGreatV16
import Derived.Test.YtaljbebkooppiaaGreatV15
set_option linter.unusedSimpArgs false
set_option linter.unusedVariables false
set_option linter.unusedSectionVars false
namespace Go.Proofs.YtaljbebkooppiaaGreat.Sh
open Go Go.RowKit
theorem prod_pos {l : List Ag} (h : ∀ a ∈ l, a.kinds ≠ []) : ∀ i, i ≤ l.length → 0 < prodK (l.take i)
  | 0, _ => Nat.one_pos
  | i + 1, hi => by
    rw [prodK_take (by omega)]
    exact Nat.mul_pos (prod_pos h i (by omega)) (List.length_pos_iff.2 (h _ (List.getElem_mem _)))
theorem prod_zero {l : List Ag} {a : Ag} (ha : a ∈ l) (h : a.kinds = []) : prodK l = 0 := by
  obtain ⟨i, hi, rfl⟩ := List.getElem_of_mem ha
  have e : ∀ k, i < k → k ≤ l.length → prodK (l.take k) = 0 := by
    intro k
    induction k with
    | zero => intro h; omega
    | succ k ih =>
      intro h1 h2
      rw [prodK_take (by omega)]
      by_cases c : i = k
      · subst c; rw [h]; rfl
      · rw [ih (by omega) (by omega), Nat.zero_mul]
  have := e l.length hi (Nat.le_refl _)
  rwa [List.take_length] at this
def agentIn (g : Gm) (a : Ag) : Prop := (∀ k ∈ a.kinds, RKd g.outs.length k) ∧ NamesOk (a.kinds.map Kd.name)
theorem rightOk_iff {g : Gm} : RightOk g ↔ (g.agents ≠ [] ∧ g.outs ≠ [] ∧ prodK g.agents ≠ 0 ∧ NamesOk g.outs ∧ 1 ≤ g.aim ∧ g.aim ≤ 3) ∧ (∀ a ∈ g.agents, agentIn g a) ∧ NamesOk (g.agents.map Ag.name) ∧ NeedsOk g := by
  constructor
  · rintro ⟨h1, h2, h3, h4, h5, h6, h7⟩
    refine ⟨⟨h1, h2, ?_, h4, by omega, by omega⟩, fun a ha => ⟨(h6 a ha).2.2, (h6 a ha).2.1⟩, h3, h7⟩
    have := prod_pos (l := g.agents) (fun a ha => (h6 a ha).1) g.agents.length (Nat.le_refl _)
    rw [List.take_length] at this
    omega
  · rintro ⟨⟨h1, h2, h3, h4, h5, h6⟩, h7, h8, h9⟩
    exact ⟨h1, h2, h8, h4, by omega, fun a ha => ⟨fun e => h3 (prod_zero ha e), (h7 a ha).2, (h7 a ha).1⟩, h9⟩
set_option maxRecDepth 20000 in
set_option maxHeartbeats 2000000 in
theorem sright_s (g : Gm) (hg : g.ok) (hb : beyond g = false) : ∀ e, isRight g e → CallsS Tryz.prog 66 [gmS g] (I .i64 e) := by
  intro e he
  obtain ⟨b1, b2, b3, b4⟩ := beyond_len hb
  obtain ⟨ga, go, gn, hA, hO, hN, -⟩ := id hg
  have hsl : (sizesL g).length = g.agents.length := by simp [sizesL]
  have dos := distinct_s g.outs go hO
  have das := distinct_s (g.agents.map Ag.name) (by unfold lenOk; rw [List.length_map]; omega) (fun s hs => by obtain ⟨k, hk1, rfl⟩ := List.mem_map.1 hs; exact (hA k hk1).1)
  have hnd := needs_s g hg (by omega)
  have small : sizeOk g = false → e = 1 := fun h => by
    rcases he with he | he | he
    · exact he.2
    · rw [h] at he; exact absurd he.1 (by decide)
    · rw [h] at he; exact absurd he.1 (by decide)
  -- the sizes
  refine calls_cut 3 (fun _ : {u : Unit // g.agents.length ≤ 4 ∧ g.outs.length ≤ 6 ∧ g.needs.length ≤ 12 ∧ ∀ a ∈ g.agents, a.kinds.length ≤ 4} => SS.of [(1, .v (.one (.mp 0 0))), (3, I .i64 (prodK g.agents))] [(0, ⟨31, rowGm g⟩)] 1) Tryz.func66 rfl (by rfl) (by rfl) (by rfl) (by kernel_rfl) (by kernel_rfl) ?_ ?_
  · by_cases l1 : (4 : Int) < (g.agents.length : Int)
    · have hb := small (by unfold sizeOk; rw [decide_eq_false (show ¬ g.agents.length ≤ 4 by omega)]; simp)
      simp -dsimp -implicitDefEqProofs [l1, hb]
    by_cases l2 : (6 : Int) < (g.outs.length : Int)
    · have hb := small (by unfold sizeOk; rw [decide_eq_false (show ¬ g.outs.length ≤ 6 by omega)]; simp)
      simp -dsimp -implicitDefEqProofs [l1, l2, hb]
    by_cases l3 : (12 : Int) < (g.needs.length : Int)
    · have hb := small (by unfold sizeOk; rw [decide_eq_false (show ¬ g.needs.length ≤ 12 by omega)]; simp)
      simp -dsimp -implicitDefEqProofs [l1, l2, l3, hb]
    simp -dsimp -implicitDefEqProofs [l1, l2, l3]
    refine eCall.of (sizes_s g (by omega)) (by simp) ?_
    simp -dsimp -implicitDefEqProofs [hsl]
    refine sw_loop_e (fun p : {p : Nat // p ≤ g.agents.length ∧ ∀ a ∈ g.agents.take p, a.kinds.length ≤ 4} => SS.of [(1, .v (.one (.mp 0 0))), (3, I .i64 (prodK (g.agents.take p.1))), (29, .v (.one (intsS (sizesL g)))), (30, I .i64 g.agents.length), (31, I .i64 p.1)] [(0, ⟨31, rowGm g⟩)] 1)
      (fun p => g.agents.length - p.1) ⟨0, Nat.zero_le _, by simp⟩ (by kernel_rfl) (Le.to (by simp [prodK]) (by simp) (by simp)) ?_
    rintro ⟨i, hi, hp⟩
    by_cases a1 : i < g.agents.length
    · have wi : IntKind.i64.wrap ((i : Int) + 1) = ((i + 1 : Nat) : Int) := by rw [wrap_i64 _ (by omega) (by omega)]; rfl
      have a2 : i < (sizesL g).length := by omega
      have hsi : (sizesL g)[i] = (g.agents[i].kinds.length : Int) := by simp [sizesL]
      by_cases c1 : (4 : Int) < (g.agents[i].kinds.length : Int)
      · have hb := small (by
          unfold sizeOk
          rw [List.all_eq_false.2 ⟨_, List.getElem_mem a1, by simp; omega⟩]; simp)
        simp -dsimp -implicitDefEqProofs [a1, a2, hsi, wi, c1, hb]
      have c2 : g.agents[i].kinds.length ≤ 4 := by omega
      have hp2 := all_take a1 hp c2
      have h4 := prodK_le (l := g.agents.take (i + 1)) hp2 (i + 1) (by simp; omega)
      rw [List.take_take, Nat.min_self] at h4
      have h5 : (4 : Nat) ^ (i + 1) ≤ 4 ^ 4 := Nat.pow_le_pow_right (by decide) (by omega)
      have ht := prodK_take a1
      have wm : IntKind.i64.wrap ((prodK (g.agents.take i) : Int) * (g.agents[i].kinds.length : Int)) = (prodK (g.agents.take (i + 1)) : Int) := by
        rw [ht] at h4 ⊢
        rw [← Int.natCast_mul, wrap_i64 _ (by omega) (by omega)]
      simp -dsimp -implicitDefEqProofs [a1, a2, hsi, wi, c1]
      exact Again.by ⟨i + 1, a1, hp2⟩ (Le.to (by simp [wi, wm]) (by simp) (by simp)) (by simp; omega)
    have hi2 : i = g.agents.length := by omega
    subst hi2
    rw [List.take_length] at hp
    simp -dsimp -implicitDefEqProofs
    exact Cut.by ⟨(), by omega, by omega, by omega, hp⟩ (Le.to (by simp) (by simp) (by simp))
  rintro ⟨-, l1, l2, l3, l4⟩
  have hsz : sizeOk g = decide (prodK g.agents ≤ 16) := by
    unfold sizeOk
    rw [decide_eq_true l1, decide_eq_true l2, decide_eq_true l3, List.all_eq_true.2 (fun a ha => decide_eq_true (l4 a ha))]
    rfl
  by_cases c1 : (16 : Int) < (prodK g.agents : Int)
  · have hb := small (by rw [hsz]; exact decide_eq_false (by omega))
    simp -dsimp -implicitDefEqProofs [c1, hb]
  have s1 : sizeOk g = true := by rw [hsz]; exact decide_eq_true (by omega)
  have bad : ¬ RightOk g → e = 2 := isRight_bad he s1
  rw [rightOk_iff] at bad
  by_cases e1 : (g.agents.length : Int) < 1
  · have hb := bad (fun h => h.1.1 (List.length_eq_zero_iff.1 (by omega)))
    simp -dsimp -implicitDefEqProofs [c1, e1, hb]
  by_cases e2 : (g.outs.length : Int) < 1
  · have hb := bad (fun h => h.1.2.1 (List.length_eq_zero_iff.1 (by omega)))
    simp -dsimp -implicitDefEqProofs [c1, e1, e2, hb]
  by_cases e3 : (prodK g.agents : Int) < 1
  · have hb := bad (fun h => h.1.2.2.1 (by omega))
    simp -dsimp -implicitDefEqProofs [c1, e1, e2, e3, hb]
  simp -dsimp -implicitDefEqProofs [c1, e1, e2, e3]
  by_cases e4 : NamesOk g.outs
  · refine eCall.of (dos true (by simp [e4])) (by simp) ?_
    by_cases e5 : g.aim < 1
    · have hb := bad (fun h => by have := h.1.2.2.2.2; omega)
      simp -dsimp -implicitDefEqProofs [e5, hb]
    by_cases e6 : 3 < g.aim
    · have hb := bad (fun h => by have := h.1.2.2.2.2; omega)
      simp -dsimp -implicitDefEqProofs [e5, e6, hb]
    simp -dsimp -implicitDefEqProofs [e5, e6]
    have n1 : g.agents ≠ [] := fun h => by rw [h] at e1; exact e1 (by decide)
    have n2 : g.outs ≠ [] := fun h => by rw [h] at e2; exact e2 (by decide)
    refine sw_loop_e (fun p : {p : Nat × Nat × Nat // p.1 ≤ g.agents.length ∧ p.2.2 < p.2.1 + 1 ∧ (p.1 ≠ 0 → 0 < p.2.2) ∧ ∀ a ∈ g.agents.take p.1, agentIn g a} => SS.of [(1, .v (.one (.mp 0 0))), (6, if p.1.1 = 0 then .v (.one .nils) else .v (.one (.ms p.1.2.2 0 p.1.1 1 true))), (74, .v (.one (agsS g.agents))), (75, I .i64 g.agents.length), (76, I .i64 p.1.1)] ((0, ⟨31, rowGm g⟩) :: if p.1.1 = 0 then [] else [(p.1.2.2, ⟨9, flat rowStr ((g.agents.map Ag.name).take p.1.1)⟩)]) (p.1.2.1 + 1))
      (fun p => g.agents.length - p.1.1) ⟨(0, 0, 0), Nat.zero_le _, by decide, fun h => absurd rfl h, by simp⟩ (by kernel_rfl) (Le.to (by simp) (by simp) (by simp)) ?_
    rintro ⟨⟨i, c, o⟩, hi, hoc, hoc', hp⟩
    simp only at hi hoc hoc' hp
    by_cases a1 : i < g.agents.length
    · have wi : IntKind.i64.wrap ((i : Int) + 1) = ((i + 1 : Nat) : Int) := by rw [wrap_i64 _ (by omega) (by omega)]; rfl
      have hma := List.getElem_mem a1
      have oa := hA _ hma
      have dks := distinct_s (g.agents[i].kinds.map Kd.name) (by have := b4 _ hma; unfold lenOk; rw [List.length_map]; omega) (fun s hs => by obtain ⟨k, hk1, rfl⟩ := List.mem_map.1 hs; exact (oa.2.2 k hk1).1)
      have hb4 := b4 _ hma
      have hfl := flat_snoc (f := rowStr) g.agents[i].name ((g.agents.map Ag.name).take i)
      have hsn := takeSnoc (g.agents.map Ag.name) i (by simpa using a1)
      rw [List.getElem_map] at hsn
      rw [← hsn] at hfl
      have hll : ((g.agents.map Ag.name).take i).length = i := by simp; omega
      by_cases i0 : i = 0
      · subst i0
        rw [show (g.agents.map Ag.name).take 0 = [] from rfl, flat_nil, List.nil_append] at hfl
        simp -dsimp -implicitDefEqProofs [a1, wi, slots]
        refine sw_loop_e (fun p : {p : Nat × Nat × Nat // p.1 ≤ g.agents[0].kinds.length ∧ c + 3 < p.2.1 ∧ p.2.2 < p.2.1 ∧ (p.1 ≠ 0 → c + 3 < p.2.2) ∧ ∀ k ∈ g.agents[0].kinds.take p.1, RKd g.outs.length k} => SS.of [(1, .v (.one (.mp 0 0))), (6, .v (.one (.ms (c + 3) 0 (0 + 1) 1 true))), (9, if p.1.1 = 0 then .v (.one .nils) else .v (.one (.ms p.1.2.2 0 p.1.1 1 true))), (74, .v (.one (agsS g.agents))), (75, I .i64 g.agents.length), (76, I .i64 (((0 : Nat) : Int))), (86, .v (.one (kdsS g.agents[0].kinds))), (87, I .i64 g.agents[0].kinds.length), (88, I .i64 p.1.1)] ((0, ⟨31, rowGm g⟩) :: (c + 3, ⟨9, flat rowStr ((g.agents.map Ag.name).take (0 + 1))⟩) :: if p.1.1 = 0 then [] else [(p.1.2.2, ⟨9, flat rowStr ((g.agents[0].kinds.map Kd.name).take p.1.1)⟩)]) p.1.2.1)
          (fun p => g.agents[0].kinds.length - p.1.1) ⟨(0, c + 4, 0), Nat.zero_le _, by simp, by simp, fun h => absurd rfl h, by simp⟩ (by kernel_rfl) (Le.to (by simp) (by simp [hfl]) (by simp)) ?_
        rintro ⟨⟨k, m, q⟩, hk, hcm, hq, hq', hkp⟩
        simp only at hk hcm hq hq' hkp
        by_cases a3 : k < g.agents[0].kinds.length
        · have wk : IntKind.i64.wrap ((k : Int) + 1) = ((k + 1 : Nat) : Int) := by rw [wrap_i64 _ (by omega) (by omega)]; rfl
          have hkf := flat_snoc (f := rowStr) g.agents[0].kinds[k].name ((g.agents[0].kinds.map Kd.name).take k)
          have hks := takeSnoc (g.agents[0].kinds.map Kd.name) k (by simpa using a3)
          rw [List.getElem_map] at hks
          rw [← hks] at hkf
          have hkl : ((g.agents[0].kinds.map Kd.name).take k).length = k := by simp; omega
          obtain ⟨m1, m2, m3, m4, m5⟩ := oa.2.2 _ (List.getElem_mem a3)
          have hs := fsign_s g.agents[0].kinds[k].weight m2
          have x1 : ¬ 0 = m := by omega
          have x2 : ¬ c + 3 = m := by omega
          have x3 : ¬ c + 3 = m + 1 := by omega
          have x5 : ¬ c + 3 = m + 2 := by omega
          have z1 : ¬ m = 0 := by omega
          have w1 : ¬ m = m + 1 + 1 := by omega
          have w2 : ¬ m + 1 = m + 1 + 1 := by omega
          have w3 : ¬ m = m + 1 := by omega
          have z2 : ¬ m = c + 3 := by omega
          have z3 : ¬ m + 1 = c + 3 := by omega
          have z4 : ¬ m + 2 = c + 3 := by omega
          have z5 : ¬ m + 1 + 1 = c + 3 := by omega
          have x4 : ¬ c + 3 = m + 1 + 1 := by omega
          by_cases k0 : k = 0
          · subst k0
            rw [show (g.agents[0].kinds.map Kd.name).take 0 = [] from rfl, flat_nil, List.nil_append] at hkf
            simp -dsimp -implicitDefEqProofs [a1, a3, wi, wk, slots, x1, x2, x3, x4, x5, z1, z2, z3, z4, z5, w1, w2, w3]
            refine eCall.of hs (by simp) ?_
            by_cases c1 : sgnQ g.agents[0].kinds[0].weight.fix < 0
            · have hb := bad (fun h => ((h.2.1 _ hma).1 _ (List.getElem_mem a3)).1 c1)
              simp -dsimp -implicitDefEqProofs [c1, hb]
            by_cases c2 : g.agents[0].kinds[0].worth.length = g.outs.length
            · simp -dsimp -implicitDefEqProofs [c1, c2, a3, x1, x2, x3, x4, x5, z1, z2, z3, z4, z5, w1, w2, w3]
              exact Again.by ⟨(1, m + 3, m + 2), by omega, by simp only; omega, by simp only; omega, by simp only; omega, all_take a3 hkp ⟨c1, c2⟩⟩ (Le.to (by simp [i64_1]) (by simp [hkf, hfl, x1, x2, x3, x4, x5, z1, z2, z3, z4, z5, w1, w2, w3]) (by simp)) (by simp; omega)
            · have hb := bad (fun h => c2 ((h.2.1 _ hma).1 _ (List.getElem_mem a3)).2)
              simp -dsimp -implicitDefEqProofs [c1, c2, show ¬ (g.agents[0].kinds[0].worth.length : Int) = g.outs.length by omega, hb, a3, x1, x2, x3, x4, x5, z1, z2, z3, z4, z5, w1, w2, w3]
          · have y1 : ¬ q = 0 := by have := hq' k0; omega
            have y1' : ¬ 0 = q := by omega
            have y2 : ¬ q = c + 3 := by have := hq' k0; omega
            have y2' : ¬ c + 3 = q := by omega
            have y3 : ¬ q = m := by omega
            have y3' : ¬ m = q := by omega
            have y4' : ¬ m + 1 = q := by omega
            have y5' : ¬ m + 2 = q := by omega
            have y4 : ¬ q = m + 1 := by omega
            have y5 : ¬ q = m + 2 := by omega
            simp -dsimp -implicitDefEqProofs [a1, a3, wi, wk, slots, k0, hkl, x1, x2, x3, x4, x5, z1, z2, z3, z4, z5, w1, w2, w3, y1, y1', y2, y2', y3, y4, y5, y3', y4', y5']
            refine ⟨by omega, ?_⟩
            refine eCall.of hs (by simp) ?_
            by_cases c1 : sgnQ g.agents[0].kinds[k].weight.fix < 0
            · have hb := bad (fun h => ((h.2.1 _ hma).1 _ (List.getElem_mem a3)).1 c1)
              simp -dsimp -implicitDefEqProofs [c1, hb]
            by_cases c2 : g.agents[0].kinds[k].worth.length = g.outs.length
            · simp -dsimp -implicitDefEqProofs [c1, c2, a3, k0, x1, x2, x3, x4, x5, z1, z2, z3, z4, z5, w1, w2, w3, y1, y1', y2, y2', y3, y4, y5, y3', y4', y5']
              exact Again.by ⟨(k + 1, m + 3, m + 2), by omega, by simp only; omega, by simp only; omega, by simp only; omega, all_take a3 hkp ⟨c1, c2⟩⟩ (Le.to (by simp [wk, k0]) (by simp [hkf, k0, hfl, x1, x2, x3, x4, x5, z1, z2, z3, z4, z5, w1, w2, w3, y1, y1', y2, y2', y3, y4, y5, y3', y4', y5']) (by simp)) (by simp; omega)
            · have hb := bad (fun h => c2 ((h.2.1 _ hma).1 _ (List.getElem_mem a3)).2)
              simp -dsimp -implicitDefEqProofs [c1, c2, show ¬ (g.agents[0].kinds[k].worth.length : Int) = g.outs.length by omega, hb, a3, k0, x1, x2, x3, x4, x5, z1, z2, z3, z4, z5, w1, w2, w3, y1, y1', y2, y2', y3, y4, y5, y3', y4', y5']
        have hk2 : k = g.agents[0].kinds.length := by omega
        subst hk2
        rw [List.take_length] at hkp
        have x1 : ¬ 0 = c + 3 := by omega
        by_cases k0 : g.agents[0].kinds.length = 0
        · have k1 : g.agents[0].kinds = [] := List.length_eq_zero_iff.1 k0
          simp -dsimp -implicitDefEqProofs [k0, k1]
          by_cases c3 : NamesOk (g.agents[0].kinds.map Kd.name)
          · refine eCall.of (dks true (by simp [c3])) (by simp [k1]) ?_
            simp -dsimp -implicitDefEqProofs
            exact Again.by ⟨(0 + 1, m, c + 3), by omega, by simp only; omega, by simp only; omega, all_take a1 hp ⟨hkp, c3⟩⟩ (Le.to (by simp [wi, i64_1]) (by simp [hfl]) (by simp)) (by simp; omega)
          · have hb := bad (fun h => c3 (h.2.1 _ hma).2)
            refine eCall.of (dks false (by simp [c3])) (by simp [k1]) ?_
            simp -dsimp -implicitDefEqProofs [hb]
        · have y1 : ¬ q = 0 := by have := hq' k0; omega
          have y1' : ¬ 0 = q := by omega
          have y2 : ¬ q = c + 3 := by have := hq' k0; omega
          have y2' : ¬ c + 3 = q := by omega
          have htk : (g.agents[0].kinds.map (rowStr ∘ Kd.name)).take g.agents[0].kinds.length = g.agents[0].kinds.map ((fun s => [S1.str s]) ∘ Kd.name) := by rw [List.take_of_length_le (by simp)]; rfl
          simp -dsimp -implicitDefEqProofs [k0, y1, y1', y2, y2', x1, htk]
          by_cases c3 : NamesOk (g.agents[0].kinds.map Kd.name)
          · refine eCall.of (dks true (by simp [c3])) (by simp) ?_
            simp -dsimp -implicitDefEqProofs [y1, y1', y2, y2', x1]
            exact Again.by ⟨(0 + 1, m, c + 3), by omega, by simp only; omega, by simp only; omega, all_take a1 hp ⟨hkp, c3⟩⟩ (Le.to (by simp [wi, i64_1, y1, y1', y2, y2', x1]) (by simp [hfl, y1, y1', y2, y2', x1]) (by simp)) (by simp; omega)
          · have hb := bad (fun h => c3 (h.2.1 _ hma).2)
            refine eCall.of (dks false (by simp [c3])) (by simp) ?_
            simp -dsimp -implicitDefEqProofs [hb]
      · have o0 : ¬ o = 0 := by have := hoc' i0; omega
        have o0' : ¬ 0 = o := by omega
        have oc1 : ¬ o = c + 1 := by omega
        have oc1' : ¬ c + 1 = o := by omega
        have oc2' : ¬ c + 2 = o := by omega
        have oc3' : ¬ c + 3 = o := by omega
        have oc2 : ¬ o = c + 2 := by omega
        have oc3 : ¬ o = c + 3 := by omega
        simp -dsimp -implicitDefEqProofs [a1, wi, i0, slots, hll, oc1, oc2, oc3, oc1', oc2', oc3', o0, o0']
        refine ⟨by omega, ?_⟩
        refine sw_loop_e (fun p : {p : Nat × Nat × Nat // p.1 ≤ g.agents[i].kinds.length ∧ c + 3 < p.2.1 ∧ p.2.2 < p.2.1 ∧ (p.1 ≠ 0 → c + 3 < p.2.2) ∧ ∀ k ∈ g.agents[i].kinds.take p.1, RKd g.outs.length k} => SS.of [(1, .v (.one (.mp 0 0))), (6, .v (.one (.ms (c + 3) 0 (i + 1) 1 true))), (9, if p.1.1 = 0 then .v (.one .nils) else .v (.one (.ms p.1.2.2 0 p.1.1 1 true))), (74, .v (.one (agsS g.agents))), (75, I .i64 g.agents.length), (76, I .i64 (i)), (86, .v (.one (kdsS g.agents[i].kinds))), (87, I .i64 g.agents[i].kinds.length), (88, I .i64 p.1.1)] ((0, ⟨31, rowGm g⟩) :: (c + 3, ⟨9, flat rowStr ((g.agents.map Ag.name).take (i + 1))⟩) :: if p.1.1 = 0 then [] else [(p.1.2.2, ⟨9, flat rowStr ((g.agents[i].kinds.map Kd.name).take p.1.1)⟩)]) p.1.2.1)
          (fun p => g.agents[i].kinds.length - p.1.1) ⟨(0, c + 4, 0), Nat.zero_le _, by simp, by simp, fun h => absurd rfl h, by simp⟩ (by kernel_rfl) (Le.to (by simp [i0]) (by simp [hfl, o0, o0']) (by simp)) ?_
        rintro ⟨⟨k, m, q⟩, hk, hcm, hq, hq', hkp⟩
        simp only at hk hcm hq hq' hkp
        by_cases a3 : k < g.agents[i].kinds.length
        · have wk : IntKind.i64.wrap ((k : Int) + 1) = ((k + 1 : Nat) : Int) := by rw [wrap_i64 _ (by omega) (by omega)]; rfl
          have hkf := flat_snoc (f := rowStr) g.agents[i].kinds[k].name ((g.agents[i].kinds.map Kd.name).take k)
          have hks := takeSnoc (g.agents[i].kinds.map Kd.name) k (by simpa using a3)
          rw [List.getElem_map] at hks
          rw [← hks] at hkf
          have hkl : ((g.agents[i].kinds.map Kd.name).take k).length = k := by simp; omega
          obtain ⟨m1, m2, m3, m4, m5⟩ := oa.2.2 _ (List.getElem_mem a3)
          have hs := fsign_s g.agents[i].kinds[k].weight m2
          have x1 : ¬ 0 = m := by omega
          have x2 : ¬ c + 3 = m := by omega
          have x3 : ¬ c + 3 = m + 1 := by omega
          have x5 : ¬ c + 3 = m + 2 := by omega
          have z1 : ¬ m = 0 := by omega
          have w1 : ¬ m = m + 1 + 1 := by omega
          have w2 : ¬ m + 1 = m + 1 + 1 := by omega
          have w3 : ¬ m = m + 1 := by omega
          have z2 : ¬ m = c + 3 := by omega
          have z3 : ¬ m + 1 = c + 3 := by omega
          have z4 : ¬ m + 2 = c + 3 := by omega
          have z5 : ¬ m + 1 + 1 = c + 3 := by omega
          have x4 : ¬ c + 3 = m + 1 + 1 := by omega
          by_cases k0 : k = 0
          · subst k0
            rw [show (g.agents[i].kinds.map Kd.name).take 0 = [] from rfl, flat_nil, List.nil_append] at hkf
            simp -dsimp -implicitDefEqProofs [a1, a3, wi, wk, slots, x1, x2, x3, x4, x5, z1, z2, z3, z4, z5, w1, w2, w3]
            refine eCall.of hs (by simp) ?_
            by_cases c1 : sgnQ g.agents[i].kinds[0].weight.fix < 0
            · have hb := bad (fun h => ((h.2.1 _ hma).1 _ (List.getElem_mem a3)).1 c1)
              simp -dsimp -implicitDefEqProofs [c1, hb]
            by_cases c2 : g.agents[i].kinds[0].worth.length = g.outs.length
            · simp -dsimp -implicitDefEqProofs [c1, c2, a3, x1, x2, x3, x4, x5, z1, z2, z3, z4, z5, w1, w2, w3]
              exact Again.by ⟨(1, m + 3, m + 2), by omega, by simp only; omega, by simp only; omega, by simp only; omega, all_take a3 hkp ⟨c1, c2⟩⟩ (Le.to (by simp [i64_1]) (by simp [hkf, hfl, x1, x2, x3, x4, x5, z1, z2, z3, z4, z5, w1, w2, w3]) (by simp)) (by simp; omega)
            · have hb := bad (fun h => c2 ((h.2.1 _ hma).1 _ (List.getElem_mem a3)).2)
              simp -dsimp -implicitDefEqProofs [c1, c2, show ¬ (g.agents[i].kinds[0].worth.length : Int) = g.outs.length by omega, hb, a3, x1, x2, x3, x4, x5, z1, z2, z3, z4, z5, w1, w2, w3]
          · have y1 : ¬ q = 0 := by have := hq' k0; omega
            have y1' : ¬ 0 = q := by omega
            have y2 : ¬ q = c + 3 := by have := hq' k0; omega
            have y2' : ¬ c + 3 = q := by omega
            have y3 : ¬ q = m := by omega
            have y3' : ¬ m = q := by omega
            have y4' : ¬ m + 1 = q := by omega
            have y5' : ¬ m + 2 = q := by omega
            have y4 : ¬ q = m + 1 := by omega
            have y5 : ¬ q = m + 2 := by omega
            simp -dsimp -implicitDefEqProofs [a1, a3, wi, wk, slots, k0, hkl, x1, x2, x3, x4, x5, z1, z2, z3, z4, z5, w1, w2, w3, y1, y1', y2, y2', y3, y4, y5, y3', y4', y5']
            refine ⟨by omega, ?_⟩
            refine eCall.of hs (by simp) ?_
            by_cases c1 : sgnQ g.agents[i].kinds[k].weight.fix < 0
            · have hb := bad (fun h => ((h.2.1 _ hma).1 _ (List.getElem_mem a3)).1 c1)
              simp -dsimp -implicitDefEqProofs [c1, hb]
            by_cases c2 : g.agents[i].kinds[k].worth.length = g.outs.length
            · simp -dsimp -implicitDefEqProofs [c1, c2, a3, k0, x1, x2, x3, x4, x5, z1, z2, z3, z4, z5, w1, w2, w3, y1, y1', y2, y2', y3, y4, y5, y3', y4', y5']
              exact Again.by ⟨(k + 1, m + 3, m + 2), by omega, by simp only; omega, by simp only; omega, by simp only; omega, all_take a3 hkp ⟨c1, c2⟩⟩ (Le.to (by simp [wk, k0]) (by simp [hkf, k0, hfl, x1, x2, x3, x4, x5, z1, z2, z3, z4, z5, w1, w2, w3, y1, y1', y2, y2', y3, y4, y5, y3', y4', y5']) (by simp)) (by simp; omega)
            · have hb := bad (fun h => c2 ((h.2.1 _ hma).1 _ (List.getElem_mem a3)).2)
              simp -dsimp -implicitDefEqProofs [c1, c2, show ¬ (g.agents[i].kinds[k].worth.length : Int) = g.outs.length by omega, hb, a3, k0, x1, x2, x3, x4, x5, z1, z2, z3, z4, z5, w1, w2, w3, y1, y1', y2, y2', y3, y4, y5, y3', y4', y5']
        have hk2 : k = g.agents[i].kinds.length := by omega
        subst hk2
        rw [List.take_length] at hkp
        have x1 : ¬ 0 = c + 3 := by omega
        by_cases k0 : g.agents[i].kinds.length = 0
        · have k1 : g.agents[i].kinds = [] := List.length_eq_zero_iff.1 k0
          simp -dsimp -implicitDefEqProofs [k0, k1]
          by_cases c3 : NamesOk (g.agents[i].kinds.map Kd.name)
          · refine eCall.of (dks true (by simp [c3])) (by simp [k1]) ?_
            simp -dsimp -implicitDefEqProofs
            exact Again.by ⟨(i + 1, m, c + 3), by omega, by simp only; omega, by simp only; omega, all_take a1 hp ⟨hkp, c3⟩⟩ (Le.to (by simp [wi, i64_1]) (by simp [hfl]) (by simp)) (by simp; omega)
          · have hb := bad (fun h => c3 (h.2.1 _ hma).2)
            refine eCall.of (dks false (by simp [c3])) (by simp [k1]) ?_
            simp -dsimp -implicitDefEqProofs [hb]
        · have y1 : ¬ q = 0 := by have := hq' k0; omega
          have y1' : ¬ 0 = q := by omega
          have y2 : ¬ q = c + 3 := by have := hq' k0; omega
          have y2' : ¬ c + 3 = q := by omega
          have htk : (g.agents[i].kinds.map (rowStr ∘ Kd.name)).take g.agents[i].kinds.length = g.agents[i].kinds.map ((fun s => [S1.str s]) ∘ Kd.name) := by rw [List.take_of_length_le (by simp)]; rfl
          simp -dsimp -implicitDefEqProofs [k0, y1, y1', y2, y2', x1, htk]
          by_cases c3 : NamesOk (g.agents[i].kinds.map Kd.name)
          · refine eCall.of (dks true (by simp [c3])) (by simp) ?_
            simp -dsimp -implicitDefEqProofs [y1, y1', y2, y2', x1]
            exact Again.by ⟨(i + 1, m, c + 3), by omega, by simp only; omega, by simp only; omega, all_take a1 hp ⟨hkp, c3⟩⟩ (Le.to (by simp [wi, i64_1, y1, y1', y2, y2', x1]) (by simp [hfl, y1, y1', y2, y2', x1]) (by simp)) (by simp; omega)
          · have hb := bad (fun h => c3 (h.2.1 _ hma).2)
            refine eCall.of (dks false (by simp [c3])) (by simp) ?_
            simp -dsimp -implicitDefEqProofs [hb]
    have hi2 : i = g.agents.length := by omega
    subst hi2
    rw [List.take_length] at hp
    have i0 : ¬ g.agents.length = 0 := by omega
    have o0 : ¬ o = 0 := by have := hoc' i0; omega
    have o0' : ¬ 0 = o := by omega
    have htk : (g.agents.map (rowStr ∘ Ag.name)).take g.agents.length = g.agents.map ((fun s => [S1.str s]) ∘ Ag.name) := by rw [List.take_of_length_le (by simp)]; rfl
    simp -dsimp -implicitDefEqProofs [i0, n1, o0, o0', htk]
    by_cases c3 : NamesOk (g.agents.map Ag.name)
    · refine eCall.of (das true (by simp [c3])) (by simp) ?_
      simp -dsimp -implicitDefEqProofs [o0, o0']
      by_cases c4 : NeedsOk g
      · refine eCall.of (hnd true (by simp [c4])) (by simp) ?_
        have hb := isRight_ok he s1 (rightOk_iff.2 ⟨⟨n1, n2, by omega, e4, by omega, by omega⟩, hp, c3, c4⟩)
        simp -dsimp -implicitDefEqProofs [hb]
      · have hb := bad (fun h => c4 h.2.2.2)
        refine eCall.of (hnd false (by simp [c4])) (by simp) ?_
        simp -dsimp -implicitDefEqProofs [hb]
    · have hb := bad (fun h => c3 h.2.2.1)
      refine eCall.of (das false (by simp [c3])) (by simp) ?_
      simp -dsimp -implicitDefEqProofs [hb]
  · have hb := bad (fun h => e4 h.1.2.2.2.1)
    refine eCall.of (dos false (by simp [e4])) (by simp) ?_
    simp -dsimp -implicitDefEqProofs [hb]
end Go.Proofs.YtaljbebkooppiaaGreat.Sh

namespace Go.Proofs.YtaljbebkooppiaaGreat.Sh
open Go Go.RowKit
structure Fine (g : Gm) : Prop where
  ok : g.ok
  bey : beyond g = false
  sz : sizeOk g = true
  right : RightOk g
theorem Fine.isRight {g : Gm} (h : Fine g) : isRight g 0 := .inr (.inr ⟨h.sz, h.right, rfl⟩)
theorem sizeOk_all {g : Gm} (h : sizeOk g = true) : g.agents.length ≤ 4 ∧ g.outs.length ≤ 6 ∧ g.needs.length ≤ 12 ∧ (∀ a ∈ g.agents, a.kinds.length ≤ 4) ∧ prodK g.agents ≤ 16 := by
  unfold sizeOk at h
  simp only [Bool.and_eq_true, decide_eq_true_eq, List.all_eq_true] at h
  obtain ⟨⟨⟨⟨h1, h2⟩, h3⟩, h4⟩, h5⟩ := h
  exact ⟨h1, h2, h3, h4, h5⟩
theorem Fine.kinds_pos {g : Gm} (h : Fine g) : ∀ a ∈ g.agents, 0 < a.kinds.length := fun a ha => List.length_pos_iff.2 (h.right.all a ha).1
theorem Fine.prod_le {g : Gm} (h : Fine g) (i : Nat) (hi : i ≤ g.agents.length) : prodK (g.agents.take i) ≤ 256 := by
  obtain ⟨h1, -, -, h4, -⟩ := sizeOk_all h.sz
  have h3 := prodK_le h4 i hi
  have : (4 : Nat) ^ i ≤ 4 ^ 4 := Nat.pow_le_pow_right (by decide) (by omega)
  omega
set_option maxRecDepth 20000 in
theorem count_s (g : Gm) (h : Fine g) : CallsS Tryz.prog 68 [gmS g] (I .i64 (prodK g.agents)) := by
  obtain ⟨h1, -, -, h4, -⟩ := sizeOk_all h.sz
  refine calls Tryz.func68 rfl (by rfl) (by rfl) (by kernel_rfl) ?_
  simp -dsimp -implicitDefEqProofs [Tryz.f68]
  refine sw_loop_e (fun p : {p : Nat // p ≤ g.agents.length} => SS.of [(1, .v (.one (.mp 0 0))), (3, I .i64 (prodK (g.agents.take p.1))), (4, I .i64 p.1)] [(0, ⟨31, rowGm g⟩)] 1)
    (fun p => g.agents.length - p.1) ⟨0, Nat.zero_le _⟩ (by kernel_rfl) (Le.to (by simp [prodK]) (by simp) (by simp)) ?_
  rintro ⟨i, hi⟩
  by_cases a1 : i < g.agents.length
  · have wi : IntKind.i64.wrap ((i : Int) + 1) = ((i + 1 : Nat) : Int) := by rw [wrap_i64 _ (by omega) (by omega)]; rfl
    have hp := h.prod_le (i + 1) a1
    have ht := prodK_take a1
    have wm : IntKind.i64.wrap ((prodK (g.agents.take i) : Int) * (g.agents[i].kinds.length : Int)) = (prodK (g.agents.take (i + 1)) : Int) := by
      rw [ht] at hp ⊢
      rw [← Int.natCast_mul, wrap_i64 _ (by omega) (by omega)]
    simp -dsimp -implicitDefEqProofs [a1, wi]
    exact Again.by ⟨i + 1, a1⟩ (Le.to (by simp [wi, wm]) (by simp) (by simp)) (by simp; omega)
  have hi2 : i = g.agents.length := by omega
  subst hi2
  simp -dsimp -implicitDefEqProofs
def atTo (g : Gm) (i j : Nat) : List Int := (atR ((szs g).take j).reverse i)
theorem flat_ints (p : List Int) : (List.map (fun x => [S1.int .i64 x]) p).flatten = flat rowInt p := rfl
theorem flat_int (p : List Int) : flat rowInt p = p.map (S1.int .i64) := by
  induction p with
  | nil => rfl
  | cons x p ih =>
    show rowInt x ++ flat rowInt p = _
    rw [ih]; rfl
theorem set_int (p : List Int) (i : Nat) (k : Int) : (flat rowInt p).set i (S1.int .i64 k) = flat rowInt (p.set i k) := by rw [flat_int, flat_int, List.map_set]
theorem known_int (p : List Int) : ∀ x ∈ flat rowInt p, (match x with | S1.any => false | _ => true) = true := by
  intro x hx
  rw [flat_int] at hx
  obtain ⟨y, -, rfl⟩ := List.mem_map.1 hx
  rfl
end Go.Proofs.YtaljbebkooppiaaGreat.Sh

namespace Go.Proofs.YtaljbebkooppiaaGreat.Sh
open Go Go.RowKit
@[simp] def rowProf (p : List Int) : List S1 := [intsS p]
instance : RowF 1 rowProf := ⟨fun _ => rfl, fun x s h => by simp at h; subst h; rfl⟩
@[simp] def profsS (l : List (List Int)) : S1 := .sl true 1 (l.map rowProf)
theorem flat_prof (p : List (List Int)) : flat rowProf p = p.map intsS := by
  induction p with
  | nil => rfl
  | cons x p ih =>
    show rowProf x ++ flat rowProf p = _
    rw [ih]; rfl
theorem flat_prof_len (p : List (List Int)) : (flat rowProf p).length = p.length := by rw [flat_prof, List.length_map]
@[simp] theorem flat_prof_get (p : List (List Int)) (j : Nat) (h : j < (flat rowProf p).length) : (flat rowProf p)[j] = intsS (p[j]'(by rw [flat_prof_len] at h; exact h)) := by
  simp only [flat_prof, List.getElem_map]
theorem profR_mem : ∀ (r : List Nat) (p : List Int), p ∈ profR r → p.length = r.length
  | [], p, h => by
    simp [profR] at h; subst h; rfl
  | n :: r, p, h => by
    rw [profR, List.mem_flatMap] at h
    obtain ⟨q, hq, h⟩ := h
    obtain ⟨k, -, rfl⟩ := List.mem_map.1 h
    rw [List.length_append, profR_mem r q hq]; rfl
theorem flat_prof1 (p : List Int) : flat rowProf [p] = [intsS p] := rfl
theorem rows_snoc (p : List Int) (k : Int) : rowsOf (flat rowInt p ++ [S1.int .i64 k]) 0 1 (p.length + 1) = (p.map fun x => [S1.int .i64 x]) ++ [[S1.int .i64 k]] := by
  have h := rowsOf_flat (f := rowInt) (p ++ [k]) (p.length + 1) (by simp)
  rw [flat_snoc] at h
  rw [show [S1.int .i64 k] = rowInt k from rfl, h, List.map_append]; rfl
def extP (n : Nat) (p : List Int) : List (List Int) := (List.range n).map fun (k : Nat) => p ++ [(k : Int)]
def rowsTo (out : List (List Int)) (n j k : Nat) : List (List Int) := (out.take j).flatMap (extP n) ++ (extP n ((out[j]?).getD [])).take k
theorem extP_length (n : Nat) (p : List Int) : (extP n p).length = n := by simp [extP]
theorem rowsTo_zero (out : List (List Int)) (n : Nat) : rowsTo out n 0 0 = [] := by simp [rowsTo]
theorem rowsTo_step {out : List (List Int)} {n j k : Nat} (hj : j < out.length) (hk : k < n) : rowsTo out n j (k + 1) = rowsTo out n j k ++ [out[j] ++ [(k : Int)]] := by
  unfold rowsTo
  rw [List.getElem?_eq_getElem hj, Option.getD_some, List.append_assoc, List.take_add_one]
  simp [extP, hk]
theorem rowsTo_row {out : List (List Int)} {n j : Nat} (hj : j < out.length) : rowsTo out n j n = rowsTo out n (j + 1) 0 := by
  unfold rowsTo
  rw [List.getElem?_eq_getElem hj, Option.getD_some, List.take_of_length_le (l := extP n out[j]) (by rw [extP_length]; exact Nat.le_refl _), List.take_zero, List.append_nil, takeSnoc out j hj, List.flatMap_append]
  simp
theorem rowsTo_all {out : List (List Int)} {n : Nat} : rowsTo out n out.length 0 = out.flatMap (extP n) := by
  unfold rowsTo; simp
theorem rowsTo_len {out : List (List Int)} {n j k : Nat} (hj : j ≤ out.length) (hk : k ≤ n) : (rowsTo out n j k).length = j * n + k := by
  unfold rowsTo
  rw [List.length_append, List.length_flatMap]
  have : (List.map (fun p => (extP n p).length) (out.take j)) = List.replicate j n := by
    rw [List.eq_replicate_iff]
    exact ⟨by simp; omega, fun b hb => by obtain ⟨p, -, rfl⟩ := List.mem_map.1 hb; exact extP_length n p⟩
  rw [this, List.sum_replicate_nat, List.length_take, extP_length, Nat.min_eq_left hk]
set_option maxRecDepth 20000 in
set_option maxHeartbeats 1000000 in
theorem profiles_s (g : Gm) (h : Fine g) : CallsS Tryz.prog 59 [gmS g] (.v (.one (profsS (profs g)))) := by
  obtain ⟨h1, -, -, h4, h5⟩ := sizeOk_all h.sz
  have hsl : (sizesL g).length = g.agents.length := by simp [sizesL]
  refine calls Tryz.func59 rfl (by rfl) (by rfl) (by kernel_rfl) ?_
  simp -dsimp -implicitDefEqProofs [Tryz.f59]
  refine eCall.of (sright_s g h.ok h.bey 0 h.isRight) (by simp) ?_
  simp -dsimp -implicitDefEqProofs [slots]
  refine eCall.of (sizes_s g (by omega)) (by simp) ?_
  simp -dsimp -implicitDefEqProofs [hsl]
  refine sw_loop_e (fun p : {p : Nat × Nat × Nat // p.1 ≤ g.agents.length ∧ p.2.2 < p.2.1 + 2 ∧ 0 < p.2.2} => SS.of [(1, .v (.one (.mp 0 0))), (3, .v (.one (.ms p.1.2.2 0 (profR ((szs g).take p.1.1).reverse).length 1 true))), (15, .v (.one (intsS (sizesL g)))), (16, I .i64 g.agents.length), (17, I .i64 p.1.1)] [(0, ⟨31, rowGm g⟩), (p.1.2.2, ⟨54, flat rowProf (profR ((szs g).take p.1.1).reverse)⟩)] (p.1.2.1 + 2))
    (fun p => g.agents.length - p.1.1) ⟨(0, 0, 1), Nat.zero_le _, by decide, by decide⟩ (by kernel_rfl) (Le.to (by simp [profR]) (by simp [profR, flat]) (by simp)) ?_
  rintro ⟨⟨i, c, o⟩, hi, hoc, hoc'⟩
  simp only at hi hoc hoc'
  have o0 : ¬ o = 0 := by omega
  have o0' : ¬ 0 = o := by omega
  by_cases a1 : i < g.agents.length
  · have wi : IntKind.i64.wrap ((i : Int) + 1) = ((i + 1 : Nat) : Int) := by rw [wrap_i64 _ (by omega) (by omega)]; rfl
    have a2 : i < (sizesL g).length := by omega
    have hsi : (sizesL g)[i] = (g.agents[i].kinds.length : Int) := by simp [sizesL]
    have hn4 := h4 _ (List.getElem_mem a1)
    have hn0 := h.kinds_pos _ (List.getElem_mem a1)
    have hpl := h.prod_le i hi
    rw [prodR_take] at hpl
    have hrev : ((szs g).take (i + 1)).reverse = g.agents[i].kinds.length :: ((szs g).take i).reverse := by
      rw [takeSnoc (szs g) i (by simp [szs]; omega), List.reverse_append]; simp [szs]
    rw [← profR_length] at hpl
    have hnx : profR ((szs g).take (i + 1)).reverse = (profR ((szs g).take i).reverse).flatMap (extP g.agents[i].kinds.length) := by rw [hrev]; rfl
    have hpos : 0 < (profR ((szs g).take i).reverse).length := by
      rw [profR_length, ← prodR_take]
      exact prod_pos (fun a ha => (h.right.all a ha).1) i hi
    have hol : ∀ p ∈ profR ((szs g).take i).reverse, p.length ≤ 4 := fun p hp => by
      rw [profR_mem _ p hp]; simp [szs]; omega
    generalize profR ((szs g).take i).reverse = out at *
    generalize hnn : g.agents[i].kinds.length = n at *
    simp -dsimp -implicitDefEqProofs [a1, a2, hsi, wi]
    refine sw_loop_e (fun p : {p : Nat × Nat × Nat // p.1 ≤ out.length ∧ o < p.2.1 ∧ p.2.2 < p.2.1 ∧ (rowsTo out n p.1 0 ≠ [] → o < p.2.2)} => SS.of [(1, .v (.one (.mp 0 0))), (5, I .i64 n), (6, if rowsTo out n p.1.1 0 = [] then .v (.one .nils) else .v (.one (.ms p.1.2.2 0 (rowsTo out n p.1.1 0).length 1 true))), (15, .v (.one (intsS (sizesL g)))), (16, I .i64 g.agents.length), (17, I .i64 i), (21, .v (.one (.ms o 0 out.length 1 true))), (22, I .i64 out.length), (23, I .i64 p.1.1)] ((0, ⟨31, rowGm g⟩) :: (o, ⟨54, flat rowProf out⟩) :: if rowsTo out n p.1.1 0 = [] then [] else [(p.1.2.2, ⟨54, flat rowProf (rowsTo out n p.1.1 0)⟩)]) p.1.2.1)
      (fun p => out.length - p.1.1) ⟨(0, c + 2, 0), Nat.zero_le _, by simp only; omega, by simp, fun h => absurd (rowsTo_zero out n) h⟩ (by kernel_rfl) (Le.to (by simp [rowsTo_zero]) (by simp [o0, o0', rowsTo_zero]) (by simp)) ?_
    rintro ⟨⟨j, d, q⟩, hj, hd, hq, hq'⟩
    simp only at hj hd hq hq'
    by_cases a3 : j < out.length
    · have wj : IntKind.i64.wrap ((j : Int) + 1) = ((j + 1 : Nat) : Int) := by rw [wrap_i64 _ (by omega) (by omega)]; rfl
      simp -dsimp -implicitDefEqProofs [a3, wj, o0, o0']
      refine sw_loop_e (fun p : {p : Nat × Nat × Nat // p.1 ≤ n ∧ o < p.2.1 ∧ p.2.2 < p.2.1 ∧ (rowsTo out n j p.1 ≠ [] → o < p.2.2)} => SS.of [(1, .v (.one (.mp 0 0))), (5, I .i64 n), (6, if rowsTo out n j p.1.1 = [] then .v (.one .nils) else .v (.one (.ms p.1.2.2 0 (rowsTo out n j p.1.1).length 1 true))), (8, .v (.one (intsS out[j]))), (15, .v (.one (intsS (sizesL g)))), (16, I .i64 g.agents.length), (17, I .i64 i), (21, .v (.one (.ms o 0 out.length 1 true))), (22, I .i64 out.length), (23, I .i64 j), (27, I .i64 n), (28, I .i64 p.1.1)] ((0, ⟨31, rowGm g⟩) :: (o, ⟨54, flat rowProf out⟩) :: if rowsTo out n j p.1.1 = [] then [] else [(p.1.2.2, ⟨54, flat rowProf (rowsTo out n j p.1.1)⟩)]) p.1.2.1)
        (fun p => n - p.1.1) ⟨(0, d, q), Nat.zero_le _, hd, hq, hq'⟩ (by kernel_rfl) (by
          by_cases z : rowsTo out n j 0 = []
          · exact Le.to (by simp [z]) (by simp [z, o0, o0']) (by simp)
          · have := hq' z
            exact Le.to (by simp [z]) (by simp [z, o0, o0', show ¬ q = 0 by omega, show ¬ 0 = q by omega, show ¬ q = o by omega, show ¬ o = q by omega]) (by simp)) ?_
      rintro ⟨⟨k, m, r⟩, hk, hm, hr, hr'⟩
      simp only at hk hm hr hr'
      have x1 : ¬ m = 0 := by omega
      have x1' : ¬ 0 = m := by omega
      have x2 : ¬ m = o := by omega
      have x2' : ¬ o = m := by omega
      have x3 : ¬ o = m + 1 := by omega
      have x4 : ¬ o = m + 1 + 1 := by omega
      have x5 : ¬ o = m + 1 + 1 + 1 := by omega
      have x6 : ¬ o = m + 1 + 1 + 1 + 1 := by omega
      have x7 : ¬ o = m + 1 + 1 + 1 + 1 + 1 := by omega
      by_cases a4 : k < n
      · have wk : IntKind.i64.wrap ((k : Int) + 1) = ((k + 1 : Nat) : Int) := by rw [wrap_i64 _ (by omega) (by omega)]; rfl
        have hst := rowsTo_step a3 a4
        have hfl := flat_snoc (f := rowProf) (out[j] ++ [(k : Int)]) (rowsTo out n j k)
        rw [← hst] at hfl
        have hoj := hol _ (List.getElem_mem a3)
        by_cases z : rowsTo out n j k = []
        · rw [z, flat_nil, List.nil_append] at hfl
          rw [z, List.nil_append] at hst
          simp -dsimp -implicitDefEqProofs [a4, wk, z, slots, flat_ints, o0, o0', x1, x1', x2, x2', x3, x4, x5, x6, x7]
          refine ⟨known_int _, ⟨by omega, by omega⟩, ⟨by omega, by omega⟩, ?_⟩
          exact Again.by ⟨(k + 1, m + 6, m + 5), a4, by simp only; omega, by simp only; omega, fun _ => by simp only; omega⟩ (Le.to (by simp [wk, hst, o0, o0', x1, x1', x2, x2', x3, x4, x5, x6, x7]) (by simp [hst, flat_prof1, rows_snoc, o0, o0', x1, x1', x2, x2', x3, x4, x5, x6, x7]) (by simp)) (by simp; omega)
        · have y := hr' z
          have y1 : ¬ r = 0 := by omega
          have y1' : ¬ 0 = r := by omega
          have y2 : ¬ r = o := by omega
          have y2' : ¬ o = r := by omega
          have y3 : ¬ r = m := by omega
          have y4 : ¬ r = m + 1 := by omega
          have y5 : ¬ r = m + 1 + 1 := by omega
          have y6 : ¬ r = m + 1 + 1 + 1 := by omega
          have y7 : ¬ r = m + 1 + 1 + 1 + 1 := by omega
          have y8 : ¬ r = m + 1 + 1 + 1 + 1 + 1 := by omega
          have hlen := rowsTo_len (out := out) (n := n) (j := j) (k := k) hj hk
          have hjn : j * n ≤ 256 * 4 := Nat.mul_le_mul (by omega) hn4
          simp -dsimp -implicitDefEqProofs [a4, wk, z, slots, flat_ints, o0, o0', x1, x1', x2, x2', x3, x4, x5, x6, x7, y1, y1', y2, y2', y3, y4, y5, y6, y7, y8]
          refine ⟨known_int _, ⟨by omega, by omega⟩, ⟨by omega, by omega⟩, ⟨by omega, by omega⟩, ?_⟩
          have z' : ¬ rowsTo out n j (k + 1) = [] := by rw [hst]; simp
          have hl1 : (rowsTo out n j (k + 1)).length = (rowsTo out n j k).length + 1 := by rw [hst]; simp
          exact Again.by ⟨(k + 1, m + 6, m + 5), a4, by simp only; omega, by simp only; omega, fun _ => by simp only; omega⟩ (Le.to (by simp [wk, z', hl1, o0, o0', x1, x1', x2, x2', x3, x4, x5, x6, x7, y1, y1', y2, y2', y3, y4, y5, y6, y7, y8]) (by simp [z', hfl, rows_snoc, o0, o0', x1, x1', x2, x2', x3, x4, x5, x6, x7, y1, y1', y2, y2', y3, y4, y5, y6, y7, y8]) (by simp)) (by simp; omega)
      have hk2 : k = n := by omega
      subst hk2
      have hrow := rowsTo_row (n := k) a3
      by_cases z : rowsTo out k j k = []
      · have z' : rowsTo out k (j + 1) 0 = [] := by rw [← hrow, z]
        simp -dsimp -implicitDefEqProofs [z]
        exact Again.by ⟨(j + 1, m, r), a3, hm, hr, fun h => absurd z' h⟩ (Le.to (by simp [wj, z']) (by simp [z', o0, o0']) (by simp)) (by simp; omega)
      · have y := hr' z
        have z' : ¬ rowsTo out k (j + 1) 0 = [] := by rw [← hrow]; exact z
        have y1 : ¬ r = 0 := by omega
        have y1' : ¬ 0 = r := by omega
        have y2 : ¬ r = o := by omega
        have y2' : ¬ o = r := by omega
        simp -dsimp -implicitDefEqProofs [z, y1, y1', y2, y2', hrow]
        exact Again.by ⟨(j + 1, m, r), a3, hm, hr, fun _ => y⟩ (Le.to (by simp [wj, z', hrow]) (by simp [z', hrow, o0, o0', y1, y1', y2, y2']) (by simp)) (by simp; omega)
    have hj2 : j = out.length := by omega
    subst hj2
    rw [rowsTo_all, ← hnx] at hq'
    have z : ¬ profR ((szs g).take (i + 1)).reverse = [] := by
      have := prod_pos (l := g.agents) (fun a ha => (h.right.all a ha).1) (i + 1) a1
      rw [prodR_take, ← profR_length] at this
      intro e; rw [e] at this; exact absurd this (by decide)
    have y := hq' z
    have y1 : ¬ q = 0 := by omega
    have y1' : ¬ 0 = q := by omega
    have y2 : ¬ q = o := by omega
    have y2' : ¬ o = q := by omega
    simp -dsimp -implicitDefEqProofs [rowsTo_all, ← hnx, z, y1, y1', y2, y2', o0, o0']
    exact Again.by ⟨(i + 1, d, q), a1, by simp only; omega, by simp only; omega⟩ (Le.to (by simp [wi]) (by simp [y1, y1', y2, y2', o0, o0']) (by simp)) (by simp; omega)
  have hi2 : i = g.agents.length := by omega
  subst hi2
  simp -dsimp -implicitDefEqProofs [o0, o0']
  rw [profs, List.take_of_length_le (by simp [szs])]
end Go.Proofs.YtaljbebkooppiaaGreat.Sh

namespace Go.Proofs.YtaljbebkooppiaaGreat.Sh
open Go Go.RowKit
def LotOk (l : List FR) : Prop := (∀ f ∈ l, 0 ≤ f.fix) ∧ sumQ (l.map FR.fix) = 1
def OneIn (l : List FR) : Prop := ∃ f ∈ l, f.fix = 1
def FitsOk (g : Gm) (c : Ce) : Prop := c.lot.length = g.outs.length ∧ c.pay.length = g.agents.length ∧ LotOk c.lot ∧ (g.lots = true ∨ OneIn c.lot) ∧ (g.pay = true ∨ ∀ f ∈ c.pay, sgnQ f.fix = 0)
structure CeFine (c : Ce) : Prop where
  ok : c.ok
  lot : ∀ f ∈ c.lot, mz f.fix ≤ 28
  pay : ∀ f ∈ c.pay, mz f.fix ≤ 28
structure CeSix (c : Ce) : Prop where
  lot : ∀ f ∈ c.lot, mz f.fix ≤ 6
  pay : ∀ f ∈ c.pay, mz f.fix ≤ 6
theorem fixBig {f : FR} (h : f.ok) {b : Nat} (hb : 1 ≤ b) (h1 : f.big ≤ b) : mz f.fix ≤ b := by
  by_cases hr : f.right = true
  · have h2 := (FR.right_fix h hr).1
    simp at h2
    obtain ⟨-, h3, h4⟩ := h2
    have l3 := congrArg List.length h3
    have l4 := congrArg List.length h4
    simp at l3 l4
    unfold mz
    unfold FR.big at h1
    have e3 : wl f.fix.num.natAbs = f.num.length := l3.symm
    have e4 : wl f.fix.den = f.den.length := l4.symm
    omega
  · have : f.fix = 0 := by unfold FR.fix; rw [if_neg hr]
    rw [this, show mz 0 = 1 by decide +kernel]; exact hb
theorem wideF_no {m : Int} {l : List FR} (h : wideF m l = false) : ∀ f ∈ l, (f.big : Int) ≤ m := by
  intro f hf
  unfold wideF at h
  have := List.any_eq_false.1 h f hf
  simp only [decide_eq_true_eq] at this
  omega
theorem CeSix.fine {c : Ce} (h : CeSix c) (ho : c.ok) : CeFine c := ⟨ho, fun f hf => Nat.le_trans (h.lot f hf) (by decide), fun f hf => Nat.le_trans (h.pay f hf) (by decide)⟩
theorem CeSix.of {c : Ce} (ho : c.ok) (h1 : ∀ f ∈ c.lot, f.big ≤ 6) (h2 : ∀ f ∈ c.pay, f.big ≤ 6) : CeSix c :=
  ⟨fun f hf => fixBig (ho.2.2.1 f hf) (by omega) (h1 f hf), fun f hf => fixBig (ho.2.2.2 f hf) (by omega) (h2 f hf)⟩
theorem CeFine.small {g : Gm} {c : Ce} (h : CeFine c) (hl : c.lot.length ≤ 6) : Small c.lot 28 :=
  ⟨h.ok.2.2.1, fun q hq => by obtain ⟨f, hf, rfl⟩ := List.mem_map.1 hq; exact h.lot f hf, by omega⟩
end Go.Proofs.YtaljbebkooppiaaGreat.Sh

namespace Go.Proofs.YtaljbebkooppiaaGreat.Sh
open Go Go.RowKit
def RuleOk (g : Gm) (r : List Ce) : Prop := r.length = prodK g.agents ∧ ∀ c ∈ r, FitsOk g c
structure Seen (g : Gm) (r : List Ce) : Prop where
  ok : g.ok
  bey : beyond g = false
  len : r.length ≤ 100
  ce : ∀ c ∈ r, CeFine c
def Good (g : Gm) (r : List Ce) : Prop := sizeOk g = true ∧ RightOk g ∧ RuleOk g r
def isGood (g : Gm) (r : List Ce) (e : Int) : Prop := (¬ (sizeOk g = true ∧ RightOk g) ∧ e = 2) ∨ ((sizeOk g = true ∧ RightOk g) ∧ ¬ RuleOk g r ∧ e = 3) ∨ (Good g r ∧ e = 0)
theorem isRight_of (g : Gm) : ∃ e, isRight g e ∧ (e = 0 ↔ sizeOk g = true ∧ RightOk g) := by
  by_cases h1 : sizeOk g = true
  · by_cases h2 : RightOk g
    · exact ⟨0, .inr (.inr ⟨h1, h2, rfl⟩), by simp [h1, h2]⟩
    · exact ⟨2, .inr (.inl ⟨h1, h2, rfl⟩), by simp [h2]⟩
  · exact ⟨1, .inl ⟨by simpa using h1, rfl⟩, by simp [h1]⟩
theorem Seen.fine {g : Gm} {r : List Ce} (h : Seen g r) (h1 : sizeOk g = true ∧ RightOk g) : Fine g := ⟨h.ok, h.bey, h1.1, h1.2⟩
def PlainOk (g : Gm) (r : List Ce) : Prop := Good g r ∧ ∀ c ∈ r, OneIn c.lot
end Go.Proofs.YtaljbebkooppiaaGreat.Sh

namespace Go.Proofs.YtaljbebkooppiaaGreat.Sh
open Go Go.RowKit
theorem whrTo_ok {g : Gm} (h : Fine g) {p : List Int} {i : Nat} (hi : i ≤ g.agents.length) (hp : profTo g p i) : 0 ≤ whrTo g p i ∧ whrTo g p i < 256 := by
  have h1 := whrTo_le i hi hp
  have h2 := h.prod_le i hi
  omega
def isIdx (g : Gm) (p : List Int) (e : Int) : Prop := (isProf g p ∧ e = whr g p) ∨ (¬ isProf g p ∧ e = -1)
set_option maxRecDepth 20000 in
theorem index_s (g : Gm) (h : Fine g) (p : List Int) (hl : p.length ≤ 140737488355328) : ∀ e, isIdx g p e → CallsS Tryz.prog 80 [gmS g, .one (intsS p)] (I .i64 e) := by
  intro e he
  obtain ⟨h1, -, -, h4, -⟩ := sizeOk_all h.sz
  have hsl : (sizesL g).length = g.agents.length := by simp [sizesL]
  have bad : ¬ isProf g p → e = -1 := fun hn => by
    rcases he with he | he
    · exact absurd he.1 hn
    · exact he.2
  refine calls Tryz.func80 rfl (by rfl) (by rfl) (by kernel_rfl) ?_
  simp -dsimp -implicitDefEqProofs [Tryz.f80]
  refine eCall.of (sright_s g h.ok h.bey 0 h.isRight) (by simp) ?_
  by_cases pl : p.length = g.agents.length
  · simp -dsimp -implicitDefEqProofs [pl]
    refine eCall.of (sizes_s g (by omega)) (by simp) ?_
    simp -dsimp -implicitDefEqProofs [hsl]
    refine sw_loop_e (fun q : {q : Nat // q ≤ g.agents.length ∧ profTo g p q} => SS.of [(1, .v (.one (intsS p))), (5, I .i64 (whrTo g p q.1)), (20, .v (.one (intsS (sizesL g)))), (21, I .i64 g.agents.length), (22, I .i64 q.1)] [] 1)
      (fun q => g.agents.length - q.1) ⟨0, Nat.zero_le _, fun j hj => absurd hj (by omega)⟩ (by kernel_rfl) (Le.to (by simp [whrTo]) (by simp) (by simp)) ?_
    rintro ⟨i, hi, hp⟩
    by_cases a1 : i < g.agents.length
    · have wi : IntKind.i64.wrap ((i : Int) + 1) = ((i + 1 : Nat) : Int) := by rw [wrap_i64 _ (by omega) (by omega)]; rfl
      have a2 : i < p.length := by omega
      have a3 : i < (sizesL g).length := by omega
      have hsi : (sizesL g)[i] = (g.agents[i].kinds.length : Int) := by simp [sizesL]
      have hw := whrTo_step (g := g) (p := p) (List.getElem?_eq_getElem a1) (List.getElem?_eq_getElem a2)
      obtain ⟨w1, w2⟩ := whrTo_ok h hi hp
      have hk := h4 _ (List.getElem_mem a1)
      by_cases c1 : p[i] < 0
      · have hb := bad (fun hh => by
          obtain ⟨A, x, e1, e2, e3, e4⟩ := hh.2 i a1
          rw [List.getElem?_eq_getElem a2] at e2
          obtain rfl := Option.some.inj e2
          omega)
        simp -dsimp -implicitDefEqProofs [a1, a2, a3, hsi, pl, wi, c1, hb]
      by_cases c2 : (g.agents[i].kinds.length : Int) ≤ p[i]
      · have hb := bad (fun hh => by
          obtain ⟨A, x, e1, e2, e3, e4⟩ := hh.2 i a1
          rw [List.getElem?_eq_getElem a2] at e2
          rw [List.getElem?_eq_getElem a1] at e1
          obtain rfl := Option.some.inj e2
          obtain rfl := Option.some.inj e1
          omega)
        simp -dsimp -implicitDefEqProofs [a1, a2, a3, hsi, pl, wi, c1, c2, hb]
      have hp2 : profTo g p (i + 1) := fun j hj => by
        by_cases e : j = i
        · subst e; exact ⟨_, _, List.getElem?_eq_getElem a1, List.getElem?_eq_getElem a2, by omega, by omega⟩
        · exact hp j (by omega)
      obtain ⟨w3, w4⟩ := whrTo_ok h a1 hp2
      have wm : IntKind.i64.wrap (whrTo g p i * (g.agents[i].kinds.length : Int)) = whrTo g p i * (g.agents[i].kinds.length : Int) := by
        rw [hw] at w4
        have := Int.mul_nonneg w1 (Int.natCast_nonneg g.agents[i].kinds.length)
        rw [wrap_i64 _ (by omega) (by omega)]
      have wa : IntKind.i64.wrap (whrTo g p i * (g.agents[i].kinds.length : Int) + p[i]) = whrTo g p (i + 1) := by
        rw [hw] at w3 w4 ⊢
        rw [wrap_i64 _ (by omega) (by omega)]
      simp -dsimp -implicitDefEqProofs [a1, a2, a3, hsi, pl, wi, c1, c2]
      exact Again.by ⟨i + 1, a1, hp2⟩ (Le.to (by simp [wi, wm, wa]) (by simp) (by simp)) (by simp; omega)
    have hi2 : i = g.agents.length := by omega
    subst hi2
    have hb : e = whr g p := by
      rcases he with he | he
      · exact he.2
      · exact absurd ⟨pl, hp⟩ he.1
    simp -dsimp -implicitDefEqProofs [pl, hb, whr]
  · have hb := bad (fun hh => pl hh.1)
    simp -dsimp -implicitDefEqProofs [pl, show ¬ (p.length : Int) = g.agents.length by omega, hb]
set_option maxRecDepth 20000 in
theorem at_s (g : Gm) (h : Fine g) (n : Nat) (hn : n < 256) : CallsS Tryz.prog 69 [gmS g, .one (.int .i64 (n : Int))] (.v (.one (intsS (atG g n)))) := by
  obtain ⟨h1, -, -, h4, -⟩ := sizeOk_all h.sz
  refine calls Tryz.func69 rfl (by rfl) (by rfl) (by kernel_rfl) ?_
  simp -dsimp -implicitDefEqProofs [Tryz.f69]
  refine ⟨by omega, ?_⟩
  refine sw_loop_e (fun q : {q : Nat × Nat × List Int // q.1 ≤ g.agents.length ∧ q.2.1 < 256 ∧ q.1 + q.2.2.length = g.agents.length ∧ atR ((szs g).take q.1).reverse q.2.1 ++ q.2.2 = atG g n} => SS.of [(1, I .i64 q.1.2.1), (2, .v (.one (.mp 0 0))), (5, .v (.one (.ms 1 0 g.agents.length 1 true))), (6, I .i64 ((q.1.1 : Int) - 1))] [(0, ⟨31, rowGm g⟩), (1, ⟨3, flat rowInt (List.replicate q.1.1 0 ++ q.1.2.2)⟩)] 2)
    (fun q => q.1.1) ⟨(g.agents.length, n, []), Nat.le_refl _, hn, by simp, by rw [List.take_of_length_le (by simp [szs]), List.append_nil]; rfl⟩ (by kernel_rfl) (Le.to (by simp; rw [wrap_i64 _ (by omega) (by omega)]) (by simp [flat_int]) (by simp)) ?_
  rintro ⟨⟨j, P, tl⟩, hj, hP, hlen, hinv⟩
  simp only at hj hP hlen hinv
  by_cases a1 : 0 < j
  · obtain ⟨i, rfl⟩ : ∃ i, j = i + 1 := ⟨j - 1, by omega⟩
    have e1 : (((i + 1 : Nat) : Int) - 1) = (i : Int) := by omega
    have a2 : i < g.agents.length := by omega
    have hk := h4 _ (List.getElem_mem a2)
    have hk0 := h.kinds_pos _ (List.getElem_mem a2)
    have hrev : ((szs g).take (i + 1)).reverse = g.agents[i].kinds.length :: ((szs g).take i).reverse := by
      rw [takeSnoc (szs g) i (by simp [szs]; omega), List.reverse_append]; simp [szs]
    rw [hrev, atR, List.append_assoc] at hinv
    have hll : (List.replicate (i + 1) (0 : Int) ++ tl).length = g.agents.length := by simp; omega
    have hst : (List.replicate (i + 1) (0 : Int) ++ tl).set i ((P % g.agents[i].kinds.length : Nat) : Int) = List.replicate i 0 ++ (((P % g.agents[i].kinds.length : Nat) : Int) :: tl) := by
      rw [List.replicate_succ', List.append_assoc, List.set_append_right _ _ (by simp), List.length_replicate, Nat.sub_self]; rfl
    have hwr : IntKind.i64.wrap ((i : Int) - 1) = (i : Int) - 1 := wrap_i64 _ (by omega) (by omega)
    have hrm : ((P : Int)).tmod (g.agents[i].kinds.length : Int) = ((P % g.agents[i].kinds.length : Nat) : Int) := rfl
    have hwq : IntKind.i64.wrap ((P : Int) / (g.agents[i].kinds.length : Int)) = (P : Int) / (g.agents[i].kinds.length : Int) := by
      rw [← Int.natCast_ediv]
      have := Nat.div_le_self P g.agents[i].kinds.length
      generalize P / g.agents[i].kinds.length = D at *
      exact wrap_i64 _ (by omega) (by omega)
    generalize ((P % g.agents[i].kinds.length : Nat) : Int) = x at hrm hst hinv
    have hst2 : (List.replicate (i + 1) (0 : Int)).set i x ++ tl = List.replicate i 0 ++ x :: tl := by
      rw [← hst, List.set_append_left _ _ (by simp)]
    rw [e1]
    have hk' : ¬ g.agents[i].kinds = [] := fun e => by rw [e] at hk0; exact absurd hk0 (by decide)
    simp -dsimp -implicitDefEqProofs [a2, hll]
    refine ⟨hk', by omega, hk', ?_⟩
    refine Again.by ⟨(i, P / g.agents[i].kinds.length, x :: tl), by omega, by simp only; have := Nat.div_le_self P g.agents[i].kinds.length; omega, by simp at hlen ⊢; omega, hinv⟩ (Le.to (by simp [hwr, hwq]) (by simp [hrm, set_int, hst2]) (by simp)) (by simp)
  have hj2 : j = 0 := by omega
  subst hj2
  have ht : tl = atG g n := by rw [← hinv]; rfl
  have hl2 : tl.length = g.agents.length := by omega
  simp -dsimp -implicitDefEqProofs [← hl2, ht]
  try rfl
end Go.Proofs.YtaljbebkooppiaaGreat.Sh

namespace Go.Proofs.YtaljbebkooppiaaGreat.Sh
open Go Go.RowKit
set_option maxRecDepth 20000 in
theorem fsub_s (f g : FR) (hf : f.ok) (hg : g.ok) : CallsS Tryz.prog 154 [frS f, frS g] (.v (fS (cap (f.fix - g.fix)))) := by
  have h1 := sz_fix hf
  have h2 := sz_fix hg
  have h3 := sz_neg g.fix
  have h4 := sz_add f.fix (-g.fix)
  have hp := rplus_s f.fix (-g.fix) (by omega)
  rw [← Rat.sub_eq_add_neg] at hp h4
  refine calls Tryz.func154 rfl (by rfl) (by rfl) (by kernel_rfl) ?_
  simp -dsimp -implicitDefEqProofs [Tryz.f154]
  refine eCall.of (taken_s f hf) (by simp) ?_
  simp -dsimp -implicitDefEqProofs
  refine eCall.of (taken_s g hg) (by simp) ?_
  simp -dsimp -implicitDefEqProofs
  refine eCall.of (rminus_s g.fix) (by simp) ?_
  simp -dsimp -implicitDefEqProofs
  refine eCall.of hp (by simp) ?_
  simp -dsimp -implicitDefEqProofs
  refine eCall.of (told_s (f.fix - g.fix) (by omega)) (by simp) ?_
  simp -dsimp -implicitDefEqProofs
end Go.Proofs.YtaljbebkooppiaaGreat.Sh

namespace Go.Proofs.YtaljbebkooppiaaGreat.Sh
open Go Go.RowKit
@[simp] def rowTb (g : Gm) (r : List Ce) : List S1 := rowGm g ++ [cesS r, profsS (profs g)]
@[simp] def tbS (g : Gm) (r : List Ce) : SV := .agg (rowTb g r)
def payQ (c : Ce) (a : Nat) : Rat := ((c.pay[a]?).map FR.fix).getD 0
def hasQ (c : Ce) (K : Kd) (a : Nat) : Rat := sumQ (dotL c.lot K.worth) - payQ c a
structure KdFine (K : Kd) : Prop where
  ok : K.ok
  w : mz K.weight.fix ≤ 3
  al : mz K.alone.fix ≤ 3
  wo : ∀ f ∈ K.worth, mz f.fix ≤ 3
theorem farK_fine {K : Kd} (h : K.ok) (hf : farK K = false) : KdFine K := by
  obtain ⟨k1, k2, k3, k4, k5⟩ := id h
  unfold farK at hf
  simp only [Bool.or_eq_false_iff, decide_eq_false_iff_not] at hf
  obtain ⟨⟨h1, h2⟩, h3⟩ := hf
  exact ⟨h, fixBig k2 (by omega) (by omega), fixBig k3 (by omega) (by omega), fun f hm => fixBig (k5 f hm) (by omega) (by have := wideF_no h3 f hm; omega)⟩
structure Play (g : Gm) (r : List Ce) : Prop where
  seen : Seen g r
  far : far g = false
  good : Good g r
theorem Play.fine {g : Gm} {r : List Ce} (h : Play g r) : Fine g := h.seen.fine ⟨h.good.1, h.good.2.1⟩
theorem Play.kd {g : Gm} {r : List Ce} (h : Play g r) {a : Ag} (ha : a ∈ g.agents) {K : Kd} (hK : K ∈ a.kinds) : KdFine K ∧ K.worth.length = g.outs.length := by
  have hf := h.far
  unfold Sh.far at hf
  simp only [Bool.or_eq_false_iff] at hf
  have h1 := List.any_eq_false.1 hf.1.2 a ha
  unfold farA at h1
  have h2 := List.any_eq_false.1 (by simpa using h1) K hK
  refine ⟨farK_fine ((h.seen.ok.a a ha).2.2 K hK) (by simpa using h2), (h.good.2.1.all a ha).2.2 K hK |>.2⟩
theorem Play.ce {g : Gm} {r : List Ce} (h : Play g r) {c : Ce} (hc : c ∈ r) : CeFine c ∧ c.lot.length = g.outs.length ∧ c.pay.length = g.agents.length :=
  ⟨h.seen.ce c hc, (h.good.2.2.2 c hc).1, (h.good.2.2.2 c hc).2.1⟩
structure Pair (c : Ce) (K : Kd) (a : Nat) : Prop where
  cf : CeFine c
  kf : KdFine K
  len : c.lot.length = K.worth.length
  six : c.lot.length ≤ 6
  pay : a < c.pay.length
theorem Pair.dot {c : Ce} {K : Kd} {a : Nat} (h : Pair c K a) : (∀ q ∈ dotL c.lot K.worth, mz q ≤ 31) ∧ (dotL c.lot K.worth).length ≤ 6 ∧ mz (sumQ (dotL c.lot K.worth)) ≤ 193 := by
  have h1 : ∀ q ∈ dotL c.lot K.worth, mz q ≤ 31 := by
    intro q hq
    unfold dotL at hq
    obtain ⟨i, hi, rfl⟩ := List.getElem_of_mem hq
    rw [List.getElem_zipWith]
    have i1 : i < c.lot.length := by simp at hi; omega
    have i2 : i < K.worth.length := by simp at hi; omega
    have e1 := h.cf.lot _ (List.getElem_mem i1)
    have e2 := h.kf.wo _ (List.getElem_mem i2)
    have := mz_mul c.lot[i].fix K.worth[i].fix
    omega
  have h2 : (dotL c.lot K.worth).length ≤ 6 := by have := h.len; have := h.six; simp [dotL]; omega
  have h3 := mz_sum (dotL c.lot K.worth) 31 h1
  exact ⟨h1, h2, by omega⟩
theorem mz_sub (p q : Rat) : mz (p - q) ≤ mz p + mz q + 1 := by
  have := mz_add p (-q)
  have e : mz (-q) = mz q := by unfold mz; rw [Rat.neg_num, Rat.neg_den, Int.natAbs_neg]
  rw [← Rat.sub_eq_add_neg] at this
  omega
theorem Pair.payQ {c : Ce} {K : Kd} {a : Nat} (h : Pair c K a) : payQ c a = (c.pay[a]'h.pay).fix ∧ mz (Sh.payQ c a) ≤ 28 := by
  have e : Sh.payQ c a = (c.pay[a]'h.pay).fix := by unfold Sh.payQ; rw [List.getElem?_eq_getElem h.pay]; rfl
  exact ⟨e, by rw [e]; exact h.cf.pay _ (List.getElem_mem h.pay)⟩
theorem Pair.has {c : Ce} {K : Kd} {a : Nat} (h : Pair c K a) : mz (hasQ c K a) ≤ 222 := by
  have h1 := h.dot.2.2
  have h2 := h.payQ.2
  have := mz_sub (sumQ (dotL c.lot K.worth)) (Sh.payQ c a)
  unfold hasQ
  omega
theorem cap_mz {q : Rat} (h : mz q ≤ 2048) : cap q = q ∧ sz q ≤ 4096 := by
  have := sz_mz q
  exact ⟨cap_of (by omega), by omega⟩
end Go.Proofs.YtaljbebkooppiaaGreat.Sh

namespace Go.Proofs.YtaljbebkooppiaaGreat.Sh
open Go Go.RowKit
def fr0 : FR := ⟨false, [], []⟩
instance : Inhabited Kd := ⟨⟨ByteArray.empty, fr0, fr0, []⟩⟩
instance : Inhabited Ce := ⟨⟨[], []⟩⟩
def kdAt (g : Gm) (a k : Nat) : Kd := ((g.agents[a]?).bind fun A => A.kinds[k]?).getD default
def ceAt (r : List Ce) (i : Nat) : Ce := (r[i]?).getD default
def kOf (g : Gm) (n a : Nat) : Nat := (((atG g n)[a]?).getD 0).toNat
def toAt (g : Gm) (n a told : Nat) : Nat := (whr g (putP (atG g n) a told)).toNat
def gainQ (g : Gm) (r : List Ce) (a n told : Nat) : Rat := hasQ (ceAt r (toAt g n a told)) (kdAt g a (kOf g n a)) a - hasQ (ceAt r n) (kdAt g a (kOf g n a)) a
theorem kdAt_eq {g : Gm} {a k : Nat} (ha : a < g.agents.length) (hk : k < g.agents[a].kinds.length) : kdAt g a k = g.agents[a].kinds[k] := by
  unfold kdAt; rw [List.getElem?_eq_getElem ha]; simp [List.getElem?_eq_getElem hk]
structure Spot (g : Gm) (r : List Ce) (a n : Nat) : Prop where
  play : Play g r
  ha : a < g.agents.length
  hn : n < r.length
theorem Spot.prof {g : Gm} {r : List Ce} {a n : Nat} (h : Spot g r a n) : isProf g (atG g n) := at_isProf (by have := h.hn; have := h.play.good.2.2.1; omega)
theorem Spot.put {g : Gm} {r : List Ce} {a n : Nat} (h : Spot g r a n) {told : Nat} (ht : told < (g.agents[a]'h.ha).kinds.length) : isProf g (putP (atG g n) a told) :=
  put_isProf h.prof (List.getElem?_eq_getElem h.ha) (by omega) (by omega)
theorem Spot.toAt {g : Gm} {r : List Ce} {a n : Nat} (h : Spot g r a n) {told : Nat} (ht : told < (g.agents[a]'h.ha).kinds.length) : whr g (putP (atG g n) a told) = (Sh.toAt g n a told : Int) ∧ Sh.toAt g n a told < r.length := by
  obtain ⟨h1, h2⟩ := whrTo_le (g := g) (p := putP (atG g n) a told) g.agents.length (Nat.le_refl _) (h.put ht).2
  rw [List.take_length, ← h.play.good.2.2.1] at h2
  have h1 : 0 ≤ whr g (putP (atG g n) a told) := h1
  have h2 : whr g (putP (atG g n) a told) < (r.length : Int) := h2
  unfold Sh.toAt
  omega
end Go.Proofs.YtaljbebkooppiaaGreat.Sh

namespace Go.Proofs.YtaljbebkooppiaaGreat.Sh
open Go Go.RowKit
def loS (b x : Rat) : Rat := if x < b then x else b
def hiS (b x : Rat) : Rat := if b < x then x else b
def loQ (u : Nat → Rat) : List Nat → Rat
  | [] => 0
  | x :: l => (l.map u).foldl loS (u x)
def hiQ (u : Nat → Rat) : List Nat → Rat
  | [] => 0
  | x :: l => (l.map u).foldl hiS (u x)
theorem lo_foldl : ∀ (l : List Rat) (a b : Rat), l.foldl loS (loS a b) = loS a (l.foldl loS b)
  | [], a, b => rfl
  | x :: l, a, b => by
    rw [List.foldl_cons, List.foldl_cons, ← lo_foldl l a (loS b x)]
    congr 1
    unfold loS
    grind
theorem hi_foldl : ∀ (l : List Rat) (a b : Rat), l.foldl hiS (hiS a b) = hiS a (l.foldl hiS b)
  | [], a, b => rfl
  | x :: l, a, b => by
    rw [List.foldl_cons, List.foldl_cons, ← hi_foldl l a (hiS b x)]
    congr 1
    unfold hiS
    grind
theorem loQ_append (u : Nat → Rat) {l m : List Nat} (hl : l ≠ []) (hm : m ≠ []) : loQ u (l ++ m) = loS (loQ u l) (loQ u m) := by
  cases l with
  | nil => exact absurd rfl hl
  | cons x l =>
    cases m with
    | nil => exact absurd rfl hm
    | cons y m =>
      show ((l ++ y :: m).map u).foldl loS (u x) = loS ((l.map u).foldl loS (u x)) ((m.map u).foldl loS (u y))
      rw [List.map_append, List.foldl_append, List.map_cons, List.foldl_cons, lo_foldl]
theorem hiQ_append (u : Nat → Rat) {l m : List Nat} (hl : l ≠ []) (hm : m ≠ []) : hiQ u (l ++ m) = hiS (hiQ u l) (hiQ u m) := by
  cases l with
  | nil => exact absurd rfl hl
  | cons x l =>
    cases m with
    | nil => exact absurd rfl hm
    | cons y m =>
      show ((l ++ y :: m).map u).foldl hiS (u x) = hiS ((l.map u).foldl hiS (u x)) ((m.map u).foldl hiS (u y))
      rw [List.map_append, List.foldl_append, List.map_cons, List.foldl_cons, hi_foldl]
theorem lo_mem (u : Nat → Rat) : ∀ {l : List Nat}, l ≠ [] → (∃ x ∈ l, loQ u l = u x) ∧ ∀ x ∈ l, loQ u l ≤ u x
  | [x], _ => ⟨⟨x, by simp, rfl⟩, fun y hy => by simp at hy; subst hy; exact Rat.le_refl⟩
  | x :: y :: l, _ => by
    obtain ⟨⟨z, h1, h2⟩, h3⟩ := lo_mem u (l := y :: l) (by simp)
    have e : loQ u (x :: y :: l) = loS (loQ u [x]) (loQ u (y :: l)) := loQ_append u (l := [x]) (m := y :: l) (by simp) (by simp)
    rw [e]
    show (∃ w ∈ x :: y :: l, loS (u x) (loQ u (y :: l)) = u w) ∧ _
    unfold loS
    by_cases c : loQ u (y :: l) < u x
    · refine ⟨⟨z, List.mem_cons_of_mem _ h1, by rw [if_pos c, h2]⟩, fun w hw => ?_⟩
      show (if loQ u (y :: l) < u x then loQ u (y :: l) else u x) ≤ u w
      rw [if_pos c]
      rcases List.mem_cons.1 hw with rfl | hw
      · grind
      · exact h3 w hw
    · refine ⟨⟨x, by simp, by rw [if_neg c]⟩, fun w hw => ?_⟩
      show (if loQ u (y :: l) < u x then loQ u (y :: l) else u x) ≤ u w
      rw [if_neg c]
      rcases List.mem_cons.1 hw with rfl | hw
      · exact Rat.le_refl
      · have := h3 w hw; grind
theorem hi_mem (u : Nat → Rat) : ∀ {l : List Nat}, l ≠ [] → (∃ x ∈ l, hiQ u l = u x) ∧ ∀ x ∈ l, u x ≤ hiQ u l
  | [x], _ => ⟨⟨x, by simp, rfl⟩, fun y hy => by simp at hy; subst hy; exact Rat.le_refl⟩
  | x :: y :: l, _ => by
    obtain ⟨⟨z, h1, h2⟩, h3⟩ := hi_mem u (l := y :: l) (by simp)
    have e : hiQ u (x :: y :: l) = hiS (hiQ u [x]) (hiQ u (y :: l)) := hiQ_append u (l := [x]) (m := y :: l) (by simp) (by simp)
    rw [e]
    show (∃ w ∈ x :: y :: l, hiS (u x) (hiQ u (y :: l)) = u w) ∧ _
    unfold hiS
    by_cases c : u x < hiQ u (y :: l)
    · refine ⟨⟨z, List.mem_cons_of_mem _ h1, by rw [if_pos c, h2]⟩, fun w hw => ?_⟩
      show u w ≤ (if u x < hiQ u (y :: l) then hiQ u (y :: l) else u x)
      rw [if_pos c]
      rcases List.mem_cons.1 hw with rfl | hw
      · grind
      · exact h3 w hw
    · refine ⟨⟨x, by simp, by rw [if_neg c]⟩, fun w hw => ?_⟩
      show u w ≤ (if u x < hiQ u (y :: l) then hiQ u (y :: l) else u x)
      rw [if_neg c]
      rcases List.mem_cons.1 hw with rfl | hw
      · exact Rat.le_refl
      · have := h3 w hw; grind
def useV (g : Gm) (l : List Vn) (a k j : Nat) : Rat := ((((kdAt g a k).worth[(vnAt l j).out.toNat]?).map FR.fix).getD 0) - ((((vnAt l j).pay[a]?).map FR.fix).getD 0)
def worstV (g : Gm) (l : List Vn) (a k i : Nat) : Rat := loQ (useV g l a k) (belowV l a (some k) i)
def mostV (g : Gm) (l : List Vn) (a k i : Nat) : Rat := hiQ (useV g l a k) (belowV l a none i)
def otherV (l : List Vn) (i k : Nat) : Nat := if hasK (vnAt l i).part k then (vnAt l i).no.toNat else (vnAt l i).yes.toNat
def DoubtAt (g : Gm) (l : List Vn) (i k : Nat) : Prop := isEndV l i = false ∧ k < klA g (agV l i) ∧ mayB l (agV l i) k i = true ∧ worstV g l (agV l i) k (nextV l i k) < mostV g l (agV l i) k (otherV l i k)
def isDoubt (g : Gm) (l : List Vn) (i k : Nat) (ok : Bool) : Prop :=
  (i < l.length ∧ DoubtAt g l i k ∧ (∀ k', k' < k → ¬ DoubtAt g l i k') ∧ (∀ i' k', i' < i → ¬ DoubtAt g l i' k') ∧ ok = false) ∨ ((∀ i', i' < l.length → ∀ k', ¬ DoubtAt g l i' k') ∧ ok = true)
theorem isDoubt_of (g : Gm) (l : List Vn) : ∃ i k ok, isDoubt g l i k ok := by
  have least : ∀ (p : Nat → Prop), (∃ n, p n) → ∃ n, p n ∧ ∀ m, m < n → ¬ p m := by
    intro p ⟨n, hn⟩
    induction n using Nat.strongRecOn with
    | _ n ih =>
      by_cases hm : ∃ m, m < n ∧ p m
      · obtain ⟨m, h1, h2⟩ := hm; exact ih m h1 h2
      · exact ⟨n, hn, fun m h1 h2 => hm ⟨m, h1, h2⟩⟩
  by_cases h : ∀ i', i' < l.length → ∀ k', ¬ DoubtAt g l i' k'
  · exact ⟨0, 0, true, .inr ⟨h, rfl⟩⟩
  · obtain ⟨i, ⟨h1, h2⟩, h3⟩ := least (fun i => i < l.length ∧ ∃ k, DoubtAt g l i k) (Classical.byContradiction fun hc => h fun i hi k hk => hc ⟨i, hi, k, hk⟩)
    obtain ⟨k, h4, h5⟩ := least _ h2
    exact ⟨i, k, false, .inl ⟨h1, h4, h5, fun i' k' hi' hd => h3 i' hi' ⟨by omega, k', hd⟩, rfl⟩⟩
section
variable {g : Gm} {l : List Vn} (h : TreeOk g l)
include h
theorem TreeOk.worst (a k : Nat) {i : Nat} (hi : i < l.length) : worstV g l a k i = if isEndV l i then useV g l a k i else if agV l i = a then worstV g l a k (nextV l i k) else loS (worstV g l a k (vnAt l i).yes.toNat) (worstV g l a k (vnAt l i).no.toNat) := by
  unfold worstV
  rw [h.below a (some k) hi]
  cases he : isEndV l i with
  | true => rfl
  | false =>
    obtain ⟨y, n, e1, e2, e3, e4, e5, e6, -⟩ := h.kids hi he
    rw [e1, e2, Int.toNat_natCast, Int.toNat_natCast]
    simp only [Bool.false_eq_true, if_false]
    split
    · rfl
    · exact loQ_append _ (h.belowNe a _ _ y e4 (Nat.le_refl _)).1 (h.belowNe a _ _ n e6 (Nat.le_refl _)).1
theorem TreeOk.most (a k : Nat) {i : Nat} (hi : i < l.length) : mostV g l a k i = if isEndV l i then useV g l a k i else hiS (mostV g l a k (vnAt l i).yes.toNat) (mostV g l a k (vnAt l i).no.toNat) := by
  unfold mostV
  rw [h.below a none hi]
  cases he : isEndV l i with
  | true => rfl
  | false =>
    obtain ⟨y, n, e1, e2, e3, e4, e5, e6, -⟩ := h.kids hi he
    rw [e1, e2, Int.toNat_natCast, Int.toNat_natCast]
    simp only [Bool.false_eq_true, if_false]
    exact hiQ_append _ (h.belowNe a _ _ y e4 (Nat.le_refl _)).1 (h.belowNe a _ _ n e6 (Nat.le_refl _)).1
end
end Go.Proofs.YtaljbebkooppiaaGreat.Sh

