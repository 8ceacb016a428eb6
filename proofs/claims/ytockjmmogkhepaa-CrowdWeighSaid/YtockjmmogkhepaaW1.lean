/- The statement CrowdWeigh holds: for every input the law returns true, and its argument reads as before. -/
import Derived.Test.YtockjmmogkhepaaL13
import Derived.Test.YtockjmmogkhepaaRows
set_option linter.unusedSimpArgs false
set_option linter.unusedVariables false
/- CrowdWeigh: what the walk needs to know. -/
namespace Go.Proofs.Ytockjmmogkhepaa.Sh
open Go Go.RowKit

theorem mz_inv {q : Rat} (h : 0 < q) : mz q⁻¹ ≤ mz q := by
  have hn : 0 < q.num := by
    have h1 : 0 ≤ q.num := Rat.num_nonneg.2 (Rat.le_of_lt h)
    have h2 : q.num ≠ 0 := fun e => by rw [Rat.num_eq_zero.1 e] at h; exact absurd h (by decide)
    omega
  rw [Rat.inv_def]
  have e : q.num = ((q.num.natAbs : Nat) : Int) := by omega
  have : Rat.divInt (q.den : Int) q.num = mkRat (q.den : Int) q.num.natAbs := by
    conv => lhs; rw [e]
    rw [Rat.divInt_ofNat]
  rw [this]
  have h2 := mz_mkRat (q.den : Int) q.num.natAbs (by omega)
  unfold mz at h2 ⊢
  simp only [Int.natAbs_natCast] at h2
  omega

theorem mz_div {p q : Rat} (h : 0 < q) : mz (p / q) ≤ mz p + mz q := by
  rw [Rat.div_def]
  have h1 := mz_mul p q⁻¹
  have h2 := mz_inv h
  omega

/-- Of at most two words: one above, one below. -/
theorem fix_two {f : FR} (h : f.ok) (h1 : f.big ≤ 2) : mz f.fix ≤ 1 := by
  by_cases hr : f.right = true
  · have h2 := (FR.right_fix h hr).1
    simp at h2
    obtain ⟨-, h3, h4⟩ := h2
    have l3 := congrArg List.length h3
    have l4 := congrArg List.length h4
    simp at l3 l4
    unfold FR.big at h1
    have e3 : wl f.fix.num.natAbs = f.num.length := l3.symm
    have e4 : wl f.fix.den = f.den.length := l4.symm
    by_cases hz : f.fix = 0
    · rw [hz, mzs.2.2.1]; omega
    · have hn : f.fix.num.natAbs ≠ 0 := fun e => hz (Rat.num_eq_zero.1 (by omega))
      have := wl_pos hn
      have := wl_pos f.fix.den_nz
      unfold mz
      omega
  · have : f.fix = 0 := by unfold FR.fix; rw [if_neg hr]
    rw [this, mzs.2.2.1]; omega

theorem sum_ones : ∀ n : Nat, sumQ (List.replicate n 1) = (((n : Nat) : Int) : Rat)
  | 0 => by rfl
  | n + 1 => by
    rw [List.replicate_succ, sumQ, sum_ones n]
    rw [Int.natCast_succ, Rat.intCast_add]
    grind

section
variable {g : List (List FR)} {n : Nat}

/-- What the chances of a round are, and that they are small. -/
theorem chance_ok (h : GW g n) (t : Nat) (ht : t ≤ g.length) (t6 : t ≤ 6) : (∀ q ∈ wAt n g t, mz (q / sumQ (wAt n g t)) ≤ 234) ∧ chanceW (wAt n g t) = (wAt n g t).map (fun q => q / sumQ (wAt n g t)) := by
  obtain ⟨hS1, hS2⟩ := wAt_sum h t ht
  have hm : ∀ q ∈ wAt n g t, mz (q / sumQ (wAt n g t)) ≤ 234 := fun q hq => by
    have h1 := (wAt_ok h t ht q hq).2
    have h2 := mz_div (p := q) hS1
    omega
  exact ⟨hm, List.map_congr_left (fun q hq => cap_mz (by have := hm q hq; omega))⟩

theorem div_nn {p q : Rat} (h : 0 < p) (h1 : 0 < q) : 0 ≤ p / q := by
  rw [Rat.div_def]
  exact Rat.le_of_lt (Rat.mul_pos h (Rat.inv_pos.2 h1))

/-- The facts of a round. -/
theorem round_facts (h : GW g n) (t : Nat) (b1 : t < g.length) (t6 : t < 6) :
    ∃ row : List FR, row = (chanceW (wAt n g t)).map frQ ∧ row.length = n ∧ (∀ f ∈ row, f.ok) ∧ Small row 234 ∧ (∀ f ∈ row, 0 ≤ f.fix) ∧ sumQ (row.map FR.fix) = 1 ∧
      (∀ q ∈ dotL row g[t], mz q ≤ 235) ∧ (dotL row g[t]).length = n ∧ grow (sumQ (wAt n g t)) (sumQ (dotL row g[t])) = sumQ (wAt n g (t + 1)) := by
  have ht : t ≤ g.length := by omega
  obtain ⟨hS1, hS2⟩ := wAt_sum h t ht
  obtain ⟨c1, c2⟩ := chance_ok h t ht (by omega)
  have hWl := wAt_len h t ht
  have hn8 := h.n8
  have hm : ∀ q ∈ chanceW (wAt n g t), mz q ≤ 234 := fun q hq => by
    rw [c2] at hq
    obtain ⟨p, hp, rfl⟩ := List.mem_map.1 hq
    exact c1 p hp
  have hfix : ((chanceW (wAt n g t)).map frQ).map FR.fix = chanceW (wAt n g t) := fix_map (fun q hq => by have := hm q hq; omega)
  have hok : ∀ f ∈ (chanceW (wAt n g t)).map frQ, f.ok := fun f hf => by
    obtain ⟨q, hq, rfl⟩ := List.mem_map.1 hf
    exact ok_mz (by have := hm q hq; omega)
  have hrl : ((chanceW (wAt n g t)).map frQ).length = n := by simp [chanceW_len, hWl]
  have hdl : dotL ((chanceW (wAt n g t)).map frQ) g[t] = List.zipWith (fun q x => q / sumQ (wAt n g t) * x.fix) (wAt n g t) g[t] := by
    unfold dotL
    have := List.zipWith_map_left (l₁ := (chanceW (wAt n g t)).map frQ) (l₂ := g[t]) (f := FR.fix) (g := fun q (x : FR) => q * x.fix)
    rw [← this, hfix, c2, List.zipWith_map_left]
  have hS0 : sumQ (wAt n g t) ≠ 0 := fun e => by rw [e] at hS1; exact absurd hS1 (by decide)
  have hgl := h.row _ (List.getElem_mem b1)
  refine ⟨_, rfl, hrl, hok, ⟨hok, fun q hq => hm q (by rwa [hfix] at hq), by rw [hrl]; have := Nat.mul_le_mul_right 235 hn8; omega⟩, fun f hf => ?_, ?_, fun q hq => ?_, ?_, ?_⟩
  · have : f.fix ∈ chanceW (wAt n g t) := by rw [← hfix]; exact List.mem_map_of_mem hf
    rw [c2] at this
    obtain ⟨p, hp, e⟩ := List.mem_map.1 this
    rw [← e]
    exact div_nn (wAt_ok h t ht p hp).1 hS1
  · rw [hfix, c2, chance_sum, Rat.div_def, Rat.mul_inv_cancel _ hS0]
  · rw [hdl] at hq
    obtain ⟨i, hi, rfl⟩ := List.getElem_of_mem hq
    rw [List.length_zipWith] at hi
    rw [List.getElem_zipWith]
    have m1 := c1 _ (List.getElem_mem (show i < (wAt n g t).length by omega))
    have m2 := h.mz _ (List.getElem_mem b1) _ (List.getElem_mem (show i < g[t].length by omega))
    have := mz_mul ((wAt n g t)[i] / sumQ (wAt n g t)) (g[t][i]).fix
    omega
  · rw [hdl, List.length_zipWith, hWl, hgl, Nat.min_self]
  · rw [hdl, dot_sum, ← all_step hS0]
    simp only [wAt]
    rw [getD_of [] b1, sum_step _ _ (by rw [hWl, hgl])]
end
end Go.Proofs.Ytockjmmogkhepaa.Sh

/- CrowdWeigh: the walk. -/
namespace Go.Proofs.Ytockjmmogkhepaa.Sh
open Go Go.RowKit

set_option maxRecDepth 20000 in
set_option maxHeartbeats 8000000 in
theorem weigh_law (g : List (List FR)) (hg : ∀ l ∈ g, ∀ f ∈ l, f.ok) : CallsS Try.prog 4 [.one (rowsS g)] (B true) := by
  have hfx := fixed_s
  refine calls Try.func4 rfl (by rfl) (by rfl) (by kernel_rfl) ?_
  by_cases c0 : (100 : Int) < g.length
  · simp -dsimp -implicitDefEqProofs [Try.f4, c0]
  simp -dsimp -implicitDefEqProofs [Try.f4, c0]
  refine sw_loop_e (fun p : {p : Nat // p ≤ g.length ∧ ∀ l ∈ g.take p, l.length ≤ 100 ∧ wideF 2 l = false} => SS.of [(0, .v (.one (rowsS g))), (3, I .i64 p.1)] [] 0)
    (fun p => g.length - p.1) ⟨0, Nat.zero_le _, by simp⟩ (by kernel_rfl) (Le.to (by simp) (by simp) (by simp)) ?_
  rintro ⟨i, hi, hq⟩
  by_cases a1 : i < g.length
  · have wi : IntKind.i64.wrap ((i : Int) + 1) = ((i + 1 : Nat) : Int) := by rw [wrap_i64 _ (by omega) (by omega)]; rfl
    by_cases c1 : (100 : Int) < g[i].length
    · simp -dsimp -implicitDefEqProofs [a1, wi, c1]
    · have hw := wideF_s g[i] 2 (hg _ (List.getElem_mem a1)) (by omega) _ rfl
      simp -dsimp -implicitDefEqProofs [a1, wi, c1]
      refine eCall.of hw (by simp) ?_
      cases hb : wideF 2 g[i]
      · simp -dsimp -implicitDefEqProofs [hb]
        exact Again.by ⟨i + 1, a1, forall_take a1 hq ⟨by omega, hb⟩⟩ (Le.to (by simp [wi]) (by simp) (by simp)) (by simp; omega)
      · simp -dsimp -implicitDefEqProofs [hb]
  have hi2 : i = g.length := by omega
  subst hi2
  rw [List.take_length] at hq
  have hmz : ∀ l ∈ g, ∀ f ∈ l, mz f.fix ≤ 1 := fun l hl f hf => fix_two (hg l hl f hf) (by have := wideF_not (hq l hl).2 f hf; omega)
  obtain ⟨r, hr⟩ := isGains_of g
  have hwc := weighC_s g hg (by omega) (fun l hl => by have := (hq l hl).1; omega) hmz r hr
  have hgs := gains_s g hg (by omega) (fun l hl => by have := (hq l hl).1; omega) r hr
  by_cases r0 : r = 0
  case neg =>
    rw [if_neg (fun h => r0 h.1)] at hwc
    simp -dsimp -implicitDefEqProofs
    refine eCall.of hwc (by simp) ?_
    simp -dsimp -implicitDefEqProofs
    refine eCall.of hgs (by simp) ?_
    simp -dsimp -implicitDefEqProofs [r0]
    refine eCall.of hgs (by simp) ?_
    simp -dsimp -implicitDefEqProofs [r0]
    refine eCall.of hfx (by simp) ?_
    simp -dsimp -implicitDefEqProofs
  subst r0
  by_cases hne : g = []
  · subst hne
    rw [if_neg (fun h => h.2 rfl)] at hwc
    simp -dsimp -implicitDefEqProofs
    refine eCall.of hwc (by simp) ?_
    simp -dsimp -implicitDefEqProofs
    refine eCall.of hgs (by simp) ?_
    simp -dsimp -implicitDefEqProofs
    refine eCall.of hfx (by simp) ?_
    simp -dsimp -implicitDefEqProofs
  rw [if_pos ⟨rfl, hne⟩] at hwc
  obtain ⟨n, hn⟩ : ∃ n, picks g = n := ⟨_, rfl⟩
  rw [hn] at hwc
  obtain ⟨O, hO⟩ : ∃ O, outF n g g.length = O := ⟨_, rfl⟩
  have hOl : O.length = g.length := by rw [← hO, outF_len]
  rw [hO] at hwc
  simp -dsimp -implicitDefEqProofs
  refine eCall.of hwc (by simp) ?_
  simp -dsimp -implicitDefEqProofs
  refine eCall.of hgs (by simp) ?_
  by_cases c6 : (6 : Int) < g.length
  · simp -dsimp -implicitDefEqProofs [hOl, c6]
    refine eCall.of hfx (by simp) ?_
    simp -dsimp -implicitDefEqProofs
  have h : GW g n := by
    rcases hr with ⟨h1, h2⟩ | ⟨h1, h2, h3⟩ | ⟨h1, h2, h3, h4⟩ | ⟨h1, h2, h3, _⟩
    · cases h2
    · cases h3
    · cases h4
    · have g0 : 0 < g.length := List.length_pos_iff.2 hne
      have hr0 := h3 _ (List.getElem_mem g0)
      rw [hn] at h3 hr0
      exact ⟨by have := hr0.1; have := hr0.2.1; omega, by have := h2 _ (List.getElem_mem g0); have := hr0.2.1; omega, h1, fun l hl => (h3 l hl).2.1, hg, fun l hl => (h3 l hl).2.2, hmz⟩
  have hwr := weighR_s g n h hne hn
  rw [hO] at hwr
  have hn8 := h.n8
  have hn0 := h.n0
  have g0 : 0 < g.length := List.length_pos_iff.2 hne
  have hp0 : g[0].length = n := (picks_zero g0).trans hn
  have hne0 : ¬ g.length = 0 := by omega
  have i1 := intR_s 1 (by decide) (by decide)
  rw [show (((1 : Int) : Rat)) = 1 from rfl, ← frS_frQ] at i1
  obtain ⟨F, hF⟩ : ∃ F, F = frQ 1 := ⟨_, rfl⟩
  rw [← hF] at i1
  have inn := intR_s (n : Int) (by omega) (by omega)
  rw [← sum_ones n, ← frS_frQ] at inn
  obtain ⟨A0, hA0⟩ : ∃ A0, A0 = frQ (sumQ (List.replicate n 1)) := ⟨_, rfl⟩
  rw [← hA0] at inn
  simp -dsimp -implicitDefEqProofs [hOl, c6, hne]
  refine eCall.of hwr (by simp) ?_
  simp -dsimp -implicitDefEqProofs
  refine sw_loop_e (fun p : {p : Nat × Nat × Nat // p.1 ≤ n ∧ (p.1 ≠ 0 → p.2.2 < p.2.1)} => SS.of [(0, .v (.one (rowsS g))), (4, .v (.one (rowsS O))), (6, .v (.one (rowsS O))), (8, if p.1.1 = 0 then .v (.one .nils) else .v (.one (.ms p.1.2.2 0 p.1.1 3 true))), (9, I .i64 p.1.1)] (if p.1.1 = 0 then [] else [(p.1.2.2, ⟨26, flat rowFr (List.replicate p.1.1 F)⟩)]) p.1.2.1)
    (fun p => n - p.1.1) ⟨(0, 0, 0), Nat.zero_le _, fun h => absurd rfl h⟩ (by kernel_rfl) (Le.to (by simp) (by simp) (by simp)) ?_
  rintro ⟨⟨i, c, o⟩, hi, hoc⟩
  simp only at hi hoc
  by_cases a1 : i < n
  · have wi : IntKind.i64.wrap ((i : Int) + 1) = ((i + 1 : Nat) : Int) := by rw [wrap_i64 _ (by omega) (by omega)]; rfl
    have hfl := flat_snoc (f := rowFr) F (List.replicate i F)
    rw [← rep_snoc] at hfl
    simp -dsimp -implicitDefEqProofs [g0, hp0, a1, wi]
    refine eCall.of i1 (by simp) ?_
    by_cases i0 : i = 0
    · subst i0
      simp -dsimp -implicitDefEqProofs [slots]
      have hfl : flat rowFr [F] = rowFr F := by simp [flat]
      exact Again.by ⟨(1, c + 2, c + 1), by omega, by simp only; omega⟩ (Le.to (by simp [i64_one']) (by simp [hfl]) (by simp)) (by simp; omega)
    · have oc1 : ¬ o = c := by have := hoc i0; omega
      simp -dsimp -implicitDefEqProofs [i0, slots, oc1]
      refine ⟨by omega, ?_⟩
      exact Again.by ⟨(i + 1, c + 2, c + 1), by omega, by simp only; omega⟩ (Le.to (by simp [wi]) (by simp [hfl]) (by simp)) (by simp; omega)
  have hi2 : i = n := by omega
  subst hi2
  have oc := hoc hn0
  have a01 : ¬ o = c ∧ ¬ c = o ∧ ¬ o = c + 1 ∧ ¬ c = c + 1 := by omega
  simp -dsimp -implicitDefEqProofs [g0, hp0, hn0]
  refine eCall.of inn (by simp) ?_
  simp -dsimp -implicitDefEqProofs [a01]
  refine sw_loop_e (fun p : {p : Nat // p ≤ g.length} => SS.of [(0, .v (.one (rowsS g))), (4, .v (.one (rowsS O))), (6, .v (.one (rowsS O))), (8, .v (.one (.ms o 0 i 3 true))), (10, .v (.one (.mp c 0))), (11, I .i64 p.1)] [(o, ⟨26, flat rowFr ((wAt i g p.1).map frQ)⟩), (c, ⟨26, rowFr (frQ (sumQ (wAt i g p.1)))⟩)] (c + 1))
    (fun p => g.length - p.1) ⟨0, Nat.zero_le _⟩ (by kernel_rfl) (Le.to (by simp) (by simp [a01, wAt, ← hF, ← hA0]) (by simp)) ?_
  rintro ⟨t, ht⟩
  have c6' : g.length ≤ 6 := by omega
  have hWl := wAt_len h t ht
  have hWm := fun q hq => (wAt_ok h t ht q hq).2
  obtain ⟨hS1, hS2⟩ := wAt_sum h t ht
  by_cases b1 : t < g.length
  · have wt : IntKind.i64.wrap ((t : Int) + 1) = ((t + 1 : Nat) : Int) := by rw [wrap_i64 _ (by omega) (by omega)]; rfl
    have b2 : t < O.length := by omega
    have hWl' := wAt_len h (t + 1) b1
    obtain ⟨hS3, hS4⟩ := wAt_sum h (t + 1) b1
    obtain ⟨row, hrow, rl, rok, rsm, rnn, rsum, rdot, rdl, rgrow⟩ := round_facts h t b1 (by omega)
    have hOt : O[t] = row := by
      have : (outF i g g.length)[t]'(by rw [outF_len]; exact b1) = (chanceW (wAt i g t)).map frQ := by simp [outF]
      rw [hrow, ← this]; simp only [hO]
    have hgt := h.row _ (List.getElem_mem b1)
    have hsn := sameNumbers_s row row rok rok (by omega) rfl
    have hch := chancesR_s row 234 rsm rnn rsum
    have hdt := dotF_s row g[t] 235 rok (h.ok _ (List.getElem_mem b1)) (by omega) rdot (by rw [rdl]; omega)
    have hdz := mz_sum _ _ rdot
    rw [rdl] at hdz
    obtain ⟨D, hD⟩ : ∃ D, D = frQ (sumQ (dotL row g[t])) := ⟨_, rfl⟩
    have hDok : D.ok ∧ D.fix = sumQ (dotL row g[t]) := by rw [hD]; exact ⟨ok_mz (by omega), fix_mz (by omega)⟩
    rw [← frS_frQ, ← hD] at hdt
    obtain ⟨A, hA⟩ : ∃ A, A = frQ (sumQ (wAt i g t)) := ⟨_, rfl⟩
    have hAok : A.ok ∧ A.fix = sumQ (wAt i g t) := by rw [hA]; exact ⟨ok_mz (by omega), fix_mz (by omega)⟩
    have hga := grows_s A D hAok.1 hDok.1 (by rw [hDok.2]; omega) (by rw [hAok.2, hDok.2, rgrow]; omega)
    rw [hAok.2, hDok.2, rgrow, ← frS_frQ] at hga
    obtain ⟨A', hA'⟩ : ∃ A, A = frQ (sumQ (wAt i g (t + 1))) := ⟨_, rfl⟩
    rw [← hA'] at hga
    obtain ⟨w, hw⟩ : ∃ w, w = (wAt i g t).map frQ := ⟨_, rfl⟩
    obtain ⟨nx, hnx⟩ : ∃ w, w = (wAt i g (t + 1)).map frQ := ⟨_, rfl⟩
    have wl : w.length = i := by rw [hw]; simp [hWl]
    have nl : nx.length = i := by rw [hnx]; simp [hWl']
    have hgrow : ∀ k (h1 : k < w.length) (h2 : k < nx.length) (h3 : k < g[t].length), CallsS Try.prog 17 [frS w[k], frS g[t][k]] (.v (frS nx[k])) := by
      intro k h1 h2 h3
      have hk : k < (wAt i g t).length := by omega
      have hk' : k < (wAt i g (t + 1)).length := by omega
      have m1 := hWm _ (List.getElem_mem hk)
      have m2 := h.mz _ (List.getElem_mem b1) _ (List.getElem_mem h3)
      have m3 := (wAt_ok h (t + 1) b1 _ (List.getElem_mem hk')).2
      have e1 : w[k] = frQ (wAt i g t)[k] := by simp [hw]
      have e2 : nx[k] = frQ (wAt i g (t + 1))[k] := by simp [hnx]
      have e3 := wAt_next h t b1 k hk h3 hk'
      rw [e3] at m3
      have := grows_s (frQ (wAt i g t)[k]) g[t][k] (ok_mz (by omega)) (h.ok _ (List.getElem_mem b1) _ (List.getElem_mem h3)) (by omega) (by rw [fix_mz (by omega)]; omega)
      rw [fix_mz (by omega), ← e3, ← frS_frQ, ← e1, ← e2] at this
      exact this
    rw [← hA, ← hw]
    simp -dsimp -implicitDefEqProofs [b1, b2, hOt]
    refine eCall.of hsn (by simp) ?_
    simp -dsimp -implicitDefEqProofs [b1, b2, hOt]
    refine eCall.of hch (by simp) ?_
    simp -dsimp -implicitDefEqProofs [b1, b2, hOt, a01]
    refine eCall.of hdt (by simp) ?_
    simp -dsimp -implicitDefEqProofs [b1, b2, hOt, a01]
    refine eCall.of hga (by simp) ?_
    simp -dsimp -implicitDefEqProofs [a01]
    refine sw_loop_e (fun p : {p : Nat // p ≤ i} => SS.of [(0, .v (.one (rowsS g))), (4, .v (.one (rowsS O))), (6, .v (.one (rowsS O))), (8, .v (.one (.ms o 0 i 3 true))), (10, .v (.one (.mp c 0))), (11, I .i64 t), (12, I .i64 p.1)] [(o, ⟨26, flat rowFr (mix nx w p.1)⟩), (c, ⟨26, rowFr A'⟩)] (c + 1))
      (fun p => i - p.1) ⟨0, Nat.zero_le _⟩ (by kernel_rfl) (Le.to (by simp) (by simp [a01, mix_zero]) (by simp)) ?_
    rintro ⟨k, hk⟩
    have hNW : nx.length = w.length := by omega
    by_cases d1 : k < i
    · have wk : IntKind.i64.wrap ((k : Int) + 1) = ((k + 1 : Nat) : Int) := by rw [wrap_i64 _ (by omega) (by omega)]; rfl
      have k1 : k < w.length := by omega
      have k2 : k < nx.length := by omega
      have k3 : k < g[t].length := by omega
      have hgk := hgrow k k1 k2 k3
      obtain ⟨M, hM, hMl, hMk, hMs⟩ : ∃ M, mix nx w k = M ∧ ∃ h8 : M.length = i, M[k]'(by omega) = w[k] ∧ M.set k nx[k] = mix nx w (k + 1) :=
        ⟨_, rfl, by rw [mix_len hNW]; exact wl, mix_get hNW (by omega) _, mix_set hNW k1 k2⟩
      have hset := set3_flat (f := rowFr) M k nx[k] rfl (by omega)
      rw [hMs] at hset
      have hrk := flat_row (e := 3) (f := rowFr) M k (by omega)
      rw [hMk] at hrk
      rw [hM]
      generalize nx[k] = NK at *
      generalize w[k] = WK at *
      have k5 : 3 ≤ i * 3 - k * 3 := by omega
      have k6 : k * 3 + 3 ≤ i * 3 := by omega
      simp -dsimp -implicitDefEqProofs [d1, b1, k3, hgt, hMl, hrk, a01, k5, k6]
      refine eCall.of hgk (by simp) ?_
      simp -dsimp -implicitDefEqProofs [d1, b1, k3, hgt, hMl, hrk, a01, k5, k6]
      exact Again.by ⟨k + 1, d1⟩ (Le.to (by simp [wk]) (by simp [a01, ← hset]) (by simp)) (by simp; omega)
    have hk2 : k = i := by omega
    subst hk2
    have T1 : mix nx w k = nx := by unfold mix; rw [List.take_of_length_le (by omega), List.drop_of_length_le (by omega), List.append_nil]
    rw [T1]
    simp -dsimp -implicitDefEqProofs [a01]
    exact Again.by ⟨t + 1, b1⟩ (Le.to (by simp [wt]) (by simp [a01, ← hnx, ← hA']) (by simp)) (by simp; omega)
  have ht2 : t = g.length := by omega
  have hwlen : (wAt i g t).length = i := hWl
  obtain ⟨w, hw⟩ : ∃ w, w = (wAt i g t).map frQ := ⟨_, rfl⟩
  obtain ⟨A, hA⟩ : ∃ A, A = frQ (sumQ (wAt i g t)) := ⟨_, rfl⟩
  have hAok : A.ok ∧ A.fix = sumQ (wAt i g t) := by rw [hA]; exact ⟨ok_mz (by omega), fix_mz (by omega)⟩
  have wl : w.length = i := by rw [hw]; simp [hWl]
  have hcmp : ∀ k (h1 : k < w.length), CallsS Try.prog 19 [frS w[k], frS A] (I .i64 (cmpQ (w[k]).fix A.fix)) ∧ ¬ 0 < cmpQ (w[k]).fix A.fix := by
    intro k h1
    have hk : k < (wAt i g t).length := by omega
    have m1 := hWm _ (List.getElem_mem hk)
    have e1 : w[k] = frQ (wAt i g t)[k] := by simp [hw]
    refine ⟨cmpR_s w[k] A (by rw [e1]; exact ok_mz (by omega)) hAok.1, fun hp => ?_⟩
    have h1 := cmpQ_pos.1 hp
    rw [hAok.2, e1, fix_mz (by omega)] at h1
    exact absurd (le_sum (fun x hx => (wAt_ok h t ht x hx).1) (List.getElem_mem hk)) (Rat.not_le.2 h1)
  rw [← hw, ← hA]
  simp -dsimp -implicitDefEqProofs [b1]
  refine sw_loop_e (fun p : {p : Nat // p ≤ i} => SS.of [(8, .v (.one (.ms o 0 i 3 true))), (10, .v (.one (.mp c 0))), (13, I .i64 p.1)] [(o, ⟨26, flat rowFr w⟩), (c, ⟨26, rowFr A⟩)] (c + 1))
    (fun p => i - p.1) ⟨0, Nat.zero_le _⟩ (by kernel_rfl) (Le.to (by simp) (by simp [a01]) (by simp)) ?_
  rintro ⟨k, hk⟩
  by_cases d1 : k < i
  · have wk : IntKind.i64.wrap ((k : Int) + 1) = ((k + 1 : Nat) : Int) := by rw [wrap_i64 _ (by omega) (by omega)]; rfl
    have k1 : k < w.length := by omega
    obtain ⟨hc1, hc2⟩ := hcmp k k1
    have hrk := flat_row (e := 3) (f := rowFr) w k k1
    have k5 : 3 ≤ i * 3 - k * 3 := by omega
    have k6 : k * 3 + 3 ≤ i * 3 := by omega
    generalize w[k] = WK at *
    simp -dsimp -implicitDefEqProofs [d1, wl, hrk, a01, k5, k6]
    refine eCall.of hc1 (by simp) ?_
    simp -dsimp -implicitDefEqProofs [hc2]
    exact Again.by ⟨k + 1, d1⟩ (Le.to (by simp [wk]) (by simp [a01]) (by simp)) (by simp; omega)
  have hk2 : k = i := by omega
  simp -dsimp -implicitDefEqProofs [hk2]
  refine eCall.of hfx (by simp) ?_
  simp -dsimp -implicitDefEqProofs
end Go.Proofs.Ytockjmmogkhepaa.Sh

namespace Go.Proofs.Ytockjmmogkhepaa.crowdWeigh
open Go.Proofs.Ytockjmmogkhepaa.Sh Go.RowKit

theorem own : ownKnob Try.prog.godebug = none := by kernel_rfl
theorem laidOut : laidOutB Try.prog = true := by kernel_rfl

theorem rows_of_ok {H : Type} {d : DataW H} (hd : (Shp.slice 1 (.slice 3 shpFr)).ok d) : ∃ g : List (List FR), (Shp.slice 1 (.slice 3 shpFr)).cells d = [rowsS g] ∧ g.length ≤ 140737488351232 ∧ ∀ l ∈ g, ∀ f ∈ l, f.ok :=
  slice_of_ok (f := fun l => [frsS l]) (fun _ h => by obtain ⟨l, h1, _, h2⟩ := frs_of_ok h; exact ⟨l, h1, h2⟩) hd

set_option maxRecDepth 100000 in
theorem call {H : Type} (ds : List (DataW H)) (h : Shp.okAll [.slice 1 (.slice 3 shpFr)] ds) : CallsS Try.prog 4 (Shp.svAll [.slice 1 (.slice 3 shpFr)] ds) (B true) := by
  obtain ⟨d1, ds, rfl, h1, h⟩ := okAll_cons h
  obtain rfl := okAll_nil h
  obtain ⟨g, e1, l1, w1⟩ := rows_of_ok h1
  rw [svAll_cons, svAll_nil, sv_slice, e1, List.headD_cons]
  exact weigh_law g w1

set_option maxRecDepth 100000 in
theorem lifted (os : Os) (started : os.Started) (H : Type) (enc : TypeId × Value → H) :
    ReturnsInHanded {} Try.checked os 4 .any (Rows.crowdWeighSpec.pre6 enc Try.prog Try.f4 Rows.crowdWeighRow.domain false) (Rows.crowdWeighSpec.post enc Try.prog Try.f4 false true false false) := by
  refine returnsInHanded_of_change_sized (C := Try.checked) own started (by kernel_rfl) Try.func4
    (ChangeSpec.witness6 (enc := enc) (C := Try.checked) false ⟨#[], #[.slice none 0 0], []⟩ 8 (by kernel_rfl) (by kernel_rfl) (by kernel_rfl) (by kernel_rfl)) ?_
  intro W base args ds gs before hval hW _ hsz _
  exact law_post (shs := [.slice 1 (.slice 3 shpFr)]) laidOut (by kernel_rfl) (by kernel_rfl) rfl (by kernel_rfl) rfl
    (fun ds h => by
      have h2 : ds.length = 1 := h
      match ds, h2 with
      | [d1], _ => rfl) (fun ds h => call ds h) hval hW hsz

theorem over : Rows.crowdWeighRow.holds Try.pinned (OpenSpec.ofChange Rows.crowdWeighSpec) :=
  OpenClaim.holds_of_wide 4 Try.f4 rfl rfl rfl rfl rfl rfl rfl ⟨rfl, rfl, rfl, rfl, rfl⟩ rfl rfl rfl rfl rfl (by kernel_rfl) Try.func4 (by kernel_rfl)
    (of_decide_eq_true (by kernel_rfl)) (by unfold Func.isWrapper; first | (rw [if_pos (by decide +kernel)]; kernel_rfl) | (rw [if_neg (by decide +kernel)]; exact ⟨rfl, rfl⟩))
    (fun os started H enc _ => lifted os started H enc)
theorem proved : Rows.CrowdWeighSaid := over
#print axioms proved
end Go.Proofs.Ytockjmmogkhepaa.crowdWeigh
