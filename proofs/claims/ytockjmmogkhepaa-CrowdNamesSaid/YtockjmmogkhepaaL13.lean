/- A part of the proof: R23, R24, R25, RowD, R27 -/
import Derived.Test.YtockjmmogkhepaaL12
set_option linter.unusedSimpArgs false
set_option linter.unusedVariables false
/- One who learns by weights: the walk of crowd.Weigh. -/
namespace Go.Proofs.Ytockjmmogkhepaa.Sh
open Go Go.RowKit

theorem neg_gt {x : Rat} : 1 < -x ↔ x < -1 := by constructor <;> intro h <;> grind

theorem arr0 (F : FR) : flat (optRow [.bool false, .nils, .nils] rowFr) (filled (fun _ : Nat => F) (List.replicate 8 0) 0) = [.bool false, .nils, .nils, .bool false, .nils, .nils, .bool false, .nils, .nils, .bool false, .nils, .nils, .bool false, .nils, .nils, .bool false, .nils, .nils, .bool false, .nils, .nils, .bool false, .nils, .nils] := rfl
theorem arr8 (F : FR) : flat (optRow [.bool false, .nils, .nils] rowFr) (filled (fun _ : Nat => F) (List.replicate 8 0) 8) = flat rowFr (List.replicate 8 F) := rfl

set_option maxRecDepth 20000 in
set_option maxHeartbeats 8000000 in
theorem weighC_s (g : List (List FR)) (hg : ∀ l ∈ g, ∀ f ∈ l, f.ok) (h0 : g.length ≤ 1048576) (h1 : ∀ l ∈ g, l.length ≤ 1048576) (hm : ∀ l ∈ g, ∀ f ∈ l, mz f.fix ≤ 1) (r : Int) (hr : isGains g r) :
    CallsS Try.prog 10 [.one (rowsS g)] (.tup [.one (if r = 0 ∧ g ≠ [] then rowsS (outF (picks g) g g.length) else .nils), .one (.int .i64 r)]) := by
  have mk1 := fmake_s 1 1 (by decide) (by decide) (by decide) (by decide) (by decide)
  rw [one_div_one] at mk1
  have mk2 := fmake_s 1 2 (by decide) (by decide) (by decide) (by decide) (by decide)
  rw [half_eq] at mk2
  obtain ⟨o1, o2, o3⟩ := fix_one
  obtain ⟨F, hF⟩ : ∃ F, F = frQ 1 := ⟨_, rfl⟩
  obtain ⟨H, hH⟩ : ∃ H, H = frQ (1 / 2) := ⟨_, rfl⟩
  have hh : mz (1 / 2) ≤ 2048 := by rw [mz_half]; omega
  have hHok : H.ok ∧ H.fix = 1 / 2 := by rw [hH]; exact ⟨ok_mz hh, fix_mz hh⟩
  rw [← frS_frQ, ← hF] at mk1
  rw [← frS_frQ, ← hH] at mk2
  rw [← hF] at o1 o2
  refine calls Try.func10 rfl (by rfl) (by rfl) (by kernel_rfl) ?_
  by_cases c0 : (60 : Int) < g.length
  · have : r = 1 := by
      rcases hr with ⟨_, h⟩ | ⟨h, _⟩ | ⟨h, _⟩ | ⟨h, _⟩
      · exact h
      all_goals omega
    simp -dsimp -implicitDefEqProofs [Try.f10, c0, this]
  simp -dsimp -implicitDefEqProofs [Try.f10, c0]
  refine sw_loop_e (fun p : {p : Nat // p ≤ g.length ∧ ∀ l ∈ g.take p, l.length ≤ 8} => SS.of [(0, .v (.one (rowsS g))), (29, .v (.one (rowsS g))), (30, I .i64 g.length), (31, I .i64 p.1)] [] 0)
    (fun p => g.length - p.1) ⟨0, Nat.zero_le _, by simp⟩ (by kernel_rfl) (Le.to (by simp) (by simp) (by simp)) ?_
  rintro ⟨i, hi, hq⟩
  by_cases a1 : i < g.length
  · have wi : IntKind.i64.wrap ((i : Int) + 1) = ((i + 1 : Nat) : Int) := by rw [wrap_i64 _ (by omega) (by omega)]; rfl
    by_cases c1 : (8 : Int) < g[i].length
    · have : r = 1 := by
        rcases hr with ⟨_, h⟩ | ⟨_, _, h⟩ | ⟨_, h, _⟩ | ⟨_, h, _⟩
        · exact h
        · exact h
        all_goals (have := h _ (List.getElem_mem a1); omega)
      simp -dsimp -implicitDefEqProofs [a1, wi, c1, this]
    · simp -dsimp -implicitDefEqProofs [a1, wi, c1]
      exact Again.by ⟨i + 1, a1, forall_take a1 hq (by omega)⟩ (Le.to (by simp [wi]) (by simp) (by simp)) (by simp; omega)
  have hi2 : i = g.length := by omega
  subst hi2
  rw [List.take_length] at hq
  by_cases hne : g = []
  · have : r = 0 := by
      subst hne
      rcases hr with ⟨h, _⟩ | ⟨_, ⟨l', h, h'⟩, _⟩ | ⟨_, _, ⟨l', h, h'⟩, _⟩ | ⟨_, _, _, h⟩
      · simp at h
      · cases h
      · cases h
      · exact h
    simp -dsimp -implicitDefEqProofs [hne, this]
  have g0 : 0 < g.length := List.length_pos_iff.2 hne
  have hp := picks_zero g0
  simp -dsimp -implicitDefEqProofs [hne]
  refine eCall.of mk1 (by simp) ?_
  simp -dsimp -implicitDefEqProofs
  refine eCall.of mk2 (by simp) ?_
  simp -dsimp -implicitDefEqProofs [g0, hp]
  have bad : ∀ l ∈ g, ¬ goodRow (picks g) l → r = 140 := fun l hl hb => by
    rcases hr with ⟨h, _⟩ | ⟨_, ⟨l', h, h'⟩, _⟩ | ⟨_, _, _, h⟩ | ⟨_, _, h, _⟩
    · omega
    · have := hq l' h; omega
    · exact h
    · exact absurd (h l hl) hb
  obtain ⟨n, hn⟩ : ∃ n, n = picks g := ⟨_, rfl⟩
  have hp0 : g[0].length = n := by rw [hn]; exact hp
  rw [← hn] at bad hp ⊢
  refine sw_loop_e (fun p : {p : Nat × Nat // p.1 ≤ g.length ∧ ∀ l ∈ g.take p.1, goodRow n l} => SS.of [(0, .v (.one (rowsS g))), (6, .v (.one (.mp 0 0))), (8, .v (.one (.mp 1 0))), (10, I .i64 n), (54, .v (.one (rowsS g))), (55, I .i64 g.length), (56, I .i64 p.1.1)] [(0, ⟨26, rowFr F⟩), (1, ⟨26, rowFr H⟩)] (p.1.2 + 2))
    (fun p => g.length - p.1.1) ⟨(0, 0), Nat.zero_le _, by simp⟩ (by kernel_rfl) (Le.to (by simp) (by simp) (by simp)) ?_
  rintro ⟨⟨t, c⟩, ht, hq2⟩
  simp only at ht hq2
  by_cases a1 : t < g.length
  · have wt : IntKind.i64.wrap ((t : Int) + 1) = ((t + 1 : Nat) : Int) := by rw [wrap_i64 _ (by omega) (by omega)]; rfl
    have hrow := hg _ (List.getElem_mem a1)
    have hrl := h1 _ (List.getElem_mem a1)
    have hmem := List.getElem_mem a1
    generalize hR : g[t] = R at *
    by_cases c2 : R.length = n
    case neg =>
      have := bad R hmem (fun h => c2 h.2.1)
      simp -dsimp -implicitDefEqProofs [a1, wt, hR, c2, this]
    by_cases c1 : n = 0
    · have := bad R hmem (fun h => h.1 (by omega))
      simp -dsimp -implicitDefEqProofs [a1, wt, hR, c2, c1, this]
    simp -dsimp -implicitDefEqProofs [a1, wt, hR, c2, c1]
    refine sw_loop_e (fun p : {p : Nat × Nat // p.1 ≤ n ∧ ∀ f ∈ R.take p.1, goodX f} => SS.of [(0, .v (.one (rowsS g))), (6, .v (.one (.mp 0 0))), (8, .v (.one (.mp 1 0))), (10, I .i64 n), (54, .v (.one (rowsS g))), (55, I .i64 g.length), (56, I .i64 t), (68, .v (.one (frsS R))), (69, I .i64 n), (70, I .i64 p.1.1)] [(0, ⟨26, rowFr F⟩), (1, ⟨26, rowFr H⟩)] (p.1.2 + 2))
      (fun p => n - p.1.1) ⟨(0, c), Nat.zero_le _, by simp⟩ (by kernel_rfl) (Le.to (by simp) (by simp) (by simp)) ?_
    rintro ⟨⟨k, d⟩, hk, hq3⟩
    simp only at hk hq3
    by_cases b1 : k < n
    · have wk : IntKind.i64.wrap ((k : Int) + 1) = ((k + 1 : Nat) : Int) := by rw [wrap_i64 _ (by omega) (by omega)]; rfl
      have b2 : k < R.length := by omega
      have hok : R[k].ok := hrow _ (List.getElem_mem b2)
      have hc1 := fcmp_s R[k] F hok o2
      have hsz := sz_fix hok
      have hsn : sz (-R[k].fix) ≤ 4096 := by rw [sz_neg]; exact hsz
      have hng := fneg_s R[k] hok
      have hc2 := fcmp_s (frQ (-R[k].fix)) F (frQ_ok (by omega)) o2
      rw [o1] at hc1
      rw [o1, fix_frQ hsn, frS_frQ] at hc2
      simp -dsimp -implicitDefEqProofs [b1, b2, wk]
      refine eCall.of hc1 (by simp) ?_
      by_cases d1 : 1 < R[k].fix
      · have d2 : 0 < cmpQ R[k].fix 1 := cmpQ_pos.2 d1
        have := bad R hmem (fun h => absurd (h.2.2 _ (List.getElem_mem b2)).1 (Rat.not_le.2 d1))
        simp -dsimp -implicitDefEqProofs [d2, this]
      have d2 : ¬ 0 < cmpQ R[k].fix 1 := mt cmpQ_pos.1 d1
      simp -dsimp -implicitDefEqProofs [d2]
      refine eCall.of hng (by simp) ?_
      simp -dsimp -implicitDefEqProofs [d2]
      refine eCall.of hc2 (by simp) ?_
      by_cases e1 : 1 < -R[k].fix
      · have e2 : 0 < cmpQ (-R[k].fix) 1 := cmpQ_pos.2 e1
        have := bad R hmem (fun h => absurd (h.2.2 _ (List.getElem_mem b2)).2 (Rat.not_le.2 (neg_gt.1 e1)))
        simp -dsimp -implicitDefEqProofs [d2, e2, this]
      have e2 : ¬ 0 < cmpQ (-R[k].fix) 1 := mt cmpQ_pos.1 e1
      simp -dsimp -implicitDefEqProofs [d2, e2]
      exact Again.by ⟨(k + 1, d + 1), b1, forall_take b2 hq3 ⟨Rat.not_lt.1 d1, Rat.not_lt.1 (mt neg_gt.2 e1)⟩⟩ (Le.to (by simp [wk]) (by simp) (by simp)) (by simp; omega)
    · have hk2 : k = n := by omega
      subst hk2
      rw [List.take_of_length_le (by omega)] at hq3
      simp -dsimp -implicitDefEqProofs [a1, hR]
      exact Again.by ⟨(t + 1, d), a1, forall_take a1 hq2 (by rw [hR]; exact ⟨by omega, c2, hq3⟩)⟩ (Le.to (by simp [wt]) (by simp) (by simp)) (by simp; omega)
  have ht2 : t = g.length := by omega
  subst ht2
  rw [List.take_length] at hq2
  have hr0 : r = 0 := by
    rcases hr with ⟨h, _⟩ | ⟨_, ⟨l', h, h'⟩, _⟩ | ⟨_, _, ⟨l', h, h'⟩, _⟩ | ⟨_, _, _, h⟩
    · omega
    · have := hq l' h; omega
    · exact absurd (hq2 l' h) (by rw [hn]; exact h')
    · exact h
  have hn0 : n ≠ 0 := by have := (hq2 _ (List.getElem_mem g0)).1; omega
  have hn8 : n ≤ 8 := by have := hq _ (List.getElem_mem g0); omega
  have h : GW g n := ⟨hn0, hn8, by omega, fun l hl => (hq2 l hl).2.1, hg, fun l hl => (hq2 l hl).2.2, hm⟩
  simp -dsimp -implicitDefEqProofs [hr0, hne]
  obtain ⟨Z, hZ0, hZ1, hZ2⟩ : ∃ Z : List Nat, Z.length = 8 ∧ flat (optRow [.bool false, .nils, .nils] rowFr) (filled (fun _ : Nat => F) Z 0) = [.bool false, .nils, .nils, .bool false, .nils, .nils, .bool false, .nils, .nils, .bool false, .nils, .nils, .bool false, .nils, .nils, .bool false, .nils, .nils, .bool false, .nils, .nils, .bool false, .nils, .nils] ∧ flat (optRow [.bool false, .nils, .nils] rowFr) (filled (fun _ : Nat => F) Z 8) = flat rowFr (List.replicate 8 F) := ⟨List.replicate 8 0, rfl, rfl, rfl⟩
  refine sw_loop_e (fun p : {p : Nat // p ≤ 8} => SS.of [(0, .v (.one (rowsS g))), (6, .v (.one (.mp 0 0))), (8, .v (.one (.mp 1 0))), (10, I .i64 n), (15, .v (.one (.mp (c + 2) 0))), (87, I .i64 p.1)] [(c + 2, ⟨58, flat (optRow [.bool false, .nils, .nils] rowFr) (filled (fun _ : Nat => F) Z p.1)⟩), (0, ⟨26, rowFr F⟩), (1, ⟨26, rowFr H⟩)] (c + 3))
    (fun p => 8 - p.1) ⟨0, Nat.zero_le _⟩ (by kernel_rfl) (Le.to (by simp) (by simp [hZ1]) (by simp)) ?_
  rintro ⟨i, hi⟩
  by_cases a2 : i < 8
  · have wi : IntKind.i64.wrap ((i : Int) + 1) = ((i + 1 : Nat) : Int) := by rw [wrap_i64 _ (by omega) (by omega)]; rfl
    have a2' : (i : Int) < 8 := by omega
    have ml := filled_len (fun _ : Nat => F) Z (show i ≤ Z.length by omega)
    have mset := filled_set (fun _ : Nat => F) Z i (by omega)
    rw [hZ0] at ml
    have hset := set3_flat (f := optRow [.bool false, .nils, .nils] rowFr) (filled (fun _ : Nat => F) Z i) i (some F) rfl (by omega)
    rw [mset] at hset
    simp -dsimp -implicitDefEqProofs [a2, a2', wi, ml]
    refine ⟨by omega, ?_⟩
    exact Again.by ⟨i + 1, a2⟩ (Le.to (by simp [wi]) (by simp [← hset]) (by simp)) (by simp; omega)
  obtain rfl : i = 8 := by omega
  simp -dsimp -implicitDefEqProofs
  obtain ⟨P, hP⟩ : ∃ P, P = List.replicate (8 - n) F := ⟨_, rfl⟩
  have hPl : P.length = 8 - n := by rw [hP]; simp
  have hw0 : (wAt n g 0).map frQ ++ P = List.replicate 8 F := by
    rw [hP, wAt, List.map_replicate, ← hF, List.replicate_append_replicate]; congr 1; omega
  obtain ⟨a, ha⟩ : ∃ a, a = c + 2 := ⟨_, rfl⟩
  rw [← ha, show c + 3 = a + 1 by omega]
  have a01 : ¬ a = 0 ∧ ¬ a = 1 ∧ ¬ 0 = a ∧ ¬ 1 = a := by omega
  refine sw_loop_e (fun p : {p : Nat × Nat × Nat // p.1 ≤ g.length ∧ a < p.2.1 ∧ (p.1 ≠ 0 → p.2.2 < p.2.1 ∧ a < p.2.2)} => SS.of [(6, .v (.one (.mp 0 0))), (8, .v (.one (.mp 1 0))), (10, I .i64 n), (15, .v (.one (.mp a 0))), (17, if p.1.1 = 0 then .v (.one .nils) else .v (.one (.ms p.1.2.2 0 p.1.1 1 true))), (94, .v (.one (rowsS g))), (95, I .i64 g.length), (96, I .i64 p.1.1)] ((if p.1.1 = 0 then [] else [(p.1.2.2, ⟨23, flat rowG (outF n g p.1.1)⟩)]) ++ [(a, ⟨58, flat rowFr ((wAt n g p.1.1).map frQ ++ P)⟩), (0, ⟨26, rowFr F⟩), (1, ⟨26, rowFr H⟩)]) p.1.2.1)
    (fun p => g.length - p.1.1) ⟨(0, a + 1, 0), Nat.zero_le _, Nat.lt_succ_self a, fun h => absurd rfl h⟩ (by kernel_rfl) (Le.to (by simp) (by simp [hZ2, hw0, a01]) (by simp)) ?_
  rintro ⟨⟨t, c1, oo⟩, ht, hac, hoo⟩
  simp only at ht hac hoo
  have a02 := ne_off (show a < c1 from hac)
  have a03 : ¬ c1 = a ∧ ¬ c1 = 0 ∧ ¬ c1 = 1 ∧ ¬ 0 = c1 ∧ ¬ 1 = c1 ∧ ¬ a = c1 := by omega
  have a04 : ¬ a = c1 + 1 ∧ ¬ 0 = c1 + 1 ∧ ¬ 1 = c1 + 1 := by omega
  have a05 : ¬ c1 ≤ 1 ∧ ¬ c1 ≤ a ∧ ¬ c1 ≤ 0 := by omega
  by_cases b1 : t < g.length
  · have wt : IntKind.i64.wrap ((t : Int) + 1) = ((t + 1 : Nat) : Int) := by rw [wrap_i64 _ (by omega) (by omega)]; rfl
    have hWl := wAt_len h t ht
    have hWl' := wAt_len h (t + 1) b1
    have hWm := fun q hq => (wAt_ok h t ht q hq).2
    obtain ⟨hS1, hS2⟩ := wAt_sum h t ht
    obtain ⟨w, hw⟩ : ∃ w, w = (wAt n g t).map frQ := ⟨_, rfl⟩
    obtain ⟨rowL, hrow⟩ : ∃ w, w = (chanceW (wAt n g t)).map frQ := ⟨_, rfl⟩
    obtain ⟨nextL, hnext⟩ : ∃ w, w = (wAt n g (t + 1)).map frQ := ⟨_, rfl⟩
    obtain ⟨SF, hSF⟩ : ∃ w, w = frQ (sumQ (wAt n g t)) := ⟨_, rfl⟩
    have hgt := h.row _ (List.getElem_mem b1)
    have wl : w.length = n := by rw [hw]; simp [hWl]
    have rl : rowL.length = n := by rw [hrow]; simp [chanceW_len, hWl]
    have nl : nextL.length = n := by rw [hnext]; simp [hWl']
    have hNW : (nextL ++ P).length = (w ++ P).length := by simp [wl, nl]
    have hsum := sum_peek w P n 0 false 58 wl (by rw [hw]; exact (wAt_small h t ht).ok) (by omega) rfl
    rw [show w.map FR.fix = wAt n g t by rw [hw]; exact fix_map (fun q hq => by have := hWm q hq; omega), cap_mz (by omega), ← frS_frQ, ← hSF] at hsum
    have hdiv : ∀ k (h1 : k < w.length) (h2 : k < rowL.length), CallsS Try.prog 36 [frS w[k], frS SF] (.tup [frS rowL[k], .one (.int .i64 0)]) := by
      intro k h1 h2
      have hk : k < (wAt n g t).length := by omega
      have m1 := hWm _ (List.getElem_mem hk)
      have e1 : w[k] = frQ (wAt n g t)[k] := by simp [hw]
      have e2 : rowL[k] = frQ (cap ((wAt n g t)[k] / sumQ (wAt n g t))) := by simp [hrow, chanceW]
      have := fdiv_s (frQ (wAt n g t)[k]) (frQ (sumQ (wAt n g t))) (ok_mz (by omega)) (ok_mz (by omega)) (by rw [fix_mz (by omega)]; grind)
      rw [fix_mz (by omega), fix_mz (by omega), ← frS_frQ, ← e1, ← e2, ← hSF] at this
      exact this
    have hgrow : ∀ k (h1 : k < w.length) (h2 : k < nextL.length) (h3 : k < g[t].length), ∃ HX GX, CallsS Try.prog 37 [frS H, frS g[t][k]] (.v (frS HX)) ∧ CallsS Try.prog 33 [frS F, frS HX] (.v (frS GX)) ∧ CallsS Try.prog 37 [frS w[k], frS GX] (.v (frS nextL[k])) := by
      intro k h1 h2 h3
      have hk : k < (wAt n g t).length := by omega
      have hk' : k < (wAt n g (t + 1)).length := by omega
      have m1 := hWm _ (List.getElem_mem hk)
      have m2 := h.mz _ (List.getElem_mem b1) _ (List.getElem_mem h3)
      have m3 := (wAt_ok h (t + 1) b1 _ (List.getElem_mem hk')).2
      have e1 : w[k] = frQ (wAt n g t)[k] := by simp [hw]
      have e2 : nextL[k] = frQ (wAt n g (t + 1))[k] := by simp [hnext]
      have e3 := wAt_next h t b1 k hk h3 hk'
      rw [e3] at m3
      have q1 := mz_mul (1 / 2) g[t][k].fix
      have q2 := mz_gain g[t][k].fix
      rw [mz_half] at q1
      refine ⟨frQ (1 / 2 * g[t][k].fix), frQ (1 + 1 / 2 * g[t][k].fix), ?_, ?_, ?_⟩
      · have := fmul_s H g[t][k] hHok.1 (h.ok _ (List.getElem_mem b1) _ (List.getElem_mem h3))
        rw [hHok.2, cap_mz (by omega), ← frS_frQ] at this
        exact this
      · have := fadd_s F (frQ (1 / 2 * g[t][k].fix)) o2 (ok_mz (by omega))
        rw [o1, fix_mz (by omega), cap_mz (by omega), ← frS_frQ] at this
        exact this
      · have := fmul_s (frQ (wAt n g t)[k]) (frQ (1 + 1 / 2 * g[t][k].fix)) (ok_mz (by omega)) (ok_mz (by omega))
        rw [fix_mz (by omega), fix_mz (by omega), show (wAt n g t)[k] * (1 + 1 / 2 * g[t][k].fix) = grow (wAt n g t)[k] g[t][k].fix from rfl, cap_mz (by omega), ← e3, ← frS_frQ, ← e1, ← e2] at this
        exact this
    have hsnoc := outF_snoc n g t
    rw [← hrow] at hsnoc
    have holen := outF_len n g t
    rw [← hw]
    have hflo := flat_snoc (f := rowG) rowL (outF n g t)
    rw [← hsnoc] at hflo
    by_cases t0 : t = 0
    · subst t0
      have h24 : 24 ≤ (w.length + P.length) * 3 := by omega
      have hcut : (n : Int) ≤ 8 := by omega
      have h3n : n * 3 ≤ (w.length + P.length) * 3 := by omega
      simp -dsimp -implicitDefEqProofs [b1, h24, hcut, h3n, a01, a02, hgt]
      refine eCall.lend [a] hsum (by simp [hgt]) (by simp) (by simp [a01, a02, hgt]) ?_
      simp -dsimp -implicitDefEqProofs [a01, a02, a03, hgt, hgt]
      refine sw_loop_e (fun p : {p : Nat × Nat × Nat // p.1 ≤ n ∧ c1 < p.2.1 ∧ (p.1 ≠ 0 → c1 < p.2.2 ∧ p.2.2 < p.2.1)} => SS.of [(6, .v (.one (.mp 0 0))), (8, .v (.one (.mp 1 0))), (10, I .i64 n), (15, .v (.one (.mp a 0))), (17, .v (.one .nils)), (94, .v (.one (rowsS g))), (95, I .i64 g.length), (96, I .i64 0), (20, .v (.one (.mp c1 0))), (21, if p.1.1 = 0 then .v (.one .nils) else .v (.one (.ms p.1.2.2 0 p.1.1 3 true))), (103, .v (.one (frsS g[0]))), (104, I .i64 n), (105, I .i64 p.1.1)]
          ((if p.1.1 = 0 then [] else [(p.1.2.2, ⟨26, flat rowFr (rowL.take p.1.1)⟩)]) ++ (c1, ⟨26, rowFr SF⟩) :: (a, ⟨58, flat rowFr (mix (nextL ++ P) (w ++ P) p.1.1)⟩) :: (0, ⟨26, rowFr F⟩) :: (1, ⟨26, rowFr H⟩) :: []) p.1.2.1)
        (fun p => n - p.1.1) ⟨(0, c1 + 1, 0), Nat.zero_le _, by simp only; omega, fun h => absurd rfl h⟩ (by kernel_rfl) (Le.to (by simp [hgt]) (by simp [a01, a02, a03, a04, a05, mix_zero, hgt, hgt]) (by simp)) ?_
      rintro ⟨⟨k, c, orow⟩, hk, hc1, hoc⟩
      simp only at hk hc1 hoc
      by_cases d1 : k < n
      · have wk : IntKind.i64.wrap ((k : Int) + 1) = ((k + 1 : Nat) : Int) := by rw [wrap_i64 _ (by omega) (by omega)]; rfl
        have k1 : k < w.length := by omega
        have k2 : k < rowL.length := by omega
        have k3 : k < nextL.length := by omega
        have k4 : k < g[0].length := by omega
        have k8 : k < 8 := by omega
        have k8' : (k : Int) < 8 := by omega
        have k24 : 3 ≤ 24 - k * 3 := by omega
        have k25 : k * 3 + 3 ≤ 24 := by omega
        have hfl1 := flat_snoc (f := rowFr) rowL[k] (rowL.take k)
        rw [← take_snoc rowL k k2] at hfl1
        have hd := hdiv k k1 k2
        obtain ⟨HX, GX, hg1, hg2, hg3⟩ := hgrow k k1 k3 k4
        obtain ⟨M, hM, hM8, hMk, hMs⟩ : ∃ M, mix (nextL ++ P) (w ++ P) k = M ∧ ∃ h8 : M.length = 8, M[k]'(by omega) = w[k] ∧ M.set k nextL[k] = mix (nextL ++ P) (w ++ P) (k + 1) := by
          have hMs := mix_set hNW (k := k) (by simp; omega) (by simp; omega)
          rw [List.getElem_append_left k3] at hMs
          refine ⟨_, rfl, by rw [mix_len hNW]; simp; omega, ?_, hMs⟩
          rw [mix_get hNW (by simp; omega)]; exact List.getElem_append_left k1
        have hset := set3_flat (f := rowFr) M k nextL[k] rfl (by omega)
        rw [hMs] at hset
        generalize rowL[k] = RK at *
        generalize nextL[k] = NK at *
        generalize hWK : w[k] = WK at *
        have hrk := flat_row (e := 3) (f := rowFr) M k (by omega)
        rw [hMk] at hrk
        have z1 := ne_off (show c1 < c by omega)
        have z2 := ne_off (show a < c by omega)
        have z3 := ne_off (show 0 < c by omega)
        have z4 := ne_off (show 1 < c by omega)
        have z7 : ¬ c = c + 1 ∧ ¬ c = c + 1 + 1 ∧ ¬ c = c + 1 + 1 + 1 ∧ ¬ c = c1 ∧ ¬ c = a ∧ ¬ c + 3 = a := by omega
        have z6 : ¬ c = 0 ∧ ¬ c = 1 ∧ ¬ c + 1 = 0 ∧ ¬ c + 1 = 1 := by omega

        by_cases k0 : k = 0
        · subst k0
          have hrk0 : (flat rowFr M).take 3 = [.bool WK.neg, wS WK.num, wS WK.den] := by simpa using hrk
          have hset0 : flat rowFr (mix (nextL ++ P) (w ++ P) 1) = (((flat rowFr M).set 0 (.bool NK.neg)).set 1 (wS NK.num)).set 2 (wS NK.den) := by rw [hset]
          have f1 : flat rowFr (rowL.take 1) = rowFr RK := by simpa [flat_nil] using hfl1
          simp -dsimp -implicitDefEqProofs [d1, k4, hgt, hM, hM8, hrk0, z1, z2, z3, z4, z6, z7, a01, a02, a03, a04, hgt]
          refine eCall.of hd (by simp) ?_
          simp -dsimp -implicitDefEqProofs [d1, k4, hgt, hM, hM8, hrk0, z1, z2, z3, z4, z6, z7, a01, a02, a03, a04, slots, hgt]
          refine eCall.of hg1 (by simp) ?_
          simp -dsimp -implicitDefEqProofs [d1, k4, hgt, hM, hM8, hrk0, z1, z2, z3, z4, z6, z7, a01, a02, a03, a04, slots, hgt]
          refine eCall.of hg2 (by simp) ?_
          simp -dsimp -implicitDefEqProofs [d1, k4, hgt, hM, hM8, hrk0, z1, z2, z3, z4, z6, z7, a01, a02, a03, a04, slots, hgt]
          refine eCall.of hg3 (by simp) ?_
          simp -dsimp -implicitDefEqProofs [d1, k4, hgt, hM, hM8, hrk0, z1, z2, z3, z4, z6, z7, a01, a02, a03, a04, slots, hgt]
          exact Again.by ⟨(1, c + 4, c + 3), by omega, by simp only; omega, fun _ => by simp only; omega⟩ (Le.to (by simp [i64_one', hgt]) (by simp [f1, hset0, z1, z2, z3, z4, z6, z7, a01, a02, a03, a04, hgt]) (by simp)) (by simp; omega)
        · obtain ⟨g1, g2⟩ := hoc k0
          have y1 : ¬ c1 = orow ∧ ¬ a = orow ∧ ¬ 0 = orow ∧ ¬ 1 = orow ∧ ¬ orow = a ∧ ¬ orow = c1 ∧ ¬ orow = 0 ∧ ¬ orow = 1 := by omega
          have y4 := ne_off (show orow < c by omega)
          have y7 : ¬ c = orow := by omega
          have L1 : (rowL.take k).length = k := by simp; omega
          simp -dsimp -implicitDefEqProofs [d1, k4, k8, k8', k24, k25, k0, wk, hgt, hM, hM8, hrk, hMk, z1, z2, z3, z4, z6, z7, y1, y4, y7, a01, a02, a03, a04, hgt]
          refine eCall.of hd (by simp) ?_
          simp -dsimp -implicitDefEqProofs [d1, k4, k8, k8', k24, k25, k0, wk, hgt, hM, hM8, hrk, hMk, L1, z1, z2, z3, z4, z6, z7, y1, y4, y7, a01, a02, a03, a04, slots, hgt]
          refine ⟨by omega, ?_⟩
          refine eCall.of hg1 (by simp) ?_
          simp -dsimp -implicitDefEqProofs [d1, k4, k8, k8', k24, k25, k0, wk, hgt, hM, hM8, hrk, hMk, L1, z1, z2, z3, z4, z6, z7, y1, y4, y7, a01, a02, a03, a04, slots, hgt]
          refine eCall.of hg2 (by simp) ?_
          simp -dsimp -implicitDefEqProofs [d1, k4, k8, k8', k24, k25, k0, wk, hgt, hM, hM8, hrk, hMk, L1, z1, z2, z3, z4, z6, z7, y1, y4, y7, a01, a02, a03, a04, slots, hgt]
          refine eCall.of hg3 (by simp) ?_
          simp -dsimp -implicitDefEqProofs [d1, k4, k8, k8', k24, k25, k0, wk, hgt, hM, hM8, hrk, hMk, L1, z1, z2, z3, z4, z6, z7, y1, y4, y7, a01, a02, a03, a04, slots, hgt]
          exact Again.by ⟨(k + 1, c + 4, c + 3), by omega, by simp only; omega, fun _ => by simp only; omega⟩ (Le.to (by simp [wk, hgt]) (by simp [hfl1, ← hset, z1, z2, z3, z4, z6, z7, y1, y4, y7, a01, a02, a03, a04, hgt]) (by simp)) (by simp; omega)
      · have k0 : ¬ k = 0 := by omega
        obtain ⟨g1, g2⟩ := hoc k0
        have z1 := ne_off (show c1 < c by omega)
        have z2 := ne_off (show a < c by omega)
        have z3 := ne_off (show 0 < c by omega)
        have z4 := ne_off (show 1 < c by omega)
        have z7 : ¬ c = c + 1 ∧ ¬ c = c1 ∧ ¬ c = a ∧ ¬ c + 1 = a ∧ ¬ c + 1 = c := by omega
        have z6 : ¬ c = 0 ∧ ¬ c = 1 ∧ ¬ c + 1 = 0 ∧ ¬ c + 1 = 1 := by omega
        have y1 : ¬ c1 = orow ∧ ¬ a = orow ∧ ¬ 0 = orow ∧ ¬ 1 = orow ∧ ¬ orow = a ∧ ¬ orow = c1 ∧ ¬ orow = 0 ∧ ¬ orow = 1 := by omega
        have y4 := ne_off (show orow < c by omega)
        have y7 : ¬ c = orow ∧ ¬ c + 1 = orow := by omega
        have T3 : mix (nextL ++ P) (w ++ P) n = nextL ++ P := by have := mix_pad (p := P) (nl.trans wl.symm); rw [nl] at this; exact this

        obtain rfl : k = n := by omega
        have T1 : rowL.take k = rowL := List.take_of_length_le (by omega)
        simp -dsimp -implicitDefEqProofs [wl, rl, nl, k0, T1, T3, y1, y4, y7, z1, z2, z3, z4, z6, z7, slots, holen, hgt, hgt]
        rw [show outF k g 0 = [] from rfl, flat_nil, List.nil_append] at hflo
        exact Again.by ⟨(1, c + 2, c + 1), by omega, by simp only; omega, fun _ => by simp only; omega⟩ (Le.to (by simp [i64_one', y1]) (by simp [hflo, ← hnext, a03, y1, y4, y7, z1, z2, z3, z4, z6, z7, a01]) (by simp)) (by simp; omega)
    · obtain ⟨o1', o2'⟩ := hoo t0
      have o2 : ¬ oo = c1 ∧ ¬ oo = a ∧ ¬ a = oo ∧ ¬ oo = 0 ∧ ¬ oo = 1 ∧ ¬ 0 = oo ∧ ¬ 1 = oo ∧ ¬ oo = c1 + 1 ∧ ¬ c1 ≤ oo := by omega
      have h24 : 24 ≤ (w.length + P.length) * 3 := by omega
      have hcut : (n : Int) ≤ 8 := by omega
      have h3n : n * 3 ≤ (w.length + P.length) * 3 := by omega
      simp -dsimp -implicitDefEqProofs [b1, h24, hcut, h3n, a01, a02, t0, o2]
      refine eCall.lend [a] hsum (by simp [t0, o2]) (by simp) (by simp [a01, a02, t0, o2]) ?_
      simp -dsimp -implicitDefEqProofs [a01, a02, a03, hgt, t0, o2]
      refine sw_loop_e (fun p : {p : Nat × Nat × Nat // p.1 ≤ n ∧ c1 < p.2.1 ∧ (p.1 ≠ 0 → c1 < p.2.2 ∧ p.2.2 < p.2.1)} => SS.of [(6, .v (.one (.mp 0 0))), (8, .v (.one (.mp 1 0))), (10, I .i64 n), (15, .v (.one (.mp a 0))), (17, .v (.one (.ms oo 0 t 1 true))), (94, .v (.one (rowsS g))), (95, I .i64 g.length), (96, I .i64 t), (20, .v (.one (.mp c1 0))), (21, if p.1.1 = 0 then .v (.one .nils) else .v (.one (.ms p.1.2.2 0 p.1.1 3 true))), (103, .v (.one (frsS g[t]))), (104, I .i64 n), (105, I .i64 p.1.1)]
          ((if p.1.1 = 0 then [] else [(p.1.2.2, ⟨26, flat rowFr (rowL.take p.1.1)⟩)]) ++ (c1, ⟨26, rowFr SF⟩) :: (a, ⟨58, flat rowFr (mix (nextL ++ P) (w ++ P) p.1.1)⟩) :: (0, ⟨26, rowFr F⟩) :: (1, ⟨26, rowFr H⟩) :: [(oo, ⟨23, flat rowG (outF n g t)⟩)]) p.1.2.1)
        (fun p => n - p.1.1) ⟨(0, c1 + 1, 0), Nat.zero_le _, by simp only; omega, fun h => absurd rfl h⟩ (by kernel_rfl) (Le.to (by simp [t0, o2]) (by simp [a01, a02, a03, a04, a05, mix_zero, t0, o2, o2]) (by simp)) ?_
      rintro ⟨⟨k, c, orow⟩, hk, hc1, hoc⟩
      simp only at hk hc1 hoc
      by_cases d1 : k < n
      · have wk : IntKind.i64.wrap ((k : Int) + 1) = ((k + 1 : Nat) : Int) := by rw [wrap_i64 _ (by omega) (by omega)]; rfl
        have k1 : k < w.length := by omega
        have k2 : k < rowL.length := by omega
        have k3 : k < nextL.length := by omega
        have k4 : k < g[t].length := by omega
        have k8 : k < 8 := by omega
        have k8' : (k : Int) < 8 := by omega
        have k24 : 3 ≤ 24 - k * 3 := by omega
        have k25 : k * 3 + 3 ≤ 24 := by omega
        have hfl1 := flat_snoc (f := rowFr) rowL[k] (rowL.take k)
        rw [← take_snoc rowL k k2] at hfl1
        have hd := hdiv k k1 k2
        obtain ⟨HX, GX, hg1, hg2, hg3⟩ := hgrow k k1 k3 k4
        obtain ⟨M, hM, hM8, hMk, hMs⟩ : ∃ M, mix (nextL ++ P) (w ++ P) k = M ∧ ∃ h8 : M.length = 8, M[k]'(by omega) = w[k] ∧ M.set k nextL[k] = mix (nextL ++ P) (w ++ P) (k + 1) := by
          have hMs := mix_set hNW (k := k) (by simp; omega) (by simp; omega)
          rw [List.getElem_append_left k3] at hMs
          refine ⟨_, rfl, by rw [mix_len hNW]; simp; omega, ?_, hMs⟩
          rw [mix_get hNW (by simp; omega)]; exact List.getElem_append_left k1
        have hset := set3_flat (f := rowFr) M k nextL[k] rfl (by omega)
        rw [hMs] at hset
        generalize rowL[k] = RK at *
        generalize nextL[k] = NK at *
        generalize hWK : w[k] = WK at *
        have hrk := flat_row (e := 3) (f := rowFr) M k (by omega)
        rw [hMk] at hrk
        have z1 := ne_off (show c1 < c by omega)
        have z2 := ne_off (show a < c by omega)
        have z3 := ne_off (show 0 < c by omega)
        have z4 := ne_off (show 1 < c by omega)
        have z7 : ¬ c = c + 1 ∧ ¬ c = c + 1 + 1 ∧ ¬ c = c + 1 + 1 + 1 ∧ ¬ c = c1 ∧ ¬ c = a ∧ ¬ c + 3 = a := by omega
        have z6 : ¬ c = 0 ∧ ¬ c = 1 ∧ ¬ c + 1 = 0 ∧ ¬ c + 1 = 1 := by omega
        have o3 := ne_off (show oo < c by omega)
        have o4 : ¬ c = oo := by omega
        by_cases k0 : k = 0
        · subst k0
          have hrk0 : (flat rowFr M).take 3 = [.bool WK.neg, wS WK.num, wS WK.den] := by simpa using hrk
          have hset0 : flat rowFr (mix (nextL ++ P) (w ++ P) 1) = (((flat rowFr M).set 0 (.bool NK.neg)).set 1 (wS NK.num)).set 2 (wS NK.den) := by rw [hset]
          have f1 : flat rowFr (rowL.take 1) = rowFr RK := by simpa [flat_nil] using hfl1
          simp -dsimp -implicitDefEqProofs [d1, k4, hgt, hM, hM8, hrk0, z1, z2, z3, z4, z6, z7, a01, a02, a03, a04, t0, o2]
          refine eCall.of hd (by simp) ?_
          simp -dsimp -implicitDefEqProofs [d1, k4, hgt, hM, hM8, hrk0, z1, z2, z3, z4, z6, z7, a01, a02, a03, a04, slots, t0, o2]
          refine eCall.of hg1 (by simp) ?_
          simp -dsimp -implicitDefEqProofs [d1, k4, hgt, hM, hM8, hrk0, z1, z2, z3, z4, z6, z7, a01, a02, a03, a04, slots, t0, o2]
          refine eCall.of hg2 (by simp) ?_
          simp -dsimp -implicitDefEqProofs [d1, k4, hgt, hM, hM8, hrk0, z1, z2, z3, z4, z6, z7, a01, a02, a03, a04, slots, t0, o2]
          refine eCall.of hg3 (by simp) ?_
          simp -dsimp -implicitDefEqProofs [d1, k4, hgt, hM, hM8, hrk0, z1, z2, z3, z4, z6, z7, a01, a02, a03, a04, slots, t0, o2]
          exact Again.by ⟨(1, c + 4, c + 3), by omega, by simp only; omega, fun _ => by simp only; omega⟩ (Le.to (by simp [i64_one', t0, o2]) (by simp [f1, hset0, z1, z2, z3, z4, z6, z7, a01, a02, a03, a04, o2, o3, o4]) (by simp)) (by simp; omega)
        · obtain ⟨g1, g2⟩ := hoc k0
          have y1 : ¬ c1 = orow ∧ ¬ a = orow ∧ ¬ 0 = orow ∧ ¬ 1 = orow ∧ ¬ orow = a ∧ ¬ orow = c1 ∧ ¬ orow = 0 ∧ ¬ orow = 1 := by omega
          have y4 := ne_off (show orow < c by omega)
          have y7 : ¬ c = orow := by omega
          have L1 : (rowL.take k).length = k := by simp; omega
          simp -dsimp -implicitDefEqProofs [d1, k4, k8, k8', k24, k25, k0, wk, hgt, hM, hM8, hrk, hMk, z1, z2, z3, z4, z6, z7, y1, y4, y7, a01, a02, a03, a04, t0, o2]
          refine eCall.of hd (by simp) ?_
          simp -dsimp -implicitDefEqProofs [d1, k4, k8, k8', k24, k25, k0, wk, hgt, hM, hM8, hrk, hMk, L1, z1, z2, z3, z4, z6, z7, y1, y4, y7, a01, a02, a03, a04, slots, t0, o2]
          refine ⟨by omega, ?_⟩
          refine eCall.of hg1 (by simp) ?_
          simp -dsimp -implicitDefEqProofs [d1, k4, k8, k8', k24, k25, k0, wk, hgt, hM, hM8, hrk, hMk, L1, z1, z2, z3, z4, z6, z7, y1, y4, y7, a01, a02, a03, a04, slots, t0, o2]
          refine eCall.of hg2 (by simp) ?_
          simp -dsimp -implicitDefEqProofs [d1, k4, k8, k8', k24, k25, k0, wk, hgt, hM, hM8, hrk, hMk, L1, z1, z2, z3, z4, z6, z7, y1, y4, y7, a01, a02, a03, a04, slots, t0, o2]
          refine eCall.of hg3 (by simp) ?_
          simp -dsimp -implicitDefEqProofs [d1, k4, k8, k8', k24, k25, k0, wk, hgt, hM, hM8, hrk, hMk, L1, z1, z2, z3, z4, z6, z7, y1, y4, y7, a01, a02, a03, a04, slots, t0, o2]
          exact Again.by ⟨(k + 1, c + 4, c + 3), by omega, by simp only; omega, fun _ => by simp only; omega⟩ (Le.to (by simp [wk, t0, o2]) (by simp [hfl1, ← hset, z1, z2, z3, z4, z6, z7, y1, y4, y7, a01, a02, a03, a04, o2, o3, o4, (show ¬ oo = orow by omega)]) (by simp)) (by simp; omega)
      · have k0 : ¬ k = 0 := by omega
        obtain ⟨g1, g2⟩ := hoc k0
        have z1 := ne_off (show c1 < c by omega)
        have z2 := ne_off (show a < c by omega)
        have z3 := ne_off (show 0 < c by omega)
        have z4 := ne_off (show 1 < c by omega)
        have z7 : ¬ c = c + 1 ∧ ¬ c = c1 ∧ ¬ c = a ∧ ¬ c + 1 = a ∧ ¬ c + 1 = c := by omega
        have z6 : ¬ c = 0 ∧ ¬ c = 1 ∧ ¬ c + 1 = 0 ∧ ¬ c + 1 = 1 := by omega
        have y1 : ¬ c1 = orow ∧ ¬ a = orow ∧ ¬ 0 = orow ∧ ¬ 1 = orow ∧ ¬ orow = a ∧ ¬ orow = c1 ∧ ¬ orow = 0 ∧ ¬ orow = 1 := by omega
        have y4 := ne_off (show orow < c by omega)
        have y7 : ¬ c = orow ∧ ¬ c + 1 = orow := by omega
        have T3 : mix (nextL ++ P) (w ++ P) n = nextL ++ P := by have := mix_pad (p := P) (nl.trans wl.symm); rw [nl] at this; exact this
        have o3 := ne_off (show oo < c by omega)
        have o4 : ¬ c = oo := by omega
        have p1 : ¬ oo = orow ∧ ¬ orow = oo := by omega
        obtain rfl : k = n := by omega
        have T1 : rowL.take k = rowL := List.take_of_length_le (by omega)
        simp -dsimp -implicitDefEqProofs [wl, rl, nl, k0, T1, T3, y1, y4, y7, z1, z2, z3, z4, z6, z7, slots, holen, o2, o3, o4, p1, t0, o2]
        refine ⟨by omega, ?_⟩
        exact Again.by ⟨(t + 1, c + 2, c + 1), by omega, by simp only; omega, fun _ => by simp only; omega⟩ (Le.to (by simp [wt, y1, p1]) (by simp [hflo, ← hnext, a03, y1, y4, y7, z1, z2, z3, z4, z6, z7, a01, o2, o3, o4, p1]) (by simp)) (by simp; omega)
  · obtain rfl : t = g.length := by omega
    have t0 : ¬ g.length = 0 := by omega
    have holen := outF_len n g g.length
    obtain ⟨o1', o2'⟩ := hoo t0
    have o2 : ¬ oo = c1 ∧ ¬ oo = a ∧ ¬ a = oo ∧ ¬ oo = 0 ∧ ¬ oo = 1 ∧ ¬ 0 = oo ∧ ¬ 1 = oo := by omega
    simp -dsimp -implicitDefEqProofs [t0, hne, holen, hr0, o2]
end Go.Proofs.Ytockjmmogkhepaa.Sh

/- law14.fixed. -/
namespace Go.Proofs.Ytockjmmogkhepaa.Sh
open Go Go.RowKit

def fixG : List (List FR) := [[frQ 1, frQ (-1)], [frQ 0, frQ 1]]
theorem fix_out : outF 2 fixG 2 = [[frQ (1 / 2), frQ (1 / 2)], [frQ (3 / 4), frQ (1 / 4)]] := by
  have h0 : chanceW (wAt 2 fixG 0) = [1 / 2, 1 / 2] := by decide +kernel
  have h1 : chanceW (wAt 2 fixG 1) = [3 / 4, 1 / 4] := by decide +kernel
  show [(chanceW (wAt 2 fixG 0)).map frQ, (chanceW (wAt 2 fixG 1)).map frQ] = _
  rw [h0, h1]; rfl
theorem fix_win : win [3, 5, 5] = (1, 5) := by decide +kernel
theorem fix_ok {q : Rat} (h : mz q ≤ 1) : (frQ q).ok ∧ (frQ q).fix = q := ⟨ok_mz (by omega), fix_mz (by omega)⟩
theorem mzs : mz 3 = 1 ∧ mz 5 = 1 ∧ mz 0 = 1 ∧ mz 1 = 1 ∧ mz (-1) = 1 ∧ mz (3 / 4) = 1 := by decide +kernel
theorem three_four : (((3 : Int) : Rat) / ((4 : Int) : Rat)) = 3 / 4 := by decide +kernel

theorem fix_gains : isGains fixG 0 := by
  obtain ⟨m3, m5, m0, m1, mn, m34⟩ := mzs
  have f0 := (fix_ok (q := 0) (by omega)).2
  have f1 := (fix_ok (q := 1) (by omega)).2
  have fn := (fix_ok (q := -1) (by omega)).2
  have g0 : goodX (frQ 0) := by unfold goodX; rw [f0]; exact ⟨by decide, by decide⟩
  have g1 : goodX (frQ 1) := by unfold goodX; rw [f1]; exact ⟨by decide, by decide⟩
  have gn : goodX (frQ (-1)) := by unfold goodX; rw [fn]; exact ⟨by decide, by decide⟩
  refine Or.inr (Or.inr (Or.inr ⟨by decide, fun l hl => ?_, fun l hl => ?_, rfl⟩))
  · simp [fixG] at hl; rcases hl with rfl | rfl <;> simp
  · simp [fixG] at hl
    rcases hl with rfl | rfl
    · refine ⟨by simp, rfl, fun f hf => ?_⟩
      simp at hf; rcases hf with rfl | rfl
      · exact g1
      · exact gn
    · refine ⟨by simp, rfl, fun f hf => ?_⟩
      simp at hf; rcases hf with rfl | rfl
      · exact g0
      · exact g1

set_option maxRecDepth 20000 in
theorem fixed_s : CallsS Try.prog 12 [] (B true) := by
  obtain ⟨m3, m5, m0, m1, mn, m34⟩ := mzs
  have i3 := intR_s 3 (by decide) (by decide)
  have i5 := intR_s 5 (by decide) (by decide)
  have i1 := intR_s 1 (by decide) (by decide)
  have in1 := intR_s (-1) (by decide) (by decide)
  have i0 := intR_s 0 (by decide) (by decide)
  rw [show (((3 : Int) : Rat)) = 3 from rfl, ← frS_frQ] at i3
  rw [show (((5 : Int) : Rat)) = 5 from rfl, ← frS_frQ] at i5
  rw [show (((1 : Int) : Rat)) = 1 from rfl, ← frS_frQ] at i1
  rw [show (((-1 : Int) : Rat)) = -1 by decide +kernel, ← frS_frQ] at in1
  rw [show (((0 : Int) : Rat)) = 0 from rfl, ← frS_frQ] at i0
  have mk := makeR_s 3 4 (by decide) (by decide) (by decide) (by decide) (by decide)
  rw [three_four, ← frS_frQ] at mk
  obtain ⟨k3, f3⟩ := fix_ok (q := 3) (by omega)
  obtain ⟨k5, f5⟩ := fix_ok (q := 5) (by omega)
  obtain ⟨k1, f1⟩ := fix_ok (q := 1) (by omega)
  obtain ⟨kn, fn⟩ := fix_ok (q := -1) (by omega)
  obtain ⟨k0, f0⟩ := fix_ok (q := 0) (by omega)
  obtain ⟨k34, f34⟩ := fix_ok (q := 3 / 4) (by omega)
  have hs := secondC_s [frQ 3, frQ 5, frQ 5] (by intro f hf; simp at hf; rcases hf with rfl | rfl; exact k3; exact k5) (by decide)
  rw [show [frQ 3, frQ 5, frQ 5].map FR.fix = [3, 5, 5] by simp [f3, f5], fix_win, ← frS_frQ] at hs
  have hgo : ∀ l ∈ fixG, ∀ f ∈ l, f.ok ∧ mz f.fix ≤ 1 := by
    intro l hl f hf
    simp [fixG] at hl
    rcases hl with rfl | rfl <;> simp at hf <;> rcases hf with rfl | rfl
    · exact ⟨k1, by rw [f1]; omega⟩
    · exact ⟨kn, by rw [fn]; omega⟩
    · exact ⟨k0, by rw [f0]; omega⟩
    · exact ⟨k1, by rw [f1]; omega⟩
  have hw := weighC_s fixG (fun l hl f hf => (hgo l hl f hf).1) (by decide) (by intro l hl; simp [fixG] at hl; rcases hl with rfl | rfl <;> simp) (fun l hl f hf => (hgo l hl f hf).2) 0 fix_gains
  rw [if_pos ⟨rfl, by simp [fixG]⟩, show picks fixG = 2 from rfl, show fixG.length = 2 from rfl, fix_out] at hw
  have s1 := sameR_s (frQ 5) (frQ 5) k5 k5
  have s2 := sameR_s (frQ (3 / 4)) (frQ (3 / 4)) k34 k34
  rw [decide_eq_true rfl] at s1 s2
  unfold fixG at hw
  generalize frQ 3 = A3 at *
  generalize frQ 5 = A5 at *
  generalize frQ 1 = A1 at *
  generalize frQ (-1) = AN at *
  generalize frQ 0 = A0 at *
  generalize frQ (3 / 4) = A34 at *
  generalize frQ (1 / 2) = A12 at *
  generalize frQ (1 / 4) = A14 at *
  refine calls Try.func12 rfl (by rfl) (by rfl) (by kernel_rfl) ?_
  simp -dsimp -implicitDefEqProofs [Try.f12]
  refine eCall.of i3 (by simp) ?_
  simp -dsimp -implicitDefEqProofs
  refine eCall.of i5 (by simp) ?_
  simp -dsimp -implicitDefEqProofs
  refine eCall.of i5 (by simp) ?_
  simp -dsimp -implicitDefEqProofs [slots]
  refine eCall.of mk (by simp) ?_
  simp -dsimp -implicitDefEqProofs [slots, rowsOf, List.range, List.range.loop]
  refine eCall.of hs (by simp [rowsOf, List.range, List.range.loop]) ?_
  simp -dsimp -implicitDefEqProofs [slots]
  refine eCall.of i1 (by simp) ?_
  simp -dsimp -implicitDefEqProofs [slots]
  refine eCall.of in1 (by simp) ?_
  simp -dsimp -implicitDefEqProofs [slots]
  refine eCall.of i0 (by simp) ?_
  simp -dsimp -implicitDefEqProofs [slots]
  refine eCall.of i1 (by simp) ?_
  simp -dsimp -implicitDefEqProofs [slots, rowsOf, List.range, List.range.loop]
  refine eCall.of hw (by simp [rowsOf, List.range, List.range.loop]) ?_
  simp -dsimp -implicitDefEqProofs [slots]
  refine eCall.of i5 (by simp) ?_
  simp -dsimp -implicitDefEqProofs
  refine eCall.of s1 (by simp) ?_
  simp -dsimp -implicitDefEqProofs
  refine eCall.of s2 (by simp) ?_
  simp -dsimp -implicitDefEqProofs
end Go.Proofs.Ytockjmmogkhepaa.Sh

/- CrowdNames: the plain law. -/
namespace Go.Proofs.Ytockjmmogkhepaa.Sh
open Go Go.RowKit

theorem wl_len (n : Nat) : (toW n).length = wl n := rfl
/-- A number is no longer than it is handed in. -/
theorem fix_big {f : FR} (h : f.ok) {b : Nat} (hb : 1 ≤ b) (h1 : f.big ≤ b) : mz f.fix ≤ b := by
  by_cases hr : f.right = true
  · have h2 := (FR.right_fix h hr).1
    simp at h2
    obtain ⟨-, h3, h4⟩ := h2
    have l3 := congrArg List.length h3
    have l4 := congrArg List.length h4
    simp at l3 l4
    unfold mz
    unfold FR.big at h1
    have e3 : wl f.fix.num.natAbs = f.num.length := l3.symm
    have e4 : wl f.fix.den = f.den.length := l4.symm
    omega
  · have : f.fix = 0 := by unfold FR.fix; rw [if_neg hr]
    rw [this, mzs.2.2.1]; exact hb

theorem wideF_not {m : Int} {l : List FR} (h : wideF m l = false) : ∀ f ∈ l, (f.big : Int) ≤ m := by
  intro f hf
  unfold wideF at h
  have := List.any_eq_false.1 h f hf
  simpa using this

theorem Win.price {l : List Rat} {a : Int} {p : Rat} (h : Win l a p) : 0 ≤ p ∧ (∀ j, j < l.length → (j : Int) ≠ a → l.getD j 0 ≤ p) := by
  cases h with
  | no h => exact ⟨Rat.le_refl, fun j hj _ => h j hj⟩
  | yes k p h1 h2 h3 h4 h5 h6 h7 => exact ⟨h5, fun j hj hk => h6 j hj (fun e => hk (by rw [e]))⟩

/-- What the winner pays is 0 or another's bid. -/
theorem Win.price_mem {l : List Rat} {a : Int} {p : Rat} (h : Win l a p) : p = 0 ∨ p ∈ l := by
  cases h with
  | no h => exact Or.inl rfl
  | yes k p h1 h2 h3 h4 h5 h6 h7 =>
    rcases h7 with h7 | ⟨j, hj, -, h7⟩
    · exact Or.inl h7
    · rw [getD_of 0 hj] at h7
      exact Or.inr (h7 ▸ List.getElem_mem hj)

theorem getD_left {l m : List Rat} {j : Nat} (h : j < l.length) : (l ++ m).getD j 0 = l.getD j 0 := by
  rw [getD_of 0 h, getD_of 0 (by simp; omega), List.getElem_append_left h]
theorem getD_right {l m : List Rat} {j : Nat} (h : j < m.length) : (l ++ m).getD (l.length + j) 0 = m.getD j 0 := by
  rw [getD_of 0 h, getD_of 0 (by simp; omega), List.getElem_append_right (by omega)]
  congr 1; omega

/-- What one has by its bids: behind all others. -/
theorem names_behind {o b : List Rat} {w : Rat} {a1 : Int} {p1 : Rat} {a2 : Int} {p2 : Rat} (h1 : Win (o ++ b) a1 p1) (h2 : Win (o ++ [w]) a2 p2) :
    (if a2 = o.length then 0 ≤ w - p2 else True) ∧ ((if (o.length : Int) ≤ a1 then w - p1 else 0) ≤ (if a2 = o.length then w - p2 else 0)) := by
  -- the other bids
  have ho2 : ∀ j, j < o.length → (j : Int) ≠ a2 → o.getD j 0 ≤ p2 := fun j hj hne => by
    have := (h2.price).2 j (by simp; omega) hne
    rwa [getD_left hj] at this
  have ew : (o ++ [w]).getD o.length 0 = w := by
    simp
  have hp2 := h2.price.1
  have hp1 := h1.price.1
  by_cases c : a2 = o.length
  · rw [if_pos c, if_pos c]
    have hwin : p2 ≤ w := by
      cases h2 with
      | no h => omega
      | yes k p g1 g2 g3 g4 g5 g6 g7 =>
        obtain rfl : k = o.length := by omega
        rw [ew] at g2 g3
        rcases g7 with g7 | ⟨j, hj, hjk, g7⟩
        · rw [g7]; exact Rat.le_of_lt g2
        · rw [← g7]; exact g3 j hj
    refine ⟨by grind, ?_⟩
    by_cases d : (o.length : Int) ≤ a1
    · rw [if_pos d]
      -- p2 is 0 or an other's bid
      have : p2 ≤ p1 := by
        cases h2 with
        | no h => omega
        | yes k p g1 g2 g3 g4 g5 g6 g7 =>
          obtain rfl : k = o.length := by omega
          rcases g7 with g7 | ⟨j, hj, hjk, g7⟩
          · rw [g7]; exact hp1
          · have hj' : j < o.length := by simp at hj; omega
            rw [getD_left hj'] at g7
            have := h1.price.2 j (by simp; omega) (by omega)
            rw [getD_left hj', g7] at this
            exact this
      grind
    · rw [if_neg d]; grind
  · rw [if_neg c, if_neg c]
    refine ⟨trivial, ?_⟩
    by_cases d : (o.length : Int) ≤ a1
    · rw [if_pos d]
      have hmax : ∀ j, j < o.length → o.getD j 0 ≤ p1 := fun j hj => by
        have := h1.price.2 j (by simp; omega) (by omega)
        rwa [getD_left hj] at this
      have : w ≤ p1 := by
        cases h2 with
        | no h =>
          have := h o.length (by simp)
          rw [ew] at this
          grind
        | yes k p g1 g2 g3 g4 g5 g6 g7 =>
          have hk : k < o.length := by simp at g1; omega
          have := g3 o.length (by simp)
          rw [ew, getD_left hk] at this
          have := hmax k hk
          grind
      grind
    · rw [if_neg d]; exact Rat.le_refl

/-- What one has by its bids: ahead of all others. -/
theorem names_ahead {o b : List Rat} {w : Rat} {a1 : Int} {p1 : Rat} {a2 : Int} {p2 : Rat} (h1 : Win (b ++ o) a1 p1) (h2 : Win ([w] ++ o) a2 p2) :
    (if a2 = 0 then 0 ≤ w - p2 else True) ∧ ((if 0 ≤ a1 ∧ a1 < b.length then w - p1 else 0) ≤ (if a2 = 0 then w - p2 else 0)) := by
  have ew : ([w] ++ o).getD 0 0 = w := rfl
  have eo : ∀ j, j < o.length → ([w] ++ o).getD (1 + j) 0 = o.getD j 0 := fun j hj => getD_right (l := [w]) (m := o) hj
  have hp2 := h2.price.1
  have hp1 := h1.price.1
  have hmax : 0 ≤ a1 ∧ a1 < b.length → ∀ j, j < o.length → o.getD j 0 ≤ p1 := fun d j hj => by
    have := h1.price.2 (b.length + j) (by simp; omega) (by omega)
    rwa [getD_right hj] at this
  by_cases c : a2 = 0
  · rw [if_pos c, if_pos c]
    cases h2 with
    | no h => omega
    | yes k p g1 g2 g3 g4 g5 g6 g7 =>
      obtain rfl : k = 0 := by omega
      rw [ew] at g2 g3
      have hwin : p2 ≤ w := by
        rcases g7 with g7 | ⟨j, hj, hjk, g7⟩
        · rw [g7]; exact Rat.le_of_lt g2
        · rw [← g7]; exact g3 j hj
      refine ⟨by grind, ?_⟩
      by_cases d : 0 ≤ a1 ∧ a1 < b.length
      · rw [if_pos d]
        have : p2 ≤ p1 := by
          rcases g7 with g7 | ⟨j, hj, hjk, g7⟩
          · rw [g7]; exact hp1
          · obtain ⟨i, rfl⟩ : ∃ i, j = 1 + i := ⟨j - 1, by omega⟩
            have hi : i < o.length := by simp at hj; omega
            rw [eo i hi] at g7
            rw [← g7]; exact hmax d i hi
        grind
      · rw [if_neg d]; grind
  · rw [if_neg c, if_neg c]
    refine ⟨trivial, ?_⟩
    by_cases d : 0 ≤ a1 ∧ a1 < b.length
    · rw [if_pos d]
      have : w ≤ p1 := by
        cases h2 with
        | no h =>
          have := h 0 (by simp)
          rw [ew] at this
          grind
        | yes k p g1 g2 g3 g4 g5 g6 g7 =>
          obtain ⟨i, rfl⟩ : ∃ i, k = 1 + i := ⟨k - 1, by omega⟩
          have hi : i < o.length := by simp at g1; omega
          have := g3 0 (by simp)
          rw [ew, eo i hi] at this
          have := hmax d i hi
          grind
      grind
    · rw [if_neg d]; exact Rat.le_refl
end Go.Proofs.Ytockjmmogkhepaa.Sh

/- Data of fractions. -/
namespace Go.Proofs.Ytockjmmogkhepaa.Sh
open Go Go.RowKit

/-- The forms of a fraction, of lists of it. -/
def shpFields : Shps := .cons 1 .bool (.cons 1 (.slice 1 (.int .u32)) (.cons 1 (.slice 1 (.int .u32)) .nil))
def shpFr : Shp := .agg shpFields

section
variable {H : Type}

theorem FR.ok_of {b : Bool} {n m : List Int} (ln : n.length ≤ 140737488351232) (lm : m.length ≤ 140737488351232) (wn : ∀ x ∈ n, (Lit.int .u32 x).wf = true) (wm : ∀ x ∈ m, (Lit.int .u32 x).wf = true) : (FR.mk b n m).ok :=
  ⟨fun x hx => wf_u32 (wn x hx), fun x hx => wf_u32 (wm x hx), by show n.length ≤ _; omega, by show m.length ≤ _; omega⟩

theorem fr_of_ok {d : DataW H} (hd : shpFr.ok d) : ∃ f : FR, shpFr.cells d = rowFr f ∧ f.ok := by
  obtain ⟨parts, rfl, d1, p1, rfl, ⟨h1, -⟩, d2, p2, rfl, ⟨h2, -⟩, d3, p3, rfl, ⟨h3, -⟩, rfl⟩ := hd
  obtain ⟨b, e1⟩ := bool_of_ok h1
  obtain ⟨n, e2, ln, wn⟩ := ints_of_ok h2
  obtain ⟨m, e3, lm, wm⟩ := ints_of_ok h3
  refine ⟨⟨b, n, m⟩, ?_, FR.ok_of ln lm wn wm⟩
  show Shp.bool.cells d1 ++ ((Shp.slice 1 (.int .u32)).cells d2 ++ ((Shp.slice 1 (.int .u32)).cells d3 ++ [])) = _
  rw [e1, e2, e3]; rfl

theorem frs_of_ok {d : DataW H} (hd : (Shp.slice 3 shpFr).ok d) : ∃ l : List FR, (Shp.slice 3 shpFr).cells d = [frsS l] ∧ l.length ≤ 140737488351232 ∧ ∀ f ∈ l, f.ok :=
  slice_of_ok (f := rowFr) (fun _ h => fr_of_ok h) hd
end
end Go.Proofs.Ytockjmmogkhepaa.Sh

/- CrowdWeigh: the plain law. -/
namespace Go.Proofs.Ytockjmmogkhepaa.Sh
open Go Go.RowKit

/-- Weights times gains. -/
def wx (w : List Rat) (xs : List FR) : Rat := sumQ (List.zipWith (fun q x => q * x.fix) w xs)

theorem sum_step : ∀ (w : List Rat) (xs : List FR), w.length = xs.length → sumQ (stepW w xs) = sumQ w + (1 / 2) * wx w xs
  | [], _, _ => by simp [stepW, wx, sumQ, Rat.add_zero]
  | q :: w, [], h => by simp at h
  | q :: w, x :: xs, h => by
    have ih := sum_step w xs (by simpa using h)
    simp only [stepW, wx, List.zipWith_cons_cons, sumQ] at ih ⊢
    rw [ih]
    unfold grow
    generalize sumQ (List.zipWith (fun q x => q * FR.fix x) w xs) = A
    generalize sumQ w = B
    generalize x.fix = X
    grind

theorem dot_sum (S : Rat) : ∀ (w : List Rat) (xs : List FR), sumQ (List.zipWith (fun q x => q / S * x.fix) w xs) = wx w xs / S
  | [], _ => by simp [wx, sumQ, Rat.div_def]
  | q :: w, [] => by simp [wx, sumQ, Rat.div_def]
  | q :: w, x :: xs => by
    have ih := dot_sum S w xs
    simp only [wx, List.zipWith_cons_cons, sumQ] at ih ⊢
    rw [ih]
    generalize sumQ (List.zipWith (fun q x => q * FR.fix x) w xs) = A
    generalize x.fix = X
    rw [Rat.div_def, Rat.div_def, Rat.div_def]
    grind

theorem chance_sum (S : Rat) : ∀ (w : List Rat), sumQ (w.map (fun q => q / S)) = sumQ w / S
  | [] => by simp [sumQ, Rat.div_def]
  | q :: w => by
    have ih := chance_sum S w
    simp only [List.map_cons, sumQ] at ih ⊢
    rw [ih, Rat.div_def, Rat.div_def, Rat.div_def]
    grind

theorem le_sum : ∀ {l : List Rat} {q : Rat}, (∀ x ∈ l, 0 < x) → q ∈ l → q ≤ sumQ l
  | [], _, _, h => by cases h
  | x :: l, q, hp, h => by
    have h0 : 0 ≤ sumQ l := by
      by_cases e : l = []
      · rw [e]; exact Rat.le_refl
      · exact Rat.le_of_lt (sumQ_pos e (fun y hy => hp y (List.mem_cons_of_mem _ hy)))
    have hx := hp x (List.mem_cons_self ..)
    simp only [sumQ]
    rcases List.mem_cons.1 h with rfl | h
    · grind
    · have := le_sum (fun y hy => hp y (List.mem_cons_of_mem x hy)) h
      grind

/-- All grows as the definition says. -/
theorem all_step {S A : Rat} (h : S ≠ 0) : S + (1 / 2) * A = grow S (A / S) := by
  unfold grow
  rw [Rat.div_def]
  grind
end Go.Proofs.Ytockjmmogkhepaa.Sh

