/- The statement CrowdNames holds: for every input the law returns true, and its arguments read as before. -/
import Derived.Test.YtockjmmogkhepaaL13
import Derived.Test.YtockjmmogkhepaaRows
set_option linter.unusedSimpArgs false
set_option linter.unusedVariables false
/- CrowdNames: the walk. -/
namespace Go.Proofs.Ytockjmmogkhepaa.Sh
open Go Go.RowKit

def zF : FR := ⟨false, [], []⟩
theorem zF_ok : zF.ok := ⟨(by intro x hx; cases hx), (by intro x hx; cases hx), by decide, by decide⟩
theorem zF_fix : zF.fix = 0 := by decide +kernel

/-- What a sale comes to. -/
def isSec (l : List FR) (a : Int) (q : FR) (e : Int) : Prop :=
  ((12 : Int) < l.length ∧ a = 0 ∧ q = zF ∧ e = 1) ∨ (¬ (12 : Int) < l.length ∧ a = (win (l.map FR.fix)).1 ∧ q = frQ (win (l.map FR.fix)).2 ∧ e = 0)
theorem isSec_of (l : List FR) : ∃ a q e, isSec l a q e := by
  by_cases h : (12 : Int) < l.length
  · exact ⟨_, _, _, Or.inl ⟨h, rfl, rfl, rfl⟩⟩
  · exact ⟨_, _, _, Or.inr ⟨h, rfl, rfl, rfl⟩⟩

set_option maxRecDepth 20000 in
theorem secR_s {l : List FR} {a : Int} {q : FR} {e : Int} (hl : ∀ f ∈ l, f.ok) (h : isSec l a q e) : CallsS Try.prog 21 [.one (frsS l)] (.tup [.one (.int .i64 a), frS q, .one (.int .i64 e)]) := by
  rcases h with ⟨h, rfl, rfl, rfl⟩ | ⟨h, rfl, rfl, rfl⟩
  · refine calls Try.func21 rfl (by rfl) (by rfl) (by kernel_rfl) ?_
    simp -dsimp -implicitDefEqProofs [Try.f21, h, zF]
  · rw [frS_frQ]; exact secondR_s l hl h
set_option maxRecDepth 20000 in
theorem secC_s {l : List FR} {a : Int} {q : FR} {e : Int} (hl : ∀ f ∈ l, f.ok) (h : isSec l a q e) : CallsS Try.prog 22 [.one (frsS l)] (.tup [.one (.int .i64 a), frS q, .one (.int .i64 e)]) := by
  rcases h with ⟨h, rfl, rfl, rfl⟩ | ⟨h, rfl, rfl, rfl⟩
  · refine calls Try.func22 rfl (by rfl) (by rfl) (by kernel_rfl) ?_
    simp -dsimp -implicitDefEqProofs [Try.f22, h, zF]
  · rw [frS_frQ]; exact secondC_s l hl h

/-- A sale among small bids. -/
theorem isSec_small {l : List FR} {a : Int} {q : FR} {e : Int} (h : isSec l a q e) (hl : ∀ f ∈ l, mz f.fix ≤ 6) : q.ok ∧ mz q.fix ≤ 6 := by
  rcases h with ⟨h, rfl, rfl, rfl⟩ | ⟨h, rfl, rfl, rfl⟩
  · exact ⟨zF_ok, by rw [zF_fix, mzs.2.2.1]; omega⟩
  · have hm : mz (win (l.map FR.fix)).2 ≤ 6 := by
      rcases (win_spec (l.map FR.fix)).price_mem with e | e
      · rw [e, mzs.2.2.1]; omega
      · obtain ⟨f, hf, e⟩ := List.mem_map.1 e
        rw [← e]; exact hl f hf
    exact ⟨ok_mz (by omega), by rw [fix_mz (by omega)]; exact hm⟩
theorem isSec_win {l : List FR} {a : Int} {q : FR} (h : isSec l a q 0) (hl : ∀ f ∈ l, mz f.fix ≤ 6) : Win (l.map FR.fix) a q.fix := by
  have h2 := isSec_small h hl
  rcases h with ⟨h, rfl, rfl, e⟩ | ⟨h, rfl, rfl, -⟩
  · cases e
  · rw [show (frQ (win (l.map FR.fix)).2).fix = (win (l.map FR.fix)).2 from ?_]
    · exact win_spec _
    · have hm : mz (win (l.map FR.fix)).2 ≤ 6 := by
        rcases (win_spec (l.map FR.fix)).price_mem with e | e
        · rw [e, mzs.2.2.1]; omega
        · obtain ⟨f, hf, e⟩ := List.mem_map.1 e
          rw [← e]; exact hl f hf
      exact fix_mz (by omega)
theorem isSec_err {l : List FR} {a : Int} {q : FR} {e : Int} (h : isSec l a q e) : e = 0 ∨ (e = 1 ∧ (12 : Int) < l.length) := by
  rcases h with ⟨h, _, _, rfl⟩ | ⟨_, _, _, rfl⟩
  · exact Or.inr ⟨rfl, h⟩
  · exact Or.inl rfl

theorem cmpQ_le {p q : Rat} : cmpQ p q ≤ 0 ↔ p ≤ q := by
  have := @cmpQ_pos p q
  rw [← Rat.not_lt, ← this]; omega
theorem sgnQ_ge {q : Rat} : 0 ≤ sgnQ q ↔ 0 ≤ q := by
  have := @sgnQ_neg q
  rw [← Rat.not_lt, ← this]; omega

set_option maxRecDepth 20000 in
set_option maxHeartbeats 8000000 in
theorem crowdNames_s (o : List FR) (W : FR) (b : List FR) (ahead : Bool) (ho : ∀ f ∈ o, f.ok) (hb : ∀ f ∈ b, f.ok) (hW : W.ok) :
    CallsS Try.prog 5 [.one (frsS o), .agg [.bool W.neg, wS W.num, wS W.den, frsS b], .one (.bool ahead)] (B true) := by
  refine calls Try.func5 rfl (by rfl) (by rfl) (by kernel_rfl) ?_
  by_cases c1 : (20 : Int) < o.length
  · simp -dsimp -implicitDefEqProofs [Try.f5, c1]
  by_cases c2 : (20 : Int) < b.length
  · simp -dsimp -implicitDefEqProofs [Try.f5, c1, c2]
  simp -dsimp -implicitDefEqProofs [Try.f5, c1, c2]
  refine eCall.of (wideF_s o 6 ho (by omega) _ rfl) (by simp) ?_
  cases c3 : wideF 6 o
  case true => simp -dsimp -implicitDefEqProofs [c1, c2, c3]
  simp -dsimp -implicitDefEqProofs [c1, c2, c3]
  refine eCall.of (wideF_s b 6 hb (by omega) _ rfl) (by simp) ?_
  cases c4 : wideF 6 b
  case true => simp -dsimp -implicitDefEqProofs [c1, c2, c3, c4]
  simp -dsimp -implicitDefEqProofs [c1, c2, c3, c4]
  refine eCall.of (big_s W hW) (by simp) ?_
  by_cases c5 : (6 : Int) < W.big
  · simp -dsimp -implicitDefEqProofs [c1, c2, c3, c4, c5]
  simp -dsimp -implicitDefEqProofs [c1, c2, c3, c4, c5]
  have so : ∀ f ∈ o, mz f.fix ≤ 6 := fun f hf => fix_big (ho f hf) (by omega) (by have := wideF_not c3 f hf; omega)
  have sb : ∀ f ∈ b, mz f.fix ≤ 6 := fun f hf => fix_big (hb f hf) (by omega) (by have := wideF_not c4 f hf; omega)
  have sW : mz W.fix ≤ 6 := fix_big hW (by omega) (by omega)
  obtain ⟨a0, q0, e0, h0⟩ := isSec_of o
  obtain ⟨k0, m0⟩ := isSec_small h0 so
  have same := sameR_s q0 q0 k0 k0
  rw [decide_eq_true rfl] at same
  refine eCall.of (secR_s ho h0) (by simp) ?_
  simp -dsimp -implicitDefEqProofs
  refine eCall.of (secC_s ho h0) (by simp) ?_
  simp -dsimp -implicitDefEqProofs
  refine eCall.of same (by simp) ?_
  simp -dsimp -implicitDefEqProofs
  refine eCall.of (joined_s o b (by omega) (by omega)) (by simp) ?_
  simp -dsimp -implicitDefEqProofs [slots]
  refine eCall.of (joined_s o [W] (by omega) (by simp)) (by simp [rowsOf, List.range, List.range.loop]) ?_
  have i0 := intR_s 0 (by decide) (by decide)
  rw [show (((0 : Int) : Rat)) = 0 from rfl, ← frS_frQ] at i0
  obtain ⟨Z, hZ⟩ : ∃ Z, Z = frQ 0 := ⟨_, rfl⟩
  have hZ2 : Z.ok ∧ Z.fix = 0 := by rw [hZ]; exact fix_ok (by rw [mzs.2.2.1]; omega)
  rw [← hZ] at i0
  have hsub : ∀ q : FR, q.ok → mz q.fix ≤ 6 → ∃ D : FR, D.ok ∧ D.fix = W.fix - q.fix ∧ CallsS Try.prog 25 [frS W, frS q] (.v (frS D)) := by
    intro q kq mq
    have h1 := mz_add W.fix (-q.fix)
    have h2 : mz (-q.fix) = mz q.fix := by unfold mz; rw [Rat.neg_num, Rat.neg_den, Int.natAbs_neg]
    rw [← Rat.sub_eq_add_neg] at h1
    have := subR_s W q hW kq
    rw [cap_mz (by omega), ← frS_frQ] at this
    exact ⟨_, ok_mz (by omega), fix_mz (by omega), this⟩
  have hfin : ∀ x y : FR, x.ok → y.ok → x.fix ≤ y.fix → 0 ≤ y.fix → ∃ c s : Int, c ≤ 0 ∧ 0 ≤ s ∧ CallsS Try.prog 19 [frS x, frS y] (I .i64 c) ∧ CallsS Try.prog 26 [frS y] (I .i64 s) := fun x y kx ky h1 h2 =>
    ⟨_, _, cmpQ_le.2 h1, sgnQ_ge.2 h2, cmpR_s x y kx ky, signR_s y ky⟩
  cases ahead
  case false =>
    simp -dsimp -implicitDefEqProofs
    have okM : ∀ f ∈ o ++ b, f.ok := by intro f hf; simp at hf; rcases hf with hf | hf; all_goals first | exact ho f hf | exact hb f hf
    have okS : ∀ f ∈ o ++ [W], f.ok := by intro f hf; simp at hf; rcases hf with hf | hf; all_goals first | exact ho f hf | (subst hf; exact hW)
    have smM : ∀ f ∈ o ++ b, mz f.fix ≤ 6 := by intro f hf; simp at hf; rcases hf with hf | hf; all_goals first | exact so f hf | exact sb f hf
    have smS : ∀ f ∈ o ++ [W], mz f.fix ≤ 6 := by intro f hf; simp at hf; rcases hf with hf | hf; all_goals first | exact so f hf | (subst hf; exact sW)
    obtain ⟨a1, q1, e1, h1⟩ := isSec_of (o ++ b)
    obtain ⟨a2, q2, e2, h2⟩ := isSec_of (o ++ [W])
    obtain ⟨k1, m1⟩ := isSec_small h1 smM
    obtain ⟨k2, m2⟩ := isSec_small h2 smS
    have cM := secC_s okM h1
    have cS := secC_s okS h2
    refine eCall.of cM (by simp) ?_
    simp -dsimp -implicitDefEqProofs
    refine eCall.of cS (by simp) ?_
    rcases isSec_err h1 with rfl | ⟨rfl, l1⟩
    case inr =>
      have l1' : 12 < (o.length : Int) + (b.length : Int) := by simpa using l1
      simp -dsimp -implicitDefEqProofs [l1']
    rcases isSec_err h2 with rfl | ⟨rfl, l2⟩
    case inr =>
      have l2' : 12 < (o.length : Int) + 1 := by have := l2; simp at this; omega
      simp -dsimp -implicitDefEqProofs [l2']
    simp -dsimp -implicitDefEqProofs
    have w1 := isSec_win h1 smM
    have w2 := isSec_win h2 smS
    rw [List.map_append] at w1 w2
    have nm := names_behind (o := o.map FR.fix) (b := b.map FR.fix) (w := W.fix) (a1 := a1) (p1 := q1.fix) (a2 := a2) (p2 := q2.fix) w1 w2
    simp only [List.length_map] at nm
    obtain ⟨D1, kD1, fD1, hD1⟩ := hsub q1 k1 m1
    obtain ⟨D2, kD2, fD2, hD2⟩ := hsub q2 k2 m2
    refine eCall.of i0 (by simp) ?_
    by_cases own : (o.length : Int) ≤ a1
    · simp only [if_pos own] at nm
      simp -dsimp -implicitDefEqProofs [own]
      refine eCall.of hD1 (by simp) ?_
      simp -dsimp -implicitDefEqProofs
      refine eCall.of i0 (by simp) ?_
      by_cases tr : a2 = (o.length : Int)
      · simp -dsimp -implicitDefEqProofs [tr]
        refine eCall.of hD2 (by simp) ?_
        simp -dsimp -implicitDefEqProofs
        simp only [if_pos tr] at nm
        obtain ⟨cc, ss, cc1, ss1, hcmp, hsgn⟩ := hfin D1 D2 (by first | exact hZ2.1 | exact kD1 | exact kD2) (by first | exact hZ2.1 | exact kD1 | exact kD2) (by rw [fD1, fD2]; exact nm.2) (by rw [fD2]; exact nm.1)
        refine eCall.of hcmp (by simp) ?_
        simp -dsimp -implicitDefEqProofs [cc1]
        refine eCall.of hsgn (by simp) ?_
        simp -dsimp -implicitDefEqProofs [cc1, ss1]
        refine eCall.of fixed_s (by simp) ?_
        simp -dsimp -implicitDefEqProofs [cc1, ss1]
      · simp -dsimp -implicitDefEqProofs [tr]
        simp only [if_neg tr] at nm
        obtain ⟨cc, ss, cc1, ss1, hcmp, hsgn⟩ := hfin D1 Z (by first | exact hZ2.1 | exact kD1 | exact kD2) (by first | exact hZ2.1 | exact kD1 | exact kD2) (by rw [fD1, hZ2.2]; exact nm.2) (by rw [hZ2.2]; exact Rat.le_refl)
        refine eCall.of hcmp (by simp) ?_
        simp -dsimp -implicitDefEqProofs [cc1]
        refine eCall.of hsgn (by simp) ?_
        simp -dsimp -implicitDefEqProofs [cc1, ss1]
        refine eCall.of fixed_s (by simp) ?_
        simp -dsimp -implicitDefEqProofs [cc1, ss1]
    · simp only [if_neg own] at nm
      by_cases g1 : 0 ≤ a1
      · by_cases g2 : a1 < (b.length : Int)
        · simp -dsimp -implicitDefEqProofs [own, g1, g2]
          refine eCall.of i0 (by simp) ?_
          by_cases tr : a2 = (o.length : Int)
          · simp -dsimp -implicitDefEqProofs [tr]
            refine eCall.of hD2 (by simp) ?_
            simp -dsimp -implicitDefEqProofs
            simp only [if_pos tr] at nm
            obtain ⟨cc, ss, cc1, ss1, hcmp, hsgn⟩ := hfin Z D2 (by first | exact hZ2.1 | exact kD1 | exact kD2) (by first | exact hZ2.1 | exact kD1 | exact kD2) (by rw [hZ2.2, fD2]; exact nm.2) (by rw [fD2]; exact nm.1)
            refine eCall.of hcmp (by simp) ?_
            simp -dsimp -implicitDefEqProofs [cc1]
            refine eCall.of hsgn (by simp) ?_
            simp -dsimp -implicitDefEqProofs [cc1, ss1]
            refine eCall.of fixed_s (by simp) ?_
            simp -dsimp -implicitDefEqProofs [cc1, ss1]
          · simp -dsimp -implicitDefEqProofs [tr]
            simp only [if_neg tr] at nm
            obtain ⟨cc, ss, cc1, ss1, hcmp, hsgn⟩ := hfin Z Z (by first | exact hZ2.1 | exact kD1 | exact kD2) (by first | exact hZ2.1 | exact kD1 | exact kD2) (Rat.le_refl) (by rw [hZ2.2]; exact Rat.le_refl)
            refine eCall.of hcmp (by simp) ?_
            simp -dsimp -implicitDefEqProofs [cc1]
            refine eCall.of hsgn (by simp) ?_
            simp -dsimp -implicitDefEqProofs [cc1, ss1]
            refine eCall.of fixed_s (by simp) ?_
            simp -dsimp -implicitDefEqProofs [cc1, ss1]
        · simp -dsimp -implicitDefEqProofs [own, g1, g2]
          refine eCall.of i0 (by simp) ?_
          by_cases tr : a2 = (o.length : Int)
          · simp -dsimp -implicitDefEqProofs [tr]
            refine eCall.of hD2 (by simp) ?_
            simp -dsimp -implicitDefEqProofs
            simp only [if_pos tr] at nm
            obtain ⟨cc, ss, cc1, ss1, hcmp, hsgn⟩ := hfin Z D2 (by first | exact hZ2.1 | exact kD1 | exact kD2) (by first | exact hZ2.1 | exact kD1 | exact kD2) (by rw [hZ2.2, fD2]; exact nm.2) (by rw [fD2]; exact nm.1)
            refine eCall.of hcmp (by simp) ?_
            simp -dsimp -implicitDefEqProofs [cc1]
            refine eCall.of hsgn (by simp) ?_
            simp -dsimp -implicitDefEqProofs [cc1, ss1]
            refine eCall.of fixed_s (by simp) ?_
            simp -dsimp -implicitDefEqProofs [cc1, ss1]
          · simp -dsimp -implicitDefEqProofs [tr]
            simp only [if_neg tr] at nm
            obtain ⟨cc, ss, cc1, ss1, hcmp, hsgn⟩ := hfin Z Z (by first | exact hZ2.1 | exact kD1 | exact kD2) (by first | exact hZ2.1 | exact kD1 | exact kD2) (Rat.le_refl) (by rw [hZ2.2]; exact Rat.le_refl)
            refine eCall.of hcmp (by simp) ?_
            simp -dsimp -implicitDefEqProofs [cc1]
            refine eCall.of hsgn (by simp) ?_
            simp -dsimp -implicitDefEqProofs [cc1, ss1]
            refine eCall.of fixed_s (by simp) ?_
            simp -dsimp -implicitDefEqProofs [cc1, ss1]
      · simp -dsimp -implicitDefEqProofs [own, g1]
        refine eCall.of i0 (by simp) ?_
        by_cases tr : a2 = (o.length : Int)
        · simp -dsimp -implicitDefEqProofs [tr]
          refine eCall.of hD2 (by simp) ?_
          simp -dsimp -implicitDefEqProofs
          simp only [if_pos tr] at nm
          obtain ⟨cc, ss, cc1, ss1, hcmp, hsgn⟩ := hfin Z D2 (by first | exact hZ2.1 | exact kD1 | exact kD2) (by first | exact hZ2.1 | exact kD1 | exact kD2) (by rw [hZ2.2, fD2]; exact nm.2) (by rw [fD2]; exact nm.1)
          refine eCall.of hcmp (by simp) ?_
          simp -dsimp -implicitDefEqProofs [cc1]
          refine eCall.of hsgn (by simp) ?_
          simp -dsimp -implicitDefEqProofs [cc1, ss1]
          refine eCall.of fixed_s (by simp) ?_
          simp -dsimp -implicitDefEqProofs [cc1, ss1]
        · simp -dsimp -implicitDefEqProofs [tr]
          simp only [if_neg tr] at nm
          obtain ⟨cc, ss, cc1, ss1, hcmp, hsgn⟩ := hfin Z Z (by first | exact hZ2.1 | exact kD1 | exact kD2) (by first | exact hZ2.1 | exact kD1 | exact kD2) (Rat.le_refl) (by rw [hZ2.2]; exact Rat.le_refl)
          refine eCall.of hcmp (by simp) ?_
          simp -dsimp -implicitDefEqProofs [cc1]
          refine eCall.of hsgn (by simp) ?_
          simp -dsimp -implicitDefEqProofs [cc1, ss1]
          refine eCall.of fixed_s (by simp) ?_
          simp -dsimp -implicitDefEqProofs [cc1, ss1]
  case true =>
    simp -dsimp -implicitDefEqProofs
    refine eCall.of (joined_s b o (by omega) (by omega)) (by simp) ?_
    simp -dsimp -implicitDefEqProofs [slots]
    refine eCall.of (joined_s [W] o (by simp) (by omega)) (by simp [rowsOf, List.range, List.range.loop]) ?_
    simp -dsimp -implicitDefEqProofs
    have okM : ∀ f ∈ b ++ o, f.ok := by intro f hf; simp at hf; rcases hf with hf | hf; all_goals first | exact ho f hf | exact hb f hf
    have okS : ∀ f ∈ [W] ++ o, f.ok := by intro f hf; simp at hf; rcases hf with hf | hf; all_goals first | exact ho f hf | (subst hf; exact hW)
    have smM : ∀ f ∈ b ++ o, mz f.fix ≤ 6 := by intro f hf; simp at hf; rcases hf with hf | hf; all_goals first | exact so f hf | exact sb f hf
    have smS : ∀ f ∈ [W] ++ o, mz f.fix ≤ 6 := by intro f hf; simp at hf; rcases hf with hf | hf; all_goals first | exact so f hf | (subst hf; exact sW)
    obtain ⟨a1, q1, e1, h1⟩ := isSec_of (b ++ o)
    obtain ⟨a2, q2, e2, h2⟩ := isSec_of ([W] ++ o)
    obtain ⟨k1, m1⟩ := isSec_small h1 smM
    obtain ⟨k2, m2⟩ := isSec_small h2 smS
    have cM := secC_s okM h1
    have cS := secC_s okS h2
    refine eCall.of cM (by simp) ?_
    simp -dsimp -implicitDefEqProofs
    refine eCall.of cS (by simp) ?_
    rcases isSec_err h1 with rfl | ⟨rfl, l1⟩
    case inr =>
      have l1' : 12 < (b.length : Int) + (o.length : Int) := by simpa using l1
      simp -dsimp -implicitDefEqProofs [l1']
    rcases isSec_err h2 with rfl | ⟨rfl, l2⟩
    case inr =>
      have l2' : 12 < (o.length : Int) + 1 := by have := l2; simp at this; omega
      simp -dsimp -implicitDefEqProofs [l2']
    simp -dsimp -implicitDefEqProofs
    have w1 := isSec_win h1 smM
    have w2 := isSec_win h2 smS
    rw [List.map_append] at w1 w2
    have nm := names_ahead (o := o.map FR.fix) (b := b.map FR.fix) (w := W.fix) (a1 := a1) (p1 := q1.fix) (a2 := a2) (p2 := q2.fix) w1 w2
    simp only [List.length_map] at nm
    obtain ⟨D1, kD1, fD1, hD1⟩ := hsub q1 k1 m1
    obtain ⟨D2, kD2, fD2, hD2⟩ := hsub q2 k2 m2
    refine eCall.of i0 (by simp) ?_
    by_cases g1 : 0 ≤ a1
    · by_cases g2 : a1 < (b.length : Int)
      · have own : 0 ≤ a1 ∧ a1 < (b.length : Int) := ⟨g1, g2⟩
        simp only [if_pos own] at nm
        by_cases g3 : (o.length : Int) ≤ a1
        · simp -dsimp -implicitDefEqProofs [g1, g2, g3]
          refine eCall.of hD1 (by simp) ?_
          simp -dsimp -implicitDefEqProofs
          refine eCall.of i0 (by simp) ?_
          by_cases tr : a2 = 0
          · simp -dsimp -implicitDefEqProofs [tr]
            refine eCall.of hD2 (by simp) ?_
            simp -dsimp -implicitDefEqProofs
            simp only [if_pos tr] at nm
            obtain ⟨cc, ss, cc1, ss1, hcmp, hsgn⟩ := hfin D1 D2 (by first | exact hZ2.1 | exact kD1 | exact kD2) (by first | exact hZ2.1 | exact kD1 | exact kD2) (by rw [fD1, fD2]; exact nm.2) (by rw [fD2]; exact nm.1)
            refine eCall.of hcmp (by simp) ?_
            simp -dsimp -implicitDefEqProofs [cc1]
            refine eCall.of hsgn (by simp) ?_
            simp -dsimp -implicitDefEqProofs [cc1, ss1]
            refine eCall.of fixed_s (by simp) ?_
            simp -dsimp -implicitDefEqProofs [cc1, ss1]
          · simp -dsimp -implicitDefEqProofs [tr]
            simp only [if_neg tr] at nm
            obtain ⟨cc, ss, cc1, ss1, hcmp, hsgn⟩ := hfin D1 Z (by first | exact hZ2.1 | exact kD1 | exact kD2) (by first | exact hZ2.1 | exact kD1 | exact kD2) (by rw [fD1, hZ2.2]; exact nm.2) (by rw [hZ2.2]; exact Rat.le_refl)
            refine eCall.of hcmp (by simp) ?_
            simp -dsimp -implicitDefEqProofs [cc1]
            refine eCall.of hsgn (by simp) ?_
            simp -dsimp -implicitDefEqProofs [cc1, ss1]
            refine eCall.of fixed_s (by simp) ?_
            simp -dsimp -implicitDefEqProofs [cc1, ss1]
        · simp -dsimp -implicitDefEqProofs [g1, g2, g3]
          refine eCall.of hD1 (by simp) ?_
          simp -dsimp -implicitDefEqProofs
          refine eCall.of i0 (by simp) ?_
          by_cases tr : a2 = 0
          · simp -dsimp -implicitDefEqProofs [tr]
            refine eCall.of hD2 (by simp) ?_
            simp -dsimp -implicitDefEqProofs
            simp only [if_pos tr] at nm
            obtain ⟨cc, ss, cc1, ss1, hcmp, hsgn⟩ := hfin D1 D2 (by first | exact hZ2.1 | exact kD1 | exact kD2) (by first | exact hZ2.1 | exact kD1 | exact kD2) (by rw [fD1, fD2]; exact nm.2) (by rw [fD2]; exact nm.1)
            refine eCall.of hcmp (by simp) ?_
            simp -dsimp -implicitDefEqProofs [cc1]
            refine eCall.of hsgn (by simp) ?_
            simp -dsimp -implicitDefEqProofs [cc1, ss1]
            refine eCall.of fixed_s (by simp) ?_
            simp -dsimp -implicitDefEqProofs [cc1, ss1]
          · simp -dsimp -implicitDefEqProofs [tr]
            simp only [if_neg tr] at nm
            obtain ⟨cc, ss, cc1, ss1, hcmp, hsgn⟩ := hfin D1 Z (by first | exact hZ2.1 | exact kD1 | exact kD2) (by first | exact hZ2.1 | exact kD1 | exact kD2) (by rw [fD1, hZ2.2]; exact nm.2) (by rw [hZ2.2]; exact Rat.le_refl)
            refine eCall.of hcmp (by simp) ?_
            simp -dsimp -implicitDefEqProofs [cc1]
            refine eCall.of hsgn (by simp) ?_
            simp -dsimp -implicitDefEqProofs [cc1, ss1]
            refine eCall.of fixed_s (by simp) ?_
            simp -dsimp -implicitDefEqProofs [cc1, ss1]
      · have own : ¬ (0 ≤ a1 ∧ a1 < (b.length : Int)) := fun h => g2 h.2
        simp only [if_neg own] at nm
        by_cases g3 : (o.length : Int) ≤ a1
        · simp -dsimp -implicitDefEqProofs [g1, g2, g3]
          refine eCall.of i0 (by simp) ?_
          by_cases tr : a2 = 0
          · simp -dsimp -implicitDefEqProofs [tr]
            refine eCall.of hD2 (by simp) ?_
            simp -dsimp -implicitDefEqProofs
            simp only [if_pos tr] at nm
            obtain ⟨cc, ss, cc1, ss1, hcmp, hsgn⟩ := hfin Z D2 (by first | exact hZ2.1 | exact kD1 | exact kD2) (by first | exact hZ2.1 | exact kD1 | exact kD2) (by rw [hZ2.2, fD2]; exact nm.2) (by rw [fD2]; exact nm.1)
            refine eCall.of hcmp (by simp) ?_
            simp -dsimp -implicitDefEqProofs [cc1]
            refine eCall.of hsgn (by simp) ?_
            simp -dsimp -implicitDefEqProofs [cc1, ss1]
            refine eCall.of fixed_s (by simp) ?_
            simp -dsimp -implicitDefEqProofs [cc1, ss1]
          · simp -dsimp -implicitDefEqProofs [tr]
            simp only [if_neg tr] at nm
            obtain ⟨cc, ss, cc1, ss1, hcmp, hsgn⟩ := hfin Z Z (by first | exact hZ2.1 | exact kD1 | exact kD2) (by first | exact hZ2.1 | exact kD1 | exact kD2) (Rat.le_refl) (by rw [hZ2.2]; exact Rat.le_refl)
            refine eCall.of hcmp (by simp) ?_
            simp -dsimp -implicitDefEqProofs [cc1]
            refine eCall.of hsgn (by simp) ?_
            simp -dsimp -implicitDefEqProofs [cc1, ss1]
            refine eCall.of fixed_s (by simp) ?_
            simp -dsimp -implicitDefEqProofs [cc1, ss1]
        · simp -dsimp -implicitDefEqProofs [g1, g2, g3]
          refine eCall.of i0 (by simp) ?_
          by_cases tr : a2 = 0
          · simp -dsimp -implicitDefEqProofs [tr]
            refine eCall.of hD2 (by simp) ?_
            simp -dsimp -implicitDefEqProofs
            simp only [if_pos tr] at nm
            obtain ⟨cc, ss, cc1, ss1, hcmp, hsgn⟩ := hfin Z D2 (by first | exact hZ2.1 | exact kD1 | exact kD2) (by first | exact hZ2.1 | exact kD1 | exact kD2) (by rw [hZ2.2, fD2]; exact nm.2) (by rw [fD2]; exact nm.1)
            refine eCall.of hcmp (by simp) ?_
            simp -dsimp -implicitDefEqProofs [cc1]
            refine eCall.of hsgn (by simp) ?_
            simp -dsimp -implicitDefEqProofs [cc1, ss1]
            refine eCall.of fixed_s (by simp) ?_
            simp -dsimp -implicitDefEqProofs [cc1, ss1]
          · simp -dsimp -implicitDefEqProofs [tr]
            simp only [if_neg tr] at nm
            obtain ⟨cc, ss, cc1, ss1, hcmp, hsgn⟩ := hfin Z Z (by first | exact hZ2.1 | exact kD1 | exact kD2) (by first | exact hZ2.1 | exact kD1 | exact kD2) (Rat.le_refl) (by rw [hZ2.2]; exact Rat.le_refl)
            refine eCall.of hcmp (by simp) ?_
            simp -dsimp -implicitDefEqProofs [cc1]
            refine eCall.of hsgn (by simp) ?_
            simp -dsimp -implicitDefEqProofs [cc1, ss1]
            refine eCall.of fixed_s (by simp) ?_
            simp -dsimp -implicitDefEqProofs [cc1, ss1]
    · have own : ¬ (0 ≤ a1 ∧ a1 < (b.length : Int)) := fun h => g1 h.1
      simp only [if_neg own] at nm
      by_cases g3 : (o.length : Int) ≤ a1
      · simp -dsimp -implicitDefEqProofs [g1, g3]
        refine eCall.of i0 (by simp) ?_
        by_cases tr : a2 = 0
        · simp -dsimp -implicitDefEqProofs [tr]
          refine eCall.of hD2 (by simp) ?_
          simp -dsimp -implicitDefEqProofs
          simp only [if_pos tr] at nm
          obtain ⟨cc, ss, cc1, ss1, hcmp, hsgn⟩ := hfin Z D2 (by first | exact hZ2.1 | exact kD1 | exact kD2) (by first | exact hZ2.1 | exact kD1 | exact kD2) (by rw [hZ2.2, fD2]; exact nm.2) (by rw [fD2]; exact nm.1)
          refine eCall.of hcmp (by simp) ?_
          simp -dsimp -implicitDefEqProofs [cc1]
          refine eCall.of hsgn (by simp) ?_
          simp -dsimp -implicitDefEqProofs [cc1, ss1]
          refine eCall.of fixed_s (by simp) ?_
          simp -dsimp -implicitDefEqProofs [cc1, ss1]
        · simp -dsimp -implicitDefEqProofs [tr]
          simp only [if_neg tr] at nm
          obtain ⟨cc, ss, cc1, ss1, hcmp, hsgn⟩ := hfin Z Z (by first | exact hZ2.1 | exact kD1 | exact kD2) (by first | exact hZ2.1 | exact kD1 | exact kD2) (Rat.le_refl) (by rw [hZ2.2]; exact Rat.le_refl)
          refine eCall.of hcmp (by simp) ?_
          simp -dsimp -implicitDefEqProofs [cc1]
          refine eCall.of hsgn (by simp) ?_
          simp -dsimp -implicitDefEqProofs [cc1, ss1]
          refine eCall.of fixed_s (by simp) ?_
          simp -dsimp -implicitDefEqProofs [cc1, ss1]
      · simp -dsimp -implicitDefEqProofs [g1, g3]
        refine eCall.of i0 (by simp) ?_
        by_cases tr : a2 = 0
        · simp -dsimp -implicitDefEqProofs [tr]
          refine eCall.of hD2 (by simp) ?_
          simp -dsimp -implicitDefEqProofs
          simp only [if_pos tr] at nm
          obtain ⟨cc, ss, cc1, ss1, hcmp, hsgn⟩ := hfin Z D2 (by first | exact hZ2.1 | exact kD1 | exact kD2) (by first | exact hZ2.1 | exact kD1 | exact kD2) (by rw [hZ2.2, fD2]; exact nm.2) (by rw [fD2]; exact nm.1)
          refine eCall.of hcmp (by simp) ?_
          simp -dsimp -implicitDefEqProofs [cc1]
          refine eCall.of hsgn (by simp) ?_
          simp -dsimp -implicitDefEqProofs [cc1, ss1]
          refine eCall.of fixed_s (by simp) ?_
          simp -dsimp -implicitDefEqProofs [cc1, ss1]
        · simp -dsimp -implicitDefEqProofs [tr]
          simp only [if_neg tr] at nm
          obtain ⟨cc, ss, cc1, ss1, hcmp, hsgn⟩ := hfin Z Z (by first | exact hZ2.1 | exact kD1 | exact kD2) (by first | exact hZ2.1 | exact kD1 | exact kD2) (Rat.le_refl) (by rw [hZ2.2]; exact Rat.le_refl)
          refine eCall.of hcmp (by simp) ?_
          simp -dsimp -implicitDefEqProofs [cc1]
          refine eCall.of hsgn (by simp) ?_
          simp -dsimp -implicitDefEqProofs [cc1, ss1]
          refine eCall.of fixed_s (by simp) ?_
          simp -dsimp -implicitDefEqProofs [cc1, ss1]
end Go.Proofs.Ytockjmmogkhepaa.Sh

namespace Go.Proofs.Ytockjmmogkhepaa.crowdNames
open Go.Proofs.Ytockjmmogkhepaa.Sh Go.RowKit

theorem own : ownKnob Try.prog.godebug = none := by kernel_rfl
theorem laidOut : laidOutB Try.prog = true := by kernel_rfl

def shpNames : Shp := .agg (.cons 3 shpFr (.cons 1 (.slice 3 shpFr) .nil))
theorem names_of_ok {H : Type} {d : DataW H} (hd : shpNames.ok d) : ∃ (W : FR) (b : List FR), shpNames.cells d = [.bool W.neg, wS W.num, wS W.den, frsS b] ∧ W.ok ∧ ∀ f ∈ b, f.ok := by
  obtain ⟨parts, rfl, d1, p1, rfl, ⟨h1, -⟩, d2, p2, rfl, ⟨h2, -⟩, rfl⟩ := hd
  obtain ⟨W, e1, w1⟩ := fr_of_ok h1
  obtain ⟨b, e2, -, w2⟩ := frs_of_ok h2
  refine ⟨W, b, ?_, w1, w2⟩
  show shpFr.cells d1 ++ ((Shp.slice 3 shpFr).cells d2 ++ []) = _
  rw [e1, e2]; rfl

set_option maxRecDepth 100000 in
theorem call {H : Type} (ds : List (DataW H)) (h : Shp.okAll [.slice 3 shpFr, shpNames, .bool] ds) : CallsS Try.prog 5 (Shp.svAll [.slice 3 shpFr, shpNames, .bool] ds) (B true) := by
  obtain ⟨d1, ds, rfl, h1, h⟩ := okAll_cons h
  obtain ⟨d2, ds, rfl, h2, h⟩ := okAll_cons h
  obtain ⟨d3, ds, rfl, h3, h⟩ := okAll_cons h
  obtain rfl := okAll_nil h
  obtain ⟨o, e1, l1, w1⟩ := frs_of_ok h1
  obtain ⟨W, b, e2, w2, w3⟩ := names_of_ok h2
  obtain ⟨a, e3⟩ := bool_of_ok h3
  rw [svAll_cons, svAll_cons, svAll_cons, svAll_nil, sv_slice, show shpNames.sv d2 = .agg (shpNames.cells d2) from rfl, sv_bool, e1, e2, e3, List.headD_cons, List.headD_cons]
  exact crowdNames_s o W b a w1 w3 w2

set_option maxRecDepth 100000 in
theorem lifted (os : Os) (started : os.Started) (H : Type) (enc : TypeId × Value → H) :
    ReturnsInHanded {} Try.checked os 5 .any (Rows.crowdNamesSpec.pre6 enc Try.prog Try.f5 Rows.crowdNamesRow.domain false) (Rows.crowdNamesSpec.post enc Try.prog Try.f5 false true false false) := by
  refine returnsInHanded_of_change_sized (C := Try.checked) own started (by kernel_rfl) Try.func5
    (ChangeSpec.witness6 (enc := enc) (C := Try.checked) false ⟨#[], #[.slice none 0 0, .agg #[.bool false, .slice none 0 0, .slice none 0 0, .slice none 0 0], .bool false], []⟩ 8 (by kernel_rfl) (by kernel_rfl) (by kernel_rfl) (by kernel_rfl)) ?_
  intro W base args ds gs before hval hW _ hsz _
  exact law_post (shs := [.slice 3 shpFr, shpNames, .bool]) laidOut (by kernel_rfl) (by kernel_rfl) rfl (by kernel_rfl) rfl
    (fun ds h => by
      have h2 : ds.length = 3 := h
      match ds, h2 with
      | [d1, d2, d3], _ => rfl) (fun ds h => call ds h) hval hW hsz

theorem over : Rows.crowdNamesRow.holds Try.pinned (OpenSpec.ofChange Rows.crowdNamesSpec) :=
  OpenClaim.holds_of_wide 5 Try.f5 rfl rfl rfl rfl rfl rfl rfl ⟨rfl, rfl, rfl, rfl, rfl⟩ rfl rfl rfl rfl rfl (by kernel_rfl) Try.func5 (by kernel_rfl)
    (of_decide_eq_true (by kernel_rfl)) (by unfold Func.isWrapper; first | (rw [if_pos (by decide +kernel)]; kernel_rfl) | (rw [if_neg (by decide +kernel)]; exact ⟨rfl, rfl⟩))
    (fun os started H enc _ => lifted os started H enc)
theorem proved : Rows.CrowdNamesSaid := over
#print axioms proved
end Go.Proofs.Ytockjmmogkhepaa.crowdNames
