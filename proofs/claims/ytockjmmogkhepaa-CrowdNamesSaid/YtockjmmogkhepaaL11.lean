/- A part of the proof: R8, R9, R10, R11, R12, R15, R16, R17 -/
import Derived.Test.YtockjmmogkhepaaL10
set_option linter.unusedSimpArgs false
set_option linter.unusedVariables false
/- Fractions: the reference's told functions. -/
namespace Go.Proofs.Ytockjmmogkhepaa.Sh
open Go Go.RowKit

theorem mkQ_int (n : Int) : mkQ (decide (n < 0)) n.natAbs 1 = (n : Rat) := by
  have := mkQ_self (n : Rat)
  rw [Rat.num_intCast, Rat.den_intCast] at this
  exact this

set_option maxRecDepth 20000 in
theorem intR_s (n : Int) (h0 : -9223372036854775808 ≤ n) (h1 : n < 9223372036854775808) : CallsS Try.prog 14 [.one (.int .i64 n)] (.v (fS (n : Rat))) := by
  have hw := wl_u64 (n := n.natAbs) (by omega)
  have hl := lowest_s (decide (n < 0)) n.natAbs 1 (by decide) (by omega) (by rw [wl_one]; omega)
  rw [mkQ_int, cap_of (by have := sz_int n h0 h1; omega)] at hl
  generalize (n : Rat) = Q at *
  refine calls Try.func14 rfl (by rfl) (by rfl) (by kernel_rfl) ?_
  by_cases hn : n < 0
  · have w1 : IntKind.i64.wrap (n + 1) = n + 1 := wrap_i64 _ (by omega) (by omega)
    have w2 : IntKind.i64.wrap (-(n + 1)) = -(n + 1) := wrap_i64 _ (by omega) (by omega)
    have w3 : IntKind.u64.wrap (-(n + 1)) = -(n + 1) := wrap_u64_id _ (by omega) (by omega)
    have w4 : IntKind.u64.wrap (-(n + 1) + 1) = (n.natAbs : Int) := by rw [wrap_u64_id _ (by omega) (by omega)]; omega
    simp -dsimp -implicitDefEqProofs [Try.f14, hn, w1, w2, w3, w4]
    refine eCall.of (wide_s n.natAbs (by omega)) (by simp) ?_
    simp -dsimp -implicitDefEqProofs
    refine eCall.of oneR_s (by simp) ?_
    simp -dsimp -implicitDefEqProofs
    refine eCall.of hl (by simp [hn]) ?_
    simp -dsimp -implicitDefEqProofs
  · have w3 : IntKind.u64.wrap n = (n.natAbs : Int) := by rw [wrap_u64_id _ (by omega) (by omega)]; omega
    simp -dsimp -implicitDefEqProofs [Try.f14, hn, w3]
    refine eCall.of (wide_s n.natAbs (by omega)) (by simp) ?_
    simp -dsimp -implicitDefEqProofs
    refine eCall.of oneR_s (by simp) ?_
    simp -dsimp -implicitDefEqProofs
    refine eCall.of hl (by simp [Int.not_lt.1 hn]) ?_
    simp -dsimp -implicitDefEqProofs

set_option maxRecDepth 20000 in
set_option maxHeartbeats 2000000 in
theorem rightR_s (f : FR) (hi : f.ok) : CallsS Try.prog 67 [frS f] (B f.right) := by
  obtain ⟨neg, num, den⟩ := f
  obtain ⟨i1, i2, i3, i4⟩ := hi
  simp only at i1 i2 i3 i4
  unfold FR.right
  simp only
  have w : IntKind.i64.wrap ((num.length : Int) + den.length) = (num.length : Int) + den.length := wrap_i64 _ (by omega) (by omega)
  refine calls Try.func67 rfl (by rfl) (by rfl) (by kernel_rfl) ?_
  by_cases d0 : den.length = 0
  · have d0' : den = [] := List.length_eq_zero_iff.1 d0
    subst d0'
    simp -dsimp -implicitDefEqProofs [Try.f67]
  · have d0' : ¬ den = [] := fun h => d0 (by rw [h]; rfl)
    rw [if_neg d0]
    by_cases hs : 4096 < num.length + den.length
    · have hs' : (4096 : Int) < (num.length : Int) + den.length := by omega
      rw [if_pos hs]
      by_cases c1 : (4096 : Int) < num.length
      · simp -dsimp -implicitDefEqProofs [Try.f67, d0, d0', w, c1]
      · by_cases c2 : (4096 : Int) < den.length
        · simp -dsimp -implicitDefEqProofs [Try.f67, d0, d0', w, c1, c2]
        · simp -dsimp -implicitDefEqProofs [Try.f67, d0, d0', w, c1, c2, hs']
    · have hs' : ¬ (4096 : Int) < (num.length : Int) + den.length := by omega
      have c1 : ¬ (4096 : Int) < num.length := by omega
      have c2 : ¬ (4096 : Int) < den.length := by omega
      have wd : IntKind.i64.wrap ((den.length : Int) - 1) = ((den.length - 1 : Nat) : Int) := by rw [wrap_i64 _ (by omega) (by omega)]; omega
      have gd : den[den.length - 1]? = some (at0 den (den.length - 1)) := by rw [at0_lt (by omega), List.getElem?_eq_getElem]
      rw [if_neg hs]
      by_cases hl : at0 den (den.length - 1) = 0
      · simp -dsimp -implicitDefEqProofs [Try.f67, d0, d0', w, c1, c2, hs', wd, gd, hl]
        omega
      · rw [if_neg hl]
        simp -dsimp -implicitDefEqProofs [Try.f67, d0, d0', w, c1, c2, hs', wd, gd, hl]
        refine ⟨by omega, ?_⟩
        have d1 : den = [1] ↔ (den.length = 1 ∧ den[0]? = some 1) := by
          constructor
          · rintro rfl; exact ⟨rfl, rfl⟩
          · rintro ⟨h1, h2⟩
            obtain ⟨x, rfl⟩ := List.length_eq_one_iff.1 h1
            simpa using h2
        by_cases n0 : num.length = 0
        · have en : num = [] := List.length_eq_zero_iff.1 n0
          subst en
          cases neg
          · by_cases l1 : den.length = 1
            · obtain ⟨x, rfl⟩ := List.length_eq_one_iff.1 l1
              simp -dsimp -implicitDefEqProofs
              rfl
            · have l1' : ¬ (den.length : Int) = 1 := by omega
              have : ¬ den = [1] := fun h => l1 (d1.1 h).1
              simp -dsimp -implicitDefEqProofs [l1, l1', this]
          · simp -dsimp -implicitDefEqProofs
        · rw [if_neg n0]
          have wn : IntKind.i64.wrap ((num.length : Int) - 1) = ((num.length - 1 : Nat) : Int) := by rw [wrap_i64 _ (by omega) (by omega)]; omega
          have gn : num[num.length - 1]? = some (at0 num (num.length - 1)) := by rw [at0_lt (by omega), List.getElem?_eq_getElem]
          have en : ¬ num = [] := fun h => n0 (by rw [h]; rfl)
          by_cases hn : at0 num (num.length - 1) = 0
          · simp -dsimp -implicitDefEqProofs [n0, en, wn, gn, hn]
            omega
          · rw [if_neg hn]
            simp -dsimp -implicitDefEqProofs [n0, en, wn, gn, hn]
            refine ⟨by omega, ?_⟩
            obtain ⟨e1, v1⟩ := toW_of i1 n0 hn
            obtain ⟨e2, v2⟩ := toW_of i2 d0 hl
            generalize (val num).toNat = a at *
            generalize (val den).toNat = b at *
            subst e1 e2
            have hg0 : Nat.gcd a b ≠ 0 := by intro h; exact v2 (Nat.eq_zero_of_gcd_eq_zero_right h)
            by_cases b1 : b = 1
            · subst b1
              simp -dsimp -implicitDefEqProofs [toW_one]
            · by_cases bl1 : (toW b).length = 1
              · have b2 := len_one v2 bl1
                have b3 : (toW b)[0] = (b : Int) := by rw [List.getElem_eq_iff]; exact b2
                have b4 : ¬ (b : Int) = 1 := by omega
                have bl1' : ((toW b).length : Int) = 1 := by omega
                simp -dsimp -implicitDefEqProofs [bl1, bl1', b2, b3, b4]
                refine eCall.of (common_s a b (by omega) (by omega)) (by simp) ?_
                by_cases g1 : Nat.gcd a b = 1
                · simp -dsimp -implicitDefEqProofs [g1, toW_one]
                · by_cases gl : (toW (Nat.gcd a b)).length = 1
                  · have g2 := len_one hg0 gl
                    have g3 : (toW (Nat.gcd a b))[0] = ((Nat.gcd a b : Nat) : Int) := by rw [List.getElem_eq_iff]; exact g2
                    have gl' : ((toW (Nat.gcd a b)).length : Int) = 1 := by omega
                    have g4 : ¬ ((Nat.gcd a b : Nat) : Int) = 1 := by omega
                    simp -dsimp -implicitDefEqProofs [gl, gl', g1, g2, g3, g4]
                  · have gl' : ¬ ((toW (Nat.gcd a b)).length : Int) = 1 := by omega
                    simp -dsimp -implicitDefEqProofs [gl', g1]
              · have bl1' : ¬ ((toW b).length : Int) = 1 := by omega
                simp -dsimp -implicitDefEqProofs [bl1, bl1']
                refine eCall.of (common_s a b (by omega) (by omega)) (by simp) ?_
                by_cases g1 : Nat.gcd a b = 1
                · simp -dsimp -implicitDefEqProofs [g1, toW_one]
                · by_cases gl : (toW (Nat.gcd a b)).length = 1
                  · have g2 := len_one hg0 gl
                    have g3 : (toW (Nat.gcd a b))[0] = ((Nat.gcd a b : Nat) : Int) := by rw [List.getElem_eq_iff]; exact g2
                    have gl' : ((toW (Nat.gcd a b)).length : Int) = 1 := by omega
                    have g4 : ¬ ((Nat.gcd a b : Nat) : Int) = 1 := by omega
                    simp -dsimp -implicitDefEqProofs [gl, gl', g1, g2, g3, g4]
                  · have gl' : ¬ ((toW (Nat.gcd a b)).length : Int) = 1 := by omega
                    simp -dsimp -implicitDefEqProofs [gl', g1]

set_option maxRecDepth 20000 in
theorem fixR_s (f : FR) (hi : f.ok) : CallsS Try.prog 45 [frS f] (.v (fS f.fix)) := by
  refine calls Try.func45 rfl (by rfl) (by rfl) (by kernel_rfl) ?_
  simp -dsimp -implicitDefEqProofs [Try.f45]
  refine eCall.of (rightR_s f hi) (by simp) ?_
  cases h : f.right
  · have e : f.fix = 0 := by unfold FR.fix; rw [h]; rfl
    rw [e]
    simp -dsimp -implicitDefEqProofs
    refine eCall.of zeroR_s (by simp) ?_
    simp -dsimp -implicitDefEqProofs
  · obtain ⟨e, _⟩ := f.right_fix hi h
    rw [← e]
    simp -dsimp -implicitDefEqProofs

set_option maxRecDepth 20000 in
theorem productR_s (p q : Rat) (h : sz p + sz q ≤ 17592186044416) : CallsS Try.prog 53 [fS p, fS q] (.v (fS (cap (p * q)))) := by
  unfold sz at h
  have l1 := wl_mul p.num.natAbs q.num.natAbs
  have l2 := wl_mul p.den q.den
  have dn : p.den * q.den ≠ 0 := Nat.mul_ne_zero p.den_nz q.den_nz
  have hl := lowest_s (ng p != ng q) (p.num.natAbs * q.num.natAbs) (p.den * q.den) dn (by omega) (by omega)
  rw [← mul_mkQ] at hl
  generalize cap (p * q) = r at hl ⊢
  refine calls Try.func53 rfl (by rfl) (by rfl) (by kernel_rfl) ?_
  simp -dsimp -implicitDefEqProofs [Try.f53]
  refine eCall.of (timesN_s p.num.natAbs q.num.natAbs (by omega) (by omega)) (by simp) ?_
  simp -dsimp -implicitDefEqProofs
  refine eCall.of (timesN_s p.den q.den (by omega) (by omega)) (by simp) ?_
  simp -dsimp -implicitDefEqProofs
  refine eCall.of hl (by simp [ng, bne]) ?_
  simp -dsimp -implicitDefEqProofs

set_option maxRecDepth 20000 in
set_option maxHeartbeats 2000000 in
theorem sum_gen (a b d e : Nat) (np nq : Bool) (hd0 : d ≠ 0) (he0 : e ≠ 0) (h : wl a + wl b + wl d + wl e ≤ 17592186044415) :
    CallsS Try.prog 51 [.agg [.bool np, nS a, nS d], .agg [.bool nq, nS b, nS e]] (.v (fS (cap (if d = e then mkRat (sg np a + sg nq b) d else mkRat (sg np (a * e) + sg nq (b * d)) (d * e))))) := by
  have l1 := wl_mul a e
  have l2 := wl_mul b d
  have l3 := wl_mul d e
  have dn : d * e ≠ 0 := Nat.mul_ne_zero hd0 he0
  by_cases hd : d = e
  · subst hd
    rw [if_pos rfl]
    refine calls Try.func51 rfl (by rfl) (by rfl) (by kernel_rfl) ?_
    simp -dsimp -implicitDefEqProofs [Try.f51]
    refine eCall.of (order_s d d (by rw [wl_def]; omega) (by rw [wl_def]; omega)) (by simp) ?_
    simp -dsimp -implicitDefEqProofs [cmpN_eq (rfl : d = d)]
    have l4 := wl_add (a) (b)
    have e1 := sum_cases np nq (a) (b) (d)
    by_cases hn : np = nq
    · subst hn
      rw [if_pos rfl] at e1
      have hred := lowest_s np (a + b) (d) hd0 (by omega) (by omega)
      rw [← e1] at hred
      simp -dsimp -implicitDefEqProofs
      refine eCall.of (plusN_s (a) (b) (by omega) (by omega)) (by simp) ?_
      simp -dsimp -implicitDefEqProofs
      refine eCall.of hred (by simp) ?_
      simp -dsimp -implicitDefEqProofs
    · rw [if_neg hn] at e1
      have hnb : (np == nq) = false := by simpa using hn
      simp -dsimp -implicitDefEqProofs [hnb]
      refine eCall.of (order_s (a) (b) (by rw [wl_def]; omega) (by rw [wl_def]; omega)) (by simp) ?_
      rcases Nat.lt_trichotomy (a) (b) with hc | hc | hc
      · rw [if_neg (by omega), if_pos hc] at e1
        have lm := wl_mono (show b - (a) ≤ b by omega)
        have hred := lowest_s nq (b - (a)) (d) hd0 (by omega) (by omega)
        rw [← e1] at hred
        simp -dsimp -implicitDefEqProofs [cmpN_lt hc]
        refine eCall.of (minusN_s (b) (a) (by omega) (by omega)) (by simp) ?_
        simp -dsimp -implicitDefEqProofs
        refine eCall.of hred (by simp) ?_
        simp -dsimp -implicitDefEqProofs
      · rw [if_neg (by omega), if_neg (by omega)] at e1
        have lm := wl_mono (show a - (b) ≤ a by omega)
        have hred := lowest_s np (a - (b)) (d) hd0 (by omega) (by omega)
        rw [show a - (b) = 0 by omega, mkQ_zero, ← e1] at hred
        simp -dsimp -implicitDefEqProofs [cmpN_eq hc]
        refine eCall.of (minusN_s (a) (b) (by omega) (by omega)) (by simp) ?_
        rw [show a - (b) = 0 by omega]
        simp -dsimp -implicitDefEqProofs
        refine eCall.of hred (by simp) ?_
        simp -dsimp -implicitDefEqProofs
      · rw [if_pos hc] at e1
        have lm := wl_mono (show a - (b) ≤ a by omega)
        have hred := lowest_s np (a - (b)) (d) hd0 (by omega) (by omega)
        rw [← e1] at hred
        simp -dsimp -implicitDefEqProofs [cmpN_gt hc]
        refine eCall.of (minusN_s (a) (b) (by omega) (by omega)) (by simp) ?_
        simp -dsimp -implicitDefEqProofs
        refine eCall.of hred (by simp) ?_
        simp -dsimp -implicitDefEqProofs
  · rw [if_neg hd]
    have hc : ¬ cmpN d e = 0 := mt cmpN_eq_zero.1 hd
    refine calls Try.func51 rfl (by rfl) (by rfl) (by kernel_rfl) ?_
    simp -dsimp -implicitDefEqProofs [Try.f51]
    refine eCall.of (order_s d e (by rw [wl_def]; omega) (by rw [wl_def]; omega)) (by simp) ?_
    simp -dsimp -implicitDefEqProofs [hc]
    refine eCall.of (timesN_s a e (by omega) (by omega)) (by simp) ?_
    simp -dsimp -implicitDefEqProofs
    refine eCall.of (timesN_s b d (by omega) (by omega)) (by simp) ?_
    simp -dsimp -implicitDefEqProofs
    refine eCall.of (timesN_s d e (by omega) (by omega)) (by simp) ?_
    simp -dsimp -implicitDefEqProofs
    have l4 := wl_add (a * e) (b * d)
    have e1 := sum_cases np nq (a * e) (b * d) (d * e)
    by_cases hn : np = nq
    · subst hn
      rw [if_pos rfl] at e1
      have hred := lowest_s np (a * e + b * d) (d * e) dn (by omega) (by omega)
      rw [← e1] at hred
      simp -dsimp -implicitDefEqProofs
      refine eCall.of (plusN_s (a * e) (b * d) (by omega) (by omega)) (by simp) ?_
      simp -dsimp -implicitDefEqProofs
      refine eCall.of hred (by simp) ?_
      simp -dsimp -implicitDefEqProofs
    · rw [if_neg hn] at e1
      have hnb : (np == nq) = false := by simpa using hn
      simp -dsimp -implicitDefEqProofs [hnb]
      refine eCall.of (order_s (a * e) (b * d) (by rw [wl_def]; omega) (by rw [wl_def]; omega)) (by simp) ?_
      rcases Nat.lt_trichotomy (a * e) (b * d) with hc | hc | hc
      · rw [if_neg (by omega), if_pos hc] at e1
        have lm := wl_mono (show b * d - (a * e) ≤ b * d by omega)
        have hred := lowest_s nq (b * d - (a * e)) (d * e) dn (by omega) (by omega)
        rw [← e1] at hred
        simp -dsimp -implicitDefEqProofs [cmpN_lt hc]
        refine eCall.of (minusN_s (b * d) (a * e) (by omega) (by omega)) (by simp) ?_
        simp -dsimp -implicitDefEqProofs
        refine eCall.of hred (by simp) ?_
        simp -dsimp -implicitDefEqProofs
      · rw [if_neg (by omega), if_neg (by omega)] at e1
        have lm := wl_mono (show a * e - (b * d) ≤ a * e by omega)
        have hred := lowest_s np (a * e - (b * d)) (d * e) dn (by omega) (by omega)
        rw [show a * e - (b * d) = 0 by omega, mkQ_zero, ← e1] at hred
        simp -dsimp -implicitDefEqProofs [cmpN_eq hc]
        refine eCall.of (minusN_s (a * e) (b * d) (by omega) (by omega)) (by simp) ?_
        rw [show a * e - (b * d) = 0 by omega]
        simp -dsimp -implicitDefEqProofs
        refine eCall.of hred (by simp) ?_
        simp -dsimp -implicitDefEqProofs
      · rw [if_pos hc] at e1
        have lm := wl_mono (show a * e - (b * d) ≤ a * e by omega)
        have hred := lowest_s np (a * e - (b * d)) (d * e) dn (by omega) (by omega)
        rw [← e1] at hred
        simp -dsimp -implicitDefEqProofs [cmpN_gt hc]
        refine eCall.of (minusN_s (a * e) (b * d) (by omega) (by omega)) (by simp) ?_
        simp -dsimp -implicitDefEqProofs
        refine eCall.of hred (by simp) ?_
        simp -dsimp -implicitDefEqProofs

theorem sumR_s (p q : Rat) (h : sz p + sz q ≤ 17592186044415) : CallsS Try.prog 51 [fS p, fS q] (.v (fS (cap (p + q)))) := by
  unfold sz at h
  have := sum_gen p.num.natAbs q.num.natAbs p.den q.den (ng p) (ng q) p.den_nz q.den_nz (by omega)
  by_cases hd : p.den = q.den
  · rw [if_pos hd, ← add_mkQ_same p q hd] at this
    exact this
  · rw [if_neg hd, ← add_mkQ] at this
    exact this
end Go.Proofs.Ytockjmmogkhepaa.Sh

/- Fractions: the reference's told functions, the second part. -/
namespace Go.Proofs.Ytockjmmogkhepaa.Sh
open Go Go.RowKit

set_option maxRecDepth 20000 in
theorem addR_s (f g : FR) (hf : f.ok) (hg : g.ok) : CallsS Try.prog 42 [frS f, frS g] (.v (fS (cap (f.fix + g.fix)))) := by
  have := sz_fix hf
  have := sz_fix hg
  refine calls Try.func42 rfl (by rfl) (by rfl) (by kernel_rfl) ?_
  simp -dsimp -implicitDefEqProofs [Try.f42]
  refine eCall.of (fixR_s f hf) (by simp) ?_
  simp -dsimp -implicitDefEqProofs
  refine eCall.of (fixR_s g hg) (by simp) ?_
  simp -dsimp -implicitDefEqProofs
  refine eCall.of (sumR_s f.fix g.fix (by omega)) (by simp) ?_
  simp -dsimp -implicitDefEqProofs

set_option maxRecDepth 20000 in
theorem mulR_s (f g : FR) (hf : f.ok) (hg : g.ok) : CallsS Try.prog 43 [frS f, frS g] (.v (fS (cap (f.fix * g.fix)))) := by
  have := sz_fix hf
  have := sz_fix hg
  refine calls Try.func43 rfl (by rfl) (by rfl) (by kernel_rfl) ?_
  simp -dsimp -implicitDefEqProofs [Try.f43]
  refine eCall.of (fixR_s f hf) (by simp) ?_
  simp -dsimp -implicitDefEqProofs
  refine eCall.of (fixR_s g hg) (by simp) ?_
  simp -dsimp -implicitDefEqProofs
  refine eCall.of (productR_s f.fix g.fix (by omega)) (by simp) ?_
  simp -dsimp -implicitDefEqProofs

set_option maxRecDepth 20000 in
theorem negR_s (f : FR) (hf : f.ok) : CallsS Try.prog 52 [frS f] (.v (fS (-f.fix))) := by
  refine calls Try.func52 rfl (by rfl) (by rfl) (by kernel_rfl) ?_
  simp -dsimp -implicitDefEqProofs [Try.f52]
  refine eCall.of (fixR_s f hf) (by simp) ?_
  generalize f.fix = q
  have hn : (-q).num.natAbs = q.num.natAbs := by rw [Rat.neg_num]; omega
  have hd : (-q).den = q.den := rfl
  by_cases h0 : q = 0
  · subst h0
    simp -dsimp -implicitDefEqProofs [toW_zero]
  · have hl : ¬ (toW q.num.natAbs).length = 0 := by rw [toW_len_zero, abs_eq_zero]; exact h0
    have hl' : ¬ toW q.num.natAbs = [] := fun h => hl (by rw [h]; rfl)
    have h1 : ¬ q.num = 0 := fun h => h0 (Rat.num_eq_zero.1 h)
    by_cases h2 : q.num < 0
    · have h3 : ¬ (0 < q.num) := by omega
      simp -dsimp -implicitDefEqProofs [hl, hl', hn, hd, h2, h3]
    · have h3 : 0 < q.num := by omega
      simp -dsimp -implicitDefEqProofs [hl, hl', hn, hd, h2, h3]

set_option maxRecDepth 20000 in
theorem subR_s (f g : FR) (hf : f.ok) (hg : g.ok) : CallsS Try.prog 25 [frS f, frS g] (.v (fS (cap (f.fix - g.fix)))) := by
  have := sz_fix hf
  have := sz_fix hg
  have := sz_neg g.fix
  have hs := sumR_s f.fix (-g.fix) (by omega)
  have hn := negR_s g hg
  rw [← Rat.sub_eq_add_neg] at hs
  generalize -g.fix = q at *
  refine calls Try.func25 rfl (by rfl) (by rfl) (by kernel_rfl) ?_
  simp -dsimp -implicitDefEqProofs [Try.f25]
  refine eCall.of (fixR_s f hf) (by simp) ?_
  simp -dsimp -implicitDefEqProofs
  refine eCall.of hn (by simp) ?_
  simp -dsimp -implicitDefEqProofs
  refine eCall.of hs (by simp) ?_
  simp -dsimp -implicitDefEqProofs

set_option maxRecDepth 20000 in
theorem cmpR_s (f g : FR) (hf : f.ok) (hg : g.ok) : CallsS Try.prog 19 [frS f, frS g] (I .i64 (cmpQ f.fix g.fix)) := by
  have h1 := sz_fix hf
  have h2 := sz_fix hg
  refine calls Try.func19 rfl (by rfl) (by rfl) (by kernel_rfl) ?_
  simp -dsimp -implicitDefEqProofs [Try.f19]
  refine eCall.of (fixR_s f hf) (by simp) ?_
  simp -dsimp -implicitDefEqProofs
  refine eCall.of (fixR_s g hg) (by simp) ?_
  generalize f.fix = p at *
  generalize g.fix = q at *
  unfold sz at h1 h2
  have l1 := wl_mul p.num.natAbs q.den
  have l2 := wl_mul q.num.natAbs p.den
  have hc : ∀ x y, -1 ≤ cmpN x y ∧ cmpN x y ≤ 1 := fun x y => by unfold cmpN; split <;> (try split) <;> omega
  have w : IntKind.i64.wrap (-(cmpN (p.num.natAbs * q.den) (q.num.natAbs * p.den))) = -(cmpN (p.num.natAbs * q.den) (q.num.natAbs * p.den)) := by
    have := hc (p.num.natAbs * q.den) (q.num.natAbs * p.den)
    exact wrap_i64 _ (by omega) (by omega)
  rcases Int.lt_or_le p.num 0 with a | a <;> rcases Int.lt_or_le q.num 0 with b | b
  · have hs : ng p = ng q := by unfold ng; simp [a, b]
    rw [cmpQ_ng hs]
    simp -dsimp -implicitDefEqProofs [a, b]
    refine eCall.of (timesN_s p.num.natAbs q.den (by omega) (by omega)) (by simp) ?_
    simp -dsimp -implicitDefEqProofs
    refine eCall.of (timesN_s q.num.natAbs p.den (by omega) (by omega)) (by simp) ?_
    simp -dsimp -implicitDefEqProofs
    refine eCall.of (order_s (p.num.natAbs * q.den) (q.num.natAbs * p.den) (by rw [wl_def]; omega) (by rw [wl_def]; omega)) (by simp) ?_
    simp -dsimp -implicitDefEqProofs [a, b, ng, w]
  · have hs : ng p ≠ ng q := by unfold ng; simp [a, Int.not_lt.2 b]
    rw [cmpQ_ng_ne hs]
    simp -dsimp -implicitDefEqProofs [a, Int.not_lt.2 b, ng]
  · have hs : ng p ≠ ng q := by unfold ng; simp [Int.not_lt.2 a, b]
    rw [cmpQ_ng_ne hs]
    simp -dsimp -implicitDefEqProofs [Int.not_lt.2 a, b, ng]
  · have hs : ng p = ng q := by unfold ng; simp [Int.not_lt.2 a, Int.not_lt.2 b]
    rw [cmpQ_ng hs]
    simp -dsimp -implicitDefEqProofs [Int.not_lt.2 a, Int.not_lt.2 b]
    refine eCall.of (timesN_s p.num.natAbs q.den (by omega) (by omega)) (by simp) ?_
    simp -dsimp -implicitDefEqProofs
    refine eCall.of (timesN_s q.num.natAbs p.den (by omega) (by omega)) (by simp) ?_
    simp -dsimp -implicitDefEqProofs
    refine eCall.of (order_s (p.num.natAbs * q.den) (q.num.natAbs * p.den) (by rw [wl_def]; omega) (by rw [wl_def]; omega)) (by simp) ?_
    simp -dsimp -implicitDefEqProofs [Int.not_lt.2 a, Int.not_lt.2 b, ng, w]

theorem cmpQ_zero {p q : Rat} : cmpQ p q = 0 ↔ p = q := by
  unfold cmpQ
  split
  · rename_i h
    exact ⟨fun h => by omega, fun h' => absurd h' (Rat.ne_of_lt h)⟩
  · split
    · exact ⟨fun _ => ‹_›, fun _ => rfl⟩
    · exact ⟨fun h => by omega, fun h' => absurd h' ‹_›⟩
theorem cmpQ_neg {p q : Rat} : cmpQ p q < 0 ↔ p < q := by
  unfold cmpQ
  split
  · exact ⟨fun _ => ‹_›, fun _ => by omega⟩
  · split
    · exact ⟨fun h => by omega, fun h => absurd h ‹_›⟩
    · exact ⟨fun h => by omega, fun h => absurd h ‹_›⟩
theorem cmpQ_pos {p q : Rat} : 0 < cmpQ p q ↔ q < p := by
  unfold cmpQ
  split
  · rename_i h
    exact ⟨fun h => by omega, fun h' => absurd (Rat.le_of_lt h') (Rat.not_le.2 h)⟩
  · split
    · rename_i h; subst h
      exact ⟨fun h => by omega, fun h => absurd h Rat.lt_irrefl⟩
    · rename_i h1 h2
      exact ⟨fun _ => Rat.lt_of_le_of_ne (Rat.not_lt.1 h1) (fun h => h2 h.symm), fun _ => by omega⟩

set_option maxRecDepth 20000 in
theorem sameR_s (f g : FR) (hf : f.ok) (hg : g.ok) : CallsS Try.prog 23 [frS f, frS g] (B (decide (f.fix = g.fix))) := by
  have e : decide (f.fix = g.fix) = (cmpQ f.fix g.fix == 0) := by
    by_cases h : f.fix = g.fix
    · rw [decide_eq_true h, cmpQ_zero.2 h]; rfl
    · rw [decide_eq_false h]
      have := mt cmpQ_zero.1 h
      simp [this]
  rw [e]
  refine calls Try.func23 rfl (by rfl) (by rfl) (by kernel_rfl) ?_
  simp -dsimp -implicitDefEqProofs [Try.f23]
  refine eCall.of (cmpR_s f g hf hg) (by simp) ?_
  simp -dsimp -implicitDefEqProofs

set_option maxRecDepth 20000 in
theorem signR_s (f : FR) (hf : f.ok) : CallsS Try.prog 26 [frS f] (I .i64 (sgnQ f.fix)) := by
  refine calls Try.func26 rfl (by rfl) (by rfl) (by kernel_rfl) ?_
  simp -dsimp -implicitDefEqProofs [Try.f26]
  refine eCall.of (fixR_s f hf) (by simp) ?_
  rw [sgnQ_num]
  generalize f.fix = q
  by_cases h0 : q.num = 0
  · simp -dsimp -implicitDefEqProofs [h0, toW_zero]
  · have hl : ¬ (toW q.num.natAbs).length = 0 := by rw [toW_len_zero]; omega
    have hl' : ¬ toW q.num.natAbs = [] := fun h => hl (by rw [h]; rfl)
    by_cases h1 : q.num < 0
    · simp -dsimp -implicitDefEqProofs [h0, h1, hl, hl']
    · simp -dsimp -implicitDefEqProofs [h0, h1, hl, hl']

theorem inv_fS (q : Rat) (h : q ≠ 0) : fS q⁻¹ = .agg [.bool (decide (q.num < 0)), nS q.den, nS q.num.natAbs] := by
  obtain ⟨e1, e2, e3⟩ := over_num h
  rw [fS, e1, e2, decide_eq_decide.2 e3]

set_option maxRecDepth 20000 in
theorem divR_s (f g : FR) (hf : f.ok) (hg : g.ok) (h0 : g.fix ≠ 0) : CallsS Try.prog 27 [frS f, frS g] (.tup [fS (cap (f.fix / g.fix)), .one (.int .i64 0)]) := by
  have h1 := sz_fix hf
  have h2 := sz_fix hg
  have hx := fixR_s f hf
  have hy := fixR_s g hg
  have hi := sz_inv g.fix h0
  have hp := productR_s f.fix g.fix⁻¹ (by omega)
  rw [inv_fS _ h0, ← Rat.div_def] at hp
  generalize f.fix / g.fix = r at *
  generalize f.fix = p at *
  generalize g.fix = q at *
  have hl : ¬ (toW q.num.natAbs).length = 0 := by rw [toW_len_zero, abs_eq_zero]; exact h0
  have hl' : ¬ toW q.num.natAbs = [] := fun h => hl (by rw [h]; rfl)
  refine calls Try.func27 rfl (by rfl) (by rfl) (by kernel_rfl) ?_
  simp -dsimp -implicitDefEqProofs [Try.f27]
  refine eCall.of hx (by simp) ?_
  simp -dsimp -implicitDefEqProofs
  refine eCall.of hy (by simp) ?_
  simp -dsimp -implicitDefEqProofs [hl, hl']
  refine eCall.of hp (by simp) ?_
  simp -dsimp -implicitDefEqProofs

/-- A whole number's form. -/
theorem fix_int (n : Int) (h0 : -9223372036854775808 ≤ n) (h1 : n < 9223372036854775808) : (frQ (n : Rat)).fix = (n : Rat) ∧ (frQ (n : Rat)).ok :=
  ⟨fix_frQ (by have := sz_int n h0 h1; omega), frQ_ok (by have := sz_int n h0 h1; omega)⟩

set_option maxRecDepth 20000 in
theorem makeR_s (p q : Int) (p0 : -9223372036854775808 ≤ p) (p1 : p < 9223372036854775808) (q0 : -9223372036854775808 ≤ q) (q1 : q < 9223372036854775808) (h0 : q ≠ 0) : CallsS Try.prog 6 [.one (.int .i64 p), .one (.int .i64 q)] (.tup [fS ((p : Rat) / (q : Rat)), .one (.int .i64 0)]) := by
  have hq : (q : Rat) ≠ 0 := fun h => h0 (by have := congrArg Rat.num h; simpa using this)
  have s1 := sz_int p p0 p1
  have s2 := sz_int q q0 q1
  have s3 := sz_mul (p : Rat) (q : Rat)⁻¹
  have hi := sz_inv (q : Rat) hq
  obtain ⟨f1, k1⟩ := fix_int p p0 p1
  obtain ⟨f2, k2⟩ := fix_int q q0 q1
  have hd := divR_s (frQ (p : Rat)) (frQ (q : Rat)) k1 k2 (by rw [f2]; exact hq)
  rw [f1, f2, frS_frQ, frS_frQ, cap_of (by rw [Rat.div_def]; omega)] at hd
  have ip := intR_s p p0 p1
  have iq := intR_s q q0 q1
  generalize (p : Rat) / (q : Rat) = r at *
  generalize (p : Rat) = P at *
  generalize (q : Rat) = Q at *
  refine calls Try.func6 rfl (by rfl) (by rfl) (by kernel_rfl) ?_
  simp -dsimp -implicitDefEqProofs [Try.f6]
  refine eCall.of ip (by simp) ?_
  simp -dsimp -implicitDefEqProofs
  refine eCall.of iq (by simp) ?_
  simp -dsimp -implicitDefEqProofs
  refine eCall.of hd (by simp) ?_
  simp -dsimp -implicitDefEqProofs
end Go.Proofs.Ytockjmmogkhepaa.Sh

/- Lists of fractions: frac's all, Sum. -/
namespace Go.Proofs.Ytockjmmogkhepaa.Sh
open Go Go.RowKit

/-- A fraction's cells, as it is handed in. -/
@[simp] def rowFr (f : FR) : List S1 := [.bool f.neg, wS f.num, wS f.den]
/-- A fraction's cells in frac. -/
@[simp] def rowQ (q : Rat) : List S1 := [nS q.num.natAbs, nS q.den, .bool (decide (q.num < 0))]
instance : RowF 3 rowFr := ⟨fun _ => rfl, fun x s h => by simp at h; rcases h with rfl | rfl | rfl <;> rfl⟩
instance : RowF 3 rowQ := ⟨fun _ => rfl, fun x s h => by simp at h; rcases h with rfl | rfl | rfl <;> rfl⟩

@[simp] def frsS (l : List FR) : S1 := .sl true 3 (l.map rowFr)
@[simp] def ratsS (l : List Rat) : S1 := .sl true 3 (l.map rowQ)

/-- A list that is filled from the front. -/
def filled {α β : Type} (g : α → β) (l : List α) (i : Nat) : List (Option β) := (l.take i).map (fun x => some (g x)) ++ List.replicate (l.length - i) none
theorem filled_len {α β : Type} (g : α → β) (l : List α) {i : Nat} (h : i ≤ l.length) : (filled g l i).length = l.length := by simp [filled]; omega
theorem filled_zero {α β : Type} (g : α → β) (l : List α) : filled g l 0 = List.replicate l.length none := by simp [filled]
theorem filled_full {α β : Type} (g : α → β) (l : List α) : filled g l l.length = l.map (fun x => some (g x)) := by simp [filled]
theorem filled_set {α β : Type} (g : α → β) (l : List α) (i : Nat) (h : i < l.length) : (filled g l i).set i (some (g l[i])) = filled g l (i + 1) := by
  unfold filled
  obtain ⟨m, hm⟩ : ∃ m, l.length - i = m + 1 := ⟨l.length - i - 1, by omega⟩
  rw [hm, List.set_append_right _ _ (by simp; omega), List.replicate_succ]
  rw [List.take_add_one, List.getElem?_eq_getElem h]
  simp only [Option.toList, List.map_append, List.map_cons, List.map_nil, List.append_assoc]
  congr 1
  rw [List.length_map, List.length_take, Nat.min_eq_left (by omega), Nat.sub_self, List.set_cons_zero, show l.length - (i + 1) = m by omega]
  rfl

/-- A row, or none yet. -/
def optRow (z : List S1) {α : Type} (f : α → List S1) : Option α → List S1
  | none => z
  | some x => f x
instance : RowF 3 (optRow [.nils, .nils, .bool false] rowQ) := ⟨fun x => by cases x <;> rfl, fun x s h => by cases x <;> (simp [optRow] at h; rcases h with rfl | rfl | rfl <;> rfl)⟩
instance : RowF 3 (optRow [.bool false, .nils, .nils] rowFr) := ⟨fun x => by cases x <;> rfl, fun x s h => by cases x <;> (simp [optRow] at h; rcases h with rfl | rfl | rfl <;> rfl)⟩

theorem flat_rep (z : List S1) {α : Type} (f : α → List S1) (n : Nat) : (List.replicate n z).flatten = flat (optRow z f) (List.replicate n none) := by
  simp [flat, optRow]
theorem map_opt (z : List S1) {α β : Type} (f : α → List S1) (g : β → α) (l : List β) : (l.map fun x => some (g x)).map (optRow z f) = (l.map g).map f := by
  simp [optRow]

set_option maxRecDepth 20000 in
theorem all_g (fr : Bool) (l : List FR) (hl : ∀ f ∈ l, f.ok) (h1 : l.length ≤ 1099511627776) : CallsS Try.prog 63 [.one (.sl fr 3 (l.map rowFr))] (.v (.one (ratsS (l.map FR.fix)))) := by
  refine calls Try.func63 rfl (by rfl) (by rfl) (by kernel_rfl) ?_
  simp -dsimp -implicitDefEqProofs [Try.f63]
  refine ⟨by omega, ?_⟩
  refine sw_loop_e (fun p : {p : Nat × Nat // p.1 ≤ l.length} => SS.of [(3, .v (.one (.ms 0 0 l.length 3 true))), (9, .v (.one (.sl fr 3 (l.map rowFr)))), (10, I .i64 l.length), (11, I .i64 p.1.1)] [(0, ⟨69, flat (optRow [.nils, .nils, .bool false] rowQ) (filled FR.fix l p.1.1)⟩)] (p.1.2 + 1))
    (fun p => l.length - p.1.1) ⟨(0, 0), Nat.zero_le _⟩ (by kernel_rfl) (Le.to (by simp) (by simp [filled_zero, flat_rep _ rowQ]) (by simp)) ?_
  rintro ⟨⟨i, c⟩, hi⟩
  simp only at hi
  by_cases a1 : i < l.length
  · have wi : IntKind.i64.wrap ((i : Int) + 1) = ((i + 1 : Nat) : Int) := by rw [wrap_i64 _ (by omega) (by omega)]; rfl
    have hok : l[i].ok := hl _ (List.getElem_mem a1)
    have ml := filled_len FR.fix l hi
    have mset := filled_set FR.fix l i a1
    simp -dsimp -implicitDefEqProofs [a1, wi]
    refine eCall.of (taken_s l[i] hok) (by simp) ?_
    simp -dsimp -implicitDefEqProofs [a1, ml]
    refine ⟨by omega, ?_⟩
    have hset := set3_flat (f := optRow [.nils, .nils, .bool false] rowQ) (filled FR.fix l i) i (some l[i].fix) rfl (by omega)
    rw [mset] at hset
    exact Again.by ⟨(i + 1, c + 1), a1⟩ (Le.to (by simp [wi]) (by simp [← hset]) (by simp)) (by simp; omega)
  · have hi2 : i = l.length := by omega
    subst hi2
    simp -dsimp -implicitDefEqProofs [filled_full]
    intro a _
    rfl

theorem all_s (l : List FR) (hl : ∀ f ∈ l, f.ok) (h1 : l.length ≤ 1099511627776) : CallsS Try.prog 63 [.one (frsS l)] (.v (.one (ratsS (l.map FR.fix)))) := all_g true l hl h1

/-- The sum of a list. -/
def sumQ : List Rat → Rat
  | [] => 0
  | q :: l => q + sumQ l
theorem sumQ_snoc (l : List Rat) (q : Rat) : sumQ (l ++ [q]) = sumQ l + q := by
  induction l with
  | nil => simp [sumQ, Rat.add_comm]
  | cons x l ih => simp only [List.cons_append, sumQ, ih, Rat.add_assoc]
theorem sumQ_take (l : List Rat) (i : Nat) (h : i < l.length) : sumQ (l.take (i + 1)) = sumQ (l.take i) + l[i] := by
  rw [List.take_add_one, List.getElem?_eq_getElem h]
  exact sumQ_snoc _ _
theorem mz_sum (l : List Rat) (B : Nat) (h : ∀ q ∈ l, mz q ≤ B) : mz (sumQ l) ≤ l.length * (B + 1) + 1 := by
  induction l with
  | nil =>
    have : mz 0 ≤ 1 := by decide +kernel
    show mz 0 ≤ _
    omega
  | cons x l ih =>
    have h1 := h x (List.mem_cons_self ..)
    have h2 := ih (fun q hq => h q (List.mem_cons_of_mem _ hq))
    have h3 := mz_add x (sumQ l)
    simp only [sumQ, List.length_cons, Nat.add_mul, Nat.one_mul]
    omega

set_option maxRecDepth 20000 in
theorem fsum_g (fr : Bool) (l : List FR) (hl : ∀ f ∈ l, f.ok) (h1 : l.length ≤ 1048576) : CallsS Try.prog 35 [.one (.sl fr 3 (l.map rowFr))] (.v (fS (cap (sumQ (l.map FR.fix))))) := by
  have hz : ∀ q ∈ l.map FR.fix, mz q ≤ 4096 := by
    intro q hq
    obtain ⟨f, hf, rfl⟩ := List.mem_map.1 hq
    have := sz_fix (hl f hf)
    have := sz_mz f.fix
    omega
  have hs : ∀ i, mz (sumQ ((l.map FR.fix).take i)) ≤ 1048576 * 4097 + 1 := fun i => by
    have := mz_sum ((l.map FR.fix).take i) 4096 (fun q hq => hz q (List.mem_of_mem_take hq))
    have h2 : ((l.map FR.fix).take i).length ≤ 1048576 := by rw [List.length_take, List.length_map]; omega
    have := Nat.mul_le_mul_right (4096 + 1) h2
    omega
  refine calls Try.func35 rfl (by rfl) (by rfl) (by kernel_rfl) ?_
  simp -dsimp -implicitDefEqProofs [Try.f35]
  refine eCall.of (whole_s 0 (by decide) (by decide)) (by simp) ?_
  simp -dsimp -implicitDefEqProofs
  refine eCall.of (all_g fr l hl (by omega)) (by simp) ?_
  generalize hL : l.map FR.fix = L at *
  have hLl : L.length = l.length := by rw [← hL, List.length_map]
  simp -dsimp -implicitDefEqProofs
  refine sw_loop_e (fun p : {p : Nat × Nat // p.1 ≤ L.length} => SS.of [(2, .v (.one (.mp 0 0))), (3, .v (.one (.mp 1 0))), (8, .v (.one (ratsS L))), (9, I .i64 L.length), (10, I .i64 p.1.1)] [(0, ⟨26, [.bool false, .nils, .nils]⟩), (1, ⟨69, rowQ (sumQ (L.take p.1.1))⟩)] (p.1.2 + 2))
    (fun p => L.length - p.1.1) ⟨(0, 0), Nat.zero_le _⟩ (by kernel_rfl) (Le.to (by simp) (by simp [sumQ]) (by simp)) ?_
  rintro ⟨⟨i, c⟩, hi⟩
  simp only at hi
  by_cases a1 : i < L.length
  · have wi : IntKind.i64.wrap ((i : Int) + 1) = ((i + 1 : Nat) : Int) := by rw [wrap_i64 _ (by omega) (by omega)]; rfl
    simp -dsimp -implicitDefEqProofs [a1, wi]
    have b1 := sz_mz (sumQ (L.take i))
    have b2 := hs i
    have b3 := sz_mz L[i]
    have b4 := hz L[i] (List.getElem_mem a1)
    have hp := rplus_s (sumQ (L.take i)) L[i] (by omega)
    rw [← sumQ_take L i a1] at hp
    refine eCall.of hp (by simp) ?_
    simp -dsimp -implicitDefEqProofs
    exact Again.by ⟨(i + 1, c + 1), a1⟩ (Le.to (by simp [wi]) (by simp) (by simp)) (by simp; omega)
  · have hi2 : i = L.length := by omega
    subst hi2
    simp -dsimp -implicitDefEqProofs
    have b1 := sz_mz (sumQ L)
    have b2 := hs L.length
    rw [List.take_length] at b2
    refine eCall.of (told_s (sumQ L) (by omega)) (by simp) ?_
    simp -dsimp -implicitDefEqProofs
theorem fsum_s (l : List FR) (hl : ∀ f ∈ l, f.ok) (h1 : l.length ≤ 1048576) : CallsS Try.prog 35 [.one (frsS l)] (.v (fS (cap (sumQ (l.map FR.fix))))) := fsum_g true l hl h1
end Go.Proofs.Ytockjmmogkhepaa.Sh

/- A lottery is drawn: rule.Draw. -/
namespace Go.Proofs.Ytockjmmogkhepaa.Sh
open Go Go.RowKit

theorem one_div_one : (((1 : Int) : Rat) / ((1 : Int) : Rat)) = 1 := by decide +kernel

set_option maxRecDepth 20000 in
theorem rzero_s : CallsS Try.prog 32 [] (.v (fS 0)) := by
  have hs := fsum_s [] (by simp) (by simp)
  have e : cap (sumQ (List.map FR.fix [])) = 0 := cap_of (by show sz 0 ≤ _; rw [sz_zero]; omega)
  rw [e] at hs
  refine calls Try.func32 rfl (by rfl) (by rfl) (by kernel_rfl) ?_
  simp -dsimp -implicitDefEqProofs [Try.f32]
  refine eCall.of hs (by simp) ?_
  simp -dsimp -implicitDefEqProofs

theorem sgnQ_neg {q : Rat} : sgnQ q < 0 ↔ q < 0 := by
  unfold sgnQ
  split
  · rename_i h; subst h; exact ⟨fun h => by omega, fun h => absurd h Rat.lt_irrefl⟩
  · split
    · exact ⟨fun _ => ‹_›, fun _ => by omega⟩
    · exact ⟨fun h => by omega, fun h => absurd h ‹_›⟩

/-- Are they chances? -/
def isLot (l : List FR) : Prop := (∀ f ∈ l, 0 ≤ f.fix) ∧ cap (sumQ (l.map FR.fix)) = 1

theorem fix_one : (frQ 1).fix = 1 ∧ (frQ 1).ok ∧ sz 1 ≤ 4096 := by
  have : sz 1 ≤ 4096 := by have : sz 1 = 2 := by decide +kernel
                           omega
  exact ⟨fix_frQ this, frQ_ok (by omega), this⟩

set_option maxRecDepth 20000 in
theorem chances_s (l : List FR) (hl : ∀ f ∈ l, f.ok) (h1 : l.length ≤ 1048576) : ∀ b, (b = true ↔ isLot l) → CallsS Try.prog 28 [.one (frsS l)] (B b) := by
  intro b hb
  have mk := fmake_s 1 1 (by decide) (by decide) (by decide) (by decide) (by decide)
  rw [one_div_one] at mk
  obtain ⟨o1, o2, o3⟩ := fix_one
  refine calls Try.func28 rfl (by rfl) (by rfl) (by kernel_rfl) ?_
  simp -dsimp -implicitDefEqProofs [Try.f28]
  refine sw_loop_e (fun p : {p : Nat × Nat // p.1 ≤ l.length ∧ ∀ f ∈ l.take p.1, 0 ≤ f.fix} => SS.of [(0, .v (.one (frsS l))), (7, .v (.one (frsS l))), (8, I .i64 l.length), (9, I .i64 p.1.1)] [] p.1.2)
    (fun p => l.length - p.1.1) ⟨(0, 0), Nat.zero_le _, by simp⟩ (by kernel_rfl) (Le.to (by simp) (by simp) (by simp)) ?_
  rintro ⟨⟨i, c⟩, hi, hp⟩
  simp only at hi hp
  by_cases a1 : i < l.length
  · have wi : IntKind.i64.wrap ((i : Int) + 1) = ((i + 1 : Nat) : Int) := by rw [wrap_i64 _ (by omega) (by omega)]; rfl
    have hok : l[i].ok := hl _ (List.getElem_mem a1)
    simp -dsimp -implicitDefEqProofs [a1, wi]
    refine eCall.of (fsign_s l[i] hok) (by simp) ?_
    by_cases hn : l[i].fix < 0
    · have hs : sgnQ l[i].fix < 0 := sgnQ_neg.2 hn
      have : ¬ isLot l := fun h => absurd (h.1 _ (List.getElem_mem a1)) (Rat.not_le.2 hn)
      have hb' : b = false := by cases b; rfl; exact absurd (hb.1 rfl) this
      simp -dsimp -implicitDefEqProofs [hs, hb']
    · have hs : ¬ sgnQ l[i].fix < 0 := mt sgnQ_neg.1 hn
      simp -dsimp -implicitDefEqProofs [hs]
      refine Again.by ⟨(i + 1, c + 1), a1, ?_⟩ (Le.to (by simp [wi]) (by simp) (by simp)) (by simp; omega)
      intro f hf
      rw [List.take_add_one, List.getElem?_eq_getElem a1] at hf
      rcases List.mem_append.1 hf with hf | hf
      · exact hp f hf
      · simp at hf; subst hf; exact Rat.not_lt.1 hn
  · have hi2 : i = l.length := by omega
    subst hi2
    rw [List.take_length] at hp
    simp -dsimp -implicitDefEqProofs
    refine eCall.of mk (by simp) ?_
    simp -dsimp -implicitDefEqProofs
    have hcap := sz_cap (sumQ (l.map FR.fix))
    have hs := fsum_s l hl h1
    have hf := fix_frQ hcap
    have hc := fcmp_s (frQ (cap (sumQ (l.map FR.fix)))) (frQ 1) (frQ_ok (by omega)) o2
    rw [hf, o1, frS_frQ, frS_frQ] at hc
    have hb2 : b = true ↔ cap (sumQ (l.map FR.fix)) = 1 := ⟨fun h => (hb.1 h).2, fun h => hb.2 ⟨hp, h⟩⟩
    generalize cap (sumQ (l.map FR.fix)) = S at *
    refine eCall.of hs (by simp) ?_
    simp -dsimp -implicitDefEqProofs
    refine eCall.of hc (by simp) ?_
    by_cases he : S = 1
    · have hb' : b = true := hb2.2 he
      simp -dsimp -implicitDefEqProofs [cmpQ_zero.2 he, hb']
    · have hb' : b = false := by cases b; rfl; exact absurd (hb2.1 rfl) he
      have : ¬ cmpQ S 1 = 0 := mt cmpQ_zero.1 he
      simp -dsimp -implicitDefEqProofs [this, hb']

/-- The first outcome whose chances up to it are above the ticket. -/
def drawQ (t : Rat) : Rat → Nat → List Rat → Option Nat
  | _, _, [] => none
  | s, i, q :: l => if t < cap (s + q) then some i else drawQ t (cap (s + q)) (i + 1) l

theorem drawQ_cons (t s : Rat) (i : Nat) (q : Rat) (l : List Rat) : drawQ t s i (q :: l) = if t < cap (s + q) then some i else drawQ t (cap (s + q)) (i + 1) l := rfl

def drawR : Option Nat → Int × Int
  | some i => (i, 0)
  | none => (0, 41)

/-- What a draw comes to. -/
def isDraw (l : List FR) (t : Rat) (r : Int × Int) : Prop :=
  (¬ isLot l ∧ r = (0, 41)) ∨ (isLot l ∧ (t < 0 ∨ 1 ≤ t) ∧ r = (0, 40)) ∨ (isLot l ∧ 0 ≤ t ∧ t < 1 ∧ r = drawR (drawQ t 0 0 (l.map FR.fix)))

theorem sz_zero' : sz 0 ≤ 4096 := by rw [sz_zero]; omega

set_option maxRecDepth 20000 in
theorem draw_s (l : List FR) (t : FR) (hl : ∀ f ∈ l, f.ok) (ht : t.ok) (h1 : l.length ≤ 1048576) (r : Int × Int) (hr : isDraw l t.fix r) :
    CallsS Try.prog 7 [.one (frsS l), frS t] (.tup [.one (.int .i64 r.1), .one (.int .i64 r.2)]) := by
  have mk := fmake_s 1 1 (by decide) (by decide) (by decide) (by decide) (by decide)
  rw [one_div_one] at mk
  obtain ⟨o1, o2, o3⟩ := fix_one
  refine calls Try.func7 rfl (by rfl) (by rfl) (by kernel_rfl) ?_
  simp -dsimp -implicitDefEqProofs [Try.f7]
  by_cases hlot : isLot l
  · refine eCall.of (chances_s l hl h1 true (by simp [hlot])) (by simp) ?_
    simp -dsimp -implicitDefEqProofs
    refine eCall.of mk (by simp) ?_
    simp -dsimp -implicitDefEqProofs
    refine eCall.of (fsign_s t ht) (by simp) ?_
    have hc := fcmp_s t (frQ 1) ht o2
    rw [o1, frS_frQ] at hc
    by_cases c1 : t.fix < 0
    · have hs : sgnQ t.fix < 0 := sgnQ_neg.2 c1
      have : r = (0, 40) := by
        rcases hr with h | h | h
        · exact absurd hlot h.1
        · exact h.2.2
        · exact absurd h.2.1 (Rat.not_le.2 c1)
      subst this
      simp -dsimp -implicitDefEqProofs [hs]
    · have hs : ¬ sgnQ t.fix < 0 := mt sgnQ_neg.1 c1
      simp -dsimp -implicitDefEqProofs [hs]
      refine eCall.of hc (by simp) ?_
      by_cases c2 : t.fix < 1
      · have hs2 : ¬ 0 ≤ cmpQ t.fix 1 := by have := cmpQ_neg.2 c2; omega
        have hr' : r = drawR (drawQ t.fix 0 0 (l.map FR.fix)) := by
          rcases hr with h | h | h
          · exact absurd hlot h.1
          · rcases h.2.1 with h | h
            · exact absurd h c1
            · exact absurd c2 (Rat.not_lt.2 h)
          · exact h.2.2.2
        simp -dsimp -implicitDefEqProofs [hs2]
        refine eCall.of rzero_s (by simp) ?_
        simp -dsimp -implicitDefEqProofs
        refine sw_loop_e (fun p : {p : Nat × Nat × Rat // p.1 ≤ l.length ∧ drawQ t.fix 0 0 (l.map FR.fix) = drawQ t.fix p.2.2 p.1 ((l.map FR.fix).drop p.1) ∧ sz p.2.2 ≤ 4096} => SS.of [(3, .v (.one (.mp 0 0))), (8, .v (.one (.mp 2 0))), (28, .v (.one (frsS l))), (29, I .i64 l.length), (30, I .i64 p.1.1)] [(0, ⟨26, rowFr t⟩), (2, ⟨26, rowFr (frQ p.1.2.2)⟩)] (p.1.2.1 + 3))
          (fun p => l.length - p.1.1) ⟨(0, 0, 0), Nat.zero_le _, by simp, sz_zero'⟩ (by kernel_rfl) (Le.to (by simp) (by simp [frQ, ng]) (by simp)) ?_
        rintro ⟨⟨i, c, S⟩, hi, hd, hS⟩
        simp only at hi hd hS
        by_cases a1 : i < l.length
        · have wi : IntKind.i64.wrap ((i : Int) + 1) = ((i + 1 : Nat) : Int) := by rw [wrap_i64 _ (by omega) (by omega)]; rfl
          have hok : l[i].ok := hl _ (List.getElem_mem a1)
          have ha := fadd_s (frQ S) l[i] (frQ_ok (by omega)) hok
          rw [fix_frQ hS] at ha
          have hcap := sz_cap (S + l[i].fix)
          have hc2 := fcmp_s (frQ (cap (S + l[i].fix))) t (frQ_ok (by omega)) ht
          rw [fix_frQ hcap] at hc2
          rw [List.drop_eq_getElem_cons (by simpa using a1), List.getElem_map] at hd
          rw [drawQ_cons] at hd
          rw [← frS_frQ] at ha
          generalize cap (S + l[i].fix) = S2 at *
          simp -dsimp -implicitDefEqProofs [a1, wi]
          refine eCall.of ha (by simp) ?_
          simp -dsimp -implicitDefEqProofs
          refine eCall.of hc2 (by simp) ?_
          by_cases c3 : t.fix < S2
          · have hs3 : 0 < cmpQ S2 t.fix := cmpQ_pos.2 c3
            rw [if_pos c3] at hd
            rw [hd] at hr'
            subst hr'
            simp -dsimp -implicitDefEqProofs [hs3, drawR]
          · have hs3 : ¬ 0 < cmpQ S2 t.fix := mt cmpQ_pos.1 c3
            rw [if_neg c3] at hd
            simp -dsimp -implicitDefEqProofs [hs3]
            exact Again.by ⟨(i + 1, c + 1, S2), a1, hd, hcap⟩ (Le.to (by simp [wi]) (by simp) (by simp)) (by simp; omega)
        · have hi2 : i = l.length := by omega
          subst hi2
          rw [List.drop_eq_nil_of_le (by simp)] at hd
          rw [hd] at hr'
          subst hr'
          simp -dsimp -implicitDefEqProofs [drawQ, drawR]
      · have hs2 : 0 ≤ cmpQ t.fix 1 := by have := mt cmpQ_neg.1 c2; omega
        have : r = (0, 40) := by
          rcases hr with h | h | h
          · exact absurd hlot h.1
          · exact h.2.2
          · exact absurd h.2.2.1 c2
        subst this
        simp -dsimp -implicitDefEqProofs [hs2]
  · refine eCall.of (chances_s l hl h1 false (by simp [hlot])) (by simp) ?_
    have : r = (0, 41) := by
      rcases hr with h | h | h
      · exact h.2
      · exact absurd h.1 hlot
      · exact absurd h.1 hlot
    subst this
    simp -dsimp -implicitDefEqProofs
end Go.Proofs.Ytockjmmogkhepaa.Sh

/- The statement RuleDrawn: what it comes to. -/
namespace Go.Proofs.Ytockjmmogkhepaa.Sh
open Go Go.RowKit

/-- Whole numbers in a slice. -/
@[simp] def intsS (l : List Int) : S1 := .sl true 1 (l.map fun x => [.int .i64 x])
@[simp] def oI (l : List Int) : SObj := ⟨3, l.map fun x => .int .i64 x⟩
def InI (l : List Int) : Prop := ∀ x ∈ l, -9223372036854775808 ≤ x ∧ x < 9223372036854775808

set_option maxRecDepth 20000 in
theorem sameInts_s (a b : List Int) (ha : a.length ≤ 140737488355328) (hb : b.length ≤ 140737488355328) : CallsS Try.prog 8 [.one (intsS a), .one (intsS b)] (B (decide (a = b))) := by
  refine calls Try.func8 rfl (by rfl) (by rfl) (by kernel_rfl) ?_
  by_cases hl : a.length = b.length
  · have hl' : (a.length : Int) = b.length := by omega
    simp -dsimp -implicitDefEqProofs [Try.f8, hl]
    refine sw_loop_e (fun p : {p : Nat // p ≤ b.length ∧ a.take p = b.take p} => SS.of [(0, .v (.one (intsS a))), (1, .v (.one (intsS b))), (5, I .i64 p.1)] [] 0)
      (fun p => b.length - p.1) ⟨0, Nat.zero_le _, by simp⟩ (by kernel_rfl) (Le.to (by simp) (by simp) (by simp)) ?_
    rintro ⟨i, hi, ht⟩
    by_cases a1 : i < b.length
    · have a2 : i < a.length := by omega
      have wi : IntKind.i64.wrap ((i : Int) + 1) = ((i + 1 : Nat) : Int) := by rw [wrap_i64 _ (by omega) (by omega)]; rfl
      simp -dsimp -implicitDefEqProofs [a1, a2, hl, wi]
      refine ⟨fun he => ?_, fun he => ?_⟩
      · refine Again.by ⟨i + 1, a1, ?_⟩ (Le.to (by simp [wi]) (by simp) (by simp)) (by simp; omega)
        rw [List.take_add_one, List.take_add_one, ht, List.getElem?_eq_getElem a1, List.getElem?_eq_getElem a2, he]
      · intro hab; subst hab; exact he rfl
    · have hi2 : i = b.length := by omega
      subst hi2
      rw [List.take_length, ← hl, List.take_length] at ht
      subst ht
      simp -dsimp -implicitDefEqProofs
  · have hab : a ≠ b := fun h => hl (by rw [h])
    have hl' : ¬ (a.length : Int) = b.length := by omega
    simp -dsimp -implicitDefEqProofs [Try.f8, hl, hl', hab]
end Go.Proofs.Ytockjmmogkhepaa.Sh

/- Lists of fractions, further: Big, Wide, the greatest, sums and products of the reference, SameNumbers, Chances. -/
namespace Go.Proofs.Ytockjmmogkhepaa.Sh
open Go Go.RowKit

/-- How many words a fraction has. -/
def FR.big (f : FR) : Nat := f.num.length + f.den.length
def wideF (m : Int) (l : List FR) : Bool := l.any fun f => decide (m < (f.big : Int))

set_option maxRecDepth 20000 in
theorem big_s (f : FR) (hf : f.ok) : CallsS Try.prog 20 [frS f] (I .i64 (f.big : Int)) := by
  obtain ⟨h1, h2, h3, h4⟩ := hf
  have wi : IntKind.i64.wrap ((f.num.length : Int) + (f.den.length : Int)) = ((f.num.length + f.den.length : Nat) : Int) := by rw [wrap_i64 _ (by omega) (by omega)]; omega
  refine calls Try.func20 rfl (by rfl) (by rfl) (by kernel_rfl) ?_
  simp -dsimp -implicitDefEqProofs [Try.f20, FR.big, wi]

set_option maxRecDepth 20000 in
theorem wideF_s (l : List FR) (m : Int) (hl : ∀ f ∈ l, f.ok) (h1 : l.length ≤ 1099511627776) : ∀ b, b = wideF m l → CallsS Try.prog 9 [.one (frsS l), .one (.int .i64 m)] (B b) := by
  intro b hb
  refine calls Try.func9 rfl (by rfl) (by rfl) (by kernel_rfl) ?_
  simp -dsimp -implicitDefEqProofs [Try.f9]
  refine sw_loop_e (fun p : {p : Nat × Nat // p.1 ≤ l.length ∧ wideF m (l.take p.1) = false} => SS.of [(0, .v (.one (frsS l))), (1, I .i64 m), (5, I .i64 p.1.1)] [] p.1.2)
    (fun p => l.length - p.1.1) ⟨(0, 0), Nat.zero_le _, rfl⟩ (by kernel_rfl) (Le.to (by simp) (by simp) (by simp)) ?_
  rintro ⟨⟨i, c⟩, hi, hp⟩
  simp only at hi hp
  by_cases a1 : i < l.length
  · have wi : IntKind.i64.wrap ((i : Int) + 1) = ((i + 1 : Nat) : Int) := by rw [wrap_i64 _ (by omega) (by omega)]; rfl
    have hok : l[i].ok := hl _ (List.getElem_mem a1)
    simp -dsimp -implicitDefEqProofs [a1, wi]
    refine eCall.of (big_s l[i] hok) (by simp) ?_
    by_cases c1 : m < (l[i].big : Int)
    · have hb' : b = true := by rw [hb]; exact List.any_eq_true.2 ⟨l[i], List.getElem_mem a1, by simpa using c1⟩
      simp -dsimp -implicitDefEqProofs [c1, hb']
    · simp -dsimp -implicitDefEqProofs [c1]
      refine Again.by ⟨(i + 1, c), a1, ?_⟩ (Le.to (by simp [wi]) (by simp) (by simp)) (by simp; omega)
      unfold wideF at hp ⊢
      rw [List.take_add_one, List.getElem?_eq_getElem a1, List.any_append, hp]
      simpa using c1
  · have hi2 : i = l.length := by omega
    subst hi2
    rw [List.take_length] at hp
    simp -dsimp -implicitDefEqProofs [hb, hp]

/-- The first greatest place among the first ones. -/
def mostF (l : List Rat) : Nat → Int
  | 0 => -1
  | i + 1 => if mostF l i < 0 then i else if l.getD (mostF l i).toNat 0 < l.getD i 0 then i else mostF l i

theorem mostF_spec (l : List Rat) : ∀ i, i ≤ l.length → (i = 0 ∧ mostF l i = -1) ∨ ∃ k, mostF l i = (k : Nat) ∧ k < i ∧ (∀ j, j < i → l.getD j 0 ≤ l.getD k 0) ∧ (∀ j, j < k → l.getD j 0 < l.getD k 0)
  | 0, _ => Or.inl ⟨rfl, rfl⟩
  | i + 1, h => by
    right
    rcases mostF_spec l i (by omega) with ⟨rfl, h1⟩ | ⟨k, h1, h2, h3, h4⟩
    · refine ⟨0, by simp [mostF], by omega, fun j hj => ?_, fun j hj => by omega⟩
      rw [show j = 0 by omega]; exact Rat.le_refl
    · have hk : ¬ (mostF l i < 0) := by omega
      simp only [mostF, if_neg hk]
      rw [h1, Int.toNat_natCast]
      by_cases c : l.getD k 0 < l.getD i 0
      · rw [if_pos c]
        refine ⟨i, rfl, by omega, fun j hj => ?_, fun j hj => ?_⟩
        · by_cases e : j = i
          · subst e; exact Rat.le_refl
          · have := h3 j (by omega); grind
        · have := h3 j hj; grind
      · rw [if_neg c]
        refine ⟨k, rfl, by omega, fun j hj => ?_, h4⟩
        by_cases e : j = i
        · subst e; exact Rat.not_lt.1 c
        · exact h3 j (by omega)

theorem getD_of {α : Type} {l : List α} {i : Nat} (d : α) (h : i < l.length) : l.getD i d = l[i] := by
  rw [List.getD_eq_getElem?_getD, List.getElem?_eq_getElem h]; rfl

set_option maxRecDepth 20000 in
theorem pick_s (l : List FR) (hl : ∀ f ∈ l, f.ok) (h1 : l.length ≤ 1048576) : CallsS Try.prog 68 [.one (frsS l), .one (.int .i64 1)] (I .i64 (mostF (l.map FR.fix) l.length)) := by
  have hz : ∀ q ∈ l.map FR.fix, mz q ≤ 4096 := by
    intro q hq
    obtain ⟨f, hf, rfl⟩ := List.mem_map.1 hq
    have := sz_fix (hl f hf)
    have := sz_mz f.fix
    omega
  refine calls Try.func68 rfl (by rfl) (by rfl) (by kernel_rfl) ?_
  simp -dsimp -implicitDefEqProofs [Try.f68]
  refine eCall.of (all_s l hl (by omega)) (by simp) ?_
  rw [show l.length = (l.map FR.fix).length by simp] at *
  generalize l.map FR.fix = L at *
  simp -dsimp -implicitDefEqProofs
  refine sw_loop_e (fun p : {p : Nat × Nat // p.1 ≤ L.length} => SS.of [(1, I .i64 1), (5, I .i64 (mostF L p.1.1)), (6, .v (.one (ratsS L))), (11, I .i64 L.length), (12, I .i64 p.1.1)] [] p.1.2)
    (fun p => L.length - p.1.1) ⟨(0, 0), Nat.zero_le _⟩ (by kernel_rfl) (Le.to (by simp [mostF]) (by simp) (by simp)) ?_
  rintro ⟨⟨i, c⟩, hi⟩
  simp only at hi
  by_cases a1 : i < L.length
  · have wi : IntKind.i64.wrap ((i : Int) + 1) = ((i + 1 : Nat) : Int) := by rw [wrap_i64 _ (by omega) (by omega)]; rfl
    rcases mostF_spec L i hi with ⟨rfl, h2⟩ | ⟨k, h2, h3, -, -⟩
    · simp -dsimp -implicitDefEqProofs [a1, h2]
      exact Again.by ⟨(1, c), a1⟩ (Le.to (by simp [mostF, show IntKind.i64.wrap 1 = 1 by decide]) (by simp) (by simp)) (by simp; omega)
    · have hk : k < L.length := by omega
      have ho := rorder_s L[i] L[k] (by have := sz_mz L[i]; have := hz _ (List.getElem_mem a1); have := sz_mz L[k]; have := hz _ (List.getElem_mem hk); omega)
      simp -dsimp -implicitDefEqProofs [a1, h2, hk, show ¬ ((k : Int) < 0) by omega]
      refine eCall.of ho (by simp) ?_
      by_cases c1 : L[k] < L[i]
      · have c2 : cmpQ L[i] L[k] = 1 := by
          unfold cmpQ
          rw [if_neg (by grind), if_neg (by grind)]
        have hm : mostF L (i + 1) = (i : Int) := by
          simp only [mostF]
          rw [if_neg (by omega), h2, Int.toNat_natCast, getD_of 0 hk, getD_of 0 a1, if_pos c1]
        simp -dsimp -implicitDefEqProofs [c2]
        exact Again.by ⟨(i + 1, c), a1⟩ (Le.to (by simp [wi, hm]) (by simp) (by simp)) (by simp; omega)
      · have c2 : ¬ cmpQ L[i] L[k] = 1 := by
          unfold cmpQ
          split
          · decide
          · split
            · decide
            · rename_i h h'
              grind
        have hm : mostF L (i + 1) = (k : Int) := by
          simp only [mostF]
          rw [if_neg (by omega), h2, Int.toNat_natCast, getD_of 0 hk, getD_of 0 a1, if_neg c1]
        simp -dsimp -implicitDefEqProofs [c2]
        exact Again.by ⟨(i + 1, c), a1⟩ (Le.to (by simp [wi, hm]) (by simp) (by simp)) (by simp; omega)
  · have hi2 : i = L.length := by omega
    subst hi2
    simp -dsimp -implicitDefEqProofs

set_option maxRecDepth 20000 in
theorem most_s (l : List FR) (hl : ∀ f ∈ l, f.ok) (h1 : l.length ≤ 1048576) : CallsS Try.prog 48 [.one (frsS l)] (I .i64 (mostF (l.map FR.fix) l.length)) := by
  refine calls Try.func48 rfl (by rfl) (by rfl) (by kernel_rfl) ?_
  simp -dsimp -implicitDefEqProofs [Try.f48]
  refine eCall.of (pick_s l hl h1) (by simp) ?_
  simp -dsimp -implicitDefEqProofs
end Go.Proofs.Ytockjmmogkhepaa.Sh

/- Sums and products of lists in the reference; SameNumbers, Chances. -/
namespace Go.Proofs.Ytockjmmogkhepaa.Sh
open Go Go.RowKit

theorem mz_take {l : List Rat} {B : Nat} (h : ∀ q ∈ l, mz q ≤ B) (hB : l.length * (B + 1) + 1 ≤ 2048) (i : Nat) : sz (sumQ (l.take i)) ≤ 4096 := by
  have h1 := mz_sum (l.take i) B (fun q hq => h q (List.mem_of_mem_take hq))
  have h2 : (l.take i).length ≤ l.length := by rw [List.length_take]; omega
  have h3 := Nat.mul_le_mul_right (B + 1) h2
  have := sz_mz (sumQ (l.take i))
  omega

/-- Numbers that are small enough to be added up. -/
structure Small (l : List FR) (B : Nat) : Prop where
  ok : ∀ f ∈ l, f.ok
  mz : ∀ q ∈ l.map FR.fix, mz q ≤ B
  all : l.length * (B + 1) + 1 ≤ 2048

theorem Small.len {l : List FR} {B : Nat} (h : Small l B) : l.length ≤ 2048 := by
  have := h.all
  have := Nat.le_mul_of_pos_right l.length (show 0 < B + 1 by omega)
  omega

set_option maxRecDepth 20000 in
theorem sumF_s (l : List FR) (B : Nat) (hs : Small l B) : CallsS Try.prog 38 [.one (frsS l)] (.v (fS (sumQ (l.map FR.fix)))) := by
  have h1 := hs.len
  have hsz := mz_take hs.mz (by have := hs.all; simpa using this)
  have hl := hs.ok
  refine calls Try.func38 rfl (by rfl) (by rfl) (by kernel_rfl) ?_
  simp -dsimp -implicitDefEqProofs [Try.f38]
  refine eCall.of zeroR_s (by simp) ?_
  simp -dsimp -implicitDefEqProofs
  refine sw_loop_e (fun p : {p : Nat // p ≤ l.length} => SS.of [(0, .v (.one (frsS l))), (2, .v (.one (.mp 0 0))), (3, .v (.one (.mp 1 0))), (4, I .i64 p.1)] [(0, ⟨26, [.bool false, .nils, .nils]⟩), (1, ⟨26, rowFr (frQ (sumQ ((l.map FR.fix).take p.1)))⟩)] 2)
    (fun p => l.length - p.1) ⟨0, Nat.zero_le _⟩ (by kernel_rfl) (Le.to (by simp) (by simp [sumQ, frQ, ng]) (by simp)) ?_
  rintro ⟨i, hi⟩
  by_cases a1 : i < l.length
  · have wi : IntKind.i64.wrap ((i : Int) + 1) = ((i + 1 : Nat) : Int) := by rw [wrap_i64 _ (by omega) (by omega)]; rfl
    have hok : l[i].ok := hl _ (List.getElem_mem a1)
    have ht := sumQ_take (l.map FR.fix) i (by simpa using a1)
    rw [List.getElem_map] at ht
    have z0 := hsz i
    have z1 := hsz (i + 1)
    have ha := addR_s (frQ (sumQ ((l.map FR.fix).take i))) l[i] (frQ_ok (by omega)) hok
    rw [fix_frQ z0, ← ht, cap_of z1] at ha
    simp -dsimp -implicitDefEqProofs [a1, wi]
    refine eCall.of ha (by simp) ?_
    simp -dsimp -implicitDefEqProofs
    exact Again.by ⟨i + 1, a1⟩ (Le.to (by simp [wi]) (by simp [frQ, ng]) (by simp)) (by simp; omega)
  · have hi2 : i = l.length := by omega
    subst hi2
    have e : (l.map FR.fix).take l.length = l.map FR.fix := List.take_of_length_le (by simp)
    simp -dsimp -implicitDefEqProofs [e, frQ, ng]

/-- The sum of products. -/
def dotQ : List Rat → List Rat → Rat
  | p :: l, q :: m => p * q + dotQ l m
  | _, _ => 0
def dotL (a b : List FR) : List Rat := List.zipWith (fun f g => f.fix * g.fix) a b

theorem fix_nil {f : FR} (h : ¬ 0 < f.num.length) : f.fix = 0 := by
  unfold FR.fix
  split
  · have e : f.num = [] := List.length_eq_zero_iff.1 (by omega)
    rw [e, show val [] = 0 from rfl]
    show mkRat (sg _ 0) _ = 0
    rw [show sg f.neg 0 = 0 by unfold sg; cases f.neg <;> rfl]
    exact Rat.zero_mkRat _
  · rfl

set_option maxRecDepth 20000 in
theorem dotF_s (a b : List FR) (B : Nat) (ha : ∀ f ∈ a, f.ok) (hb : ∀ f ∈ b, f.ok) (hab : a.length = b.length) (hB : ∀ q ∈ dotL a b, mz q ≤ B) (hal : (dotL a b).length * (B + 1) + 1 ≤ 2048) :
    CallsS Try.prog 18 [.one (frsS a), .one (frsS b)] (.v (fS (sumQ (dotL a b)))) := by
  have hsz := mz_take hB hal
  have dl : (dotL a b).length = a.length := by simp [dotL, hab]
  have h1 : a.length ≤ 2048 := by
    have := Nat.le_mul_of_pos_right a.length (show 0 < B + 1 by omega)
    rw [dl] at hal; omega
  refine calls Try.func18 rfl (by rfl) (by rfl) (by kernel_rfl) ?_
  simp -dsimp -implicitDefEqProofs [Try.f18]
  refine eCall.of zeroR_s (by simp) ?_
  simp -dsimp -implicitDefEqProofs
  refine sw_loop_e (fun p : {p : Nat // p ≤ a.length} => SS.of [(0, .v (.one (frsS a))), (1, .v (.one (frsS b))), (4, .v (.one (.mp 0 0))), (5, .v (.one (.mp 1 0))), (6, I .i64 p.1)] [(0, ⟨26, [.bool false, .nils, .nils]⟩), (1, ⟨26, rowFr (frQ (sumQ ((dotL a b).take p.1)))⟩)] 2)
    (fun p => a.length - p.1) ⟨0, Nat.zero_le _⟩ (by kernel_rfl) (Le.to (by simp) (by simp [sumQ, frQ, ng]) (by simp)) ?_
  rintro ⟨i, hi⟩
  by_cases a1 : i < a.length
  · have wi : IntKind.i64.wrap ((i : Int) + 1) = ((i + 1 : Nat) : Int) := by rw [wrap_i64 _ (by omega) (by omega)]; rfl
    have a2 : i < b.length := by omega
    have oka : a[i].ok := ha _ (List.getElem_mem a1)
    have okb : b[i].ok := hb _ (List.getElem_mem a2)
    have ht := sumQ_take (dotL a b) i (by omega)
    have hm : (dotL a b)[i] = a[i].fix * b[i].fix := by simp [dotL]
    rw [hm] at ht
    have z0 := hsz i
    have z1 := hsz (i + 1)
    by_cases c1 : 0 < a[i].num.length
    · by_cases c2 : 0 < b[i].num.length
      · have hmz : mz (a[i].fix * b[i].fix) ≤ B := by rw [← hm]; exact hB _ (List.getElem_mem _)
        have hBs : B ≤ 2048 := by
          have := Nat.le_mul_of_pos_left (B + 1) (show 0 < (dotL a b).length by omega)
          omega
        have z2 := sz_mz (a[i].fix * b[i].fix)
        have hmu := mulR_s a[i] b[i] oka okb
        rw [cap_of (by omega)] at hmu
        have had := addR_s (frQ (sumQ ((dotL a b).take i))) (frQ (a[i].fix * b[i].fix)) (frQ_ok (by omega)) (frQ_ok (by omega))
        rw [fix_frQ z0, fix_frQ (by omega), ← ht, cap_of z1] at had
        simp -dsimp -implicitDefEqProofs [a1, a2, wi, c1, c2]
        refine eCall.of hmu (by simp) ?_
        simp -dsimp -implicitDefEqProofs
        refine eCall.of had (by simp [frQ, ng]) ?_
        simp -dsimp -implicitDefEqProofs
        exact Again.by ⟨i + 1, a1⟩ (Le.to (by simp [wi]) (by simp [frQ, ng]) (by simp)) (by simp; omega)
      · rw [fix_nil c2, Rat.mul_zero, Rat.add_zero] at ht
        simp -dsimp -implicitDefEqProofs [a1, a2, wi, c1, c2]
        exact Again.by ⟨i + 1, a1⟩ (Le.to (by simp [wi]) (by simp [ht]) (by simp)) (by simp; omega)
    · rw [fix_nil c1, Rat.zero_mul, Rat.add_zero] at ht
      simp -dsimp -implicitDefEqProofs [a1, a2, wi, c1]
      exact Again.by ⟨i + 1, a1⟩ (Le.to (by simp [wi]) (by simp [ht]) (by simp)) (by simp; omega)
  · have hi2 : i = a.length := by omega
    subst hi2
    have e : (dotL a b).take a.length = dotL a b := List.take_of_length_le (by omega)
    simp -dsimp -implicitDefEqProofs [e, frQ, ng]

set_option maxRecDepth 20000 in
theorem sameNumbers_s (a b : List FR) (ha : ∀ f ∈ a, f.ok) (hb : ∀ f ∈ b, f.ok) (h1 : a.length ≤ 1048576) (h : a.map FR.fix = b.map FR.fix) :
    CallsS Try.prog 15 [.one (frsS a), .one (frsS b)] (B true) := by
  have hab : a.length = b.length := by have := congrArg List.length h; simpa using this
  refine calls Try.func15 rfl (by rfl) (by rfl) (by kernel_rfl) ?_
  simp -dsimp -implicitDefEqProofs [Try.f15, hab]
  refine sw_loop_e (fun p : {p : Nat // p ≤ a.length} => SS.of [(0, .v (.one (frsS a))), (1, .v (.one (frsS b))), (5, I .i64 p.1)] [] 0)
    (fun p => a.length - p.1) ⟨0, Nat.zero_le _⟩ (by kernel_rfl) (Le.to (by simp) (by simp) (by simp)) ?_
  rintro ⟨i, hi⟩
  by_cases a1 : i < a.length
  · have wi : IntKind.i64.wrap ((i : Int) + 1) = ((i + 1 : Nat) : Int) := by rw [wrap_i64 _ (by omega) (by omega)]; rfl
    have a2 : i < b.length := by omega
    have hs := sameR_s a[i] b[i] (ha _ (List.getElem_mem a1)) (hb _ (List.getElem_mem a2))
    have he : a[i].fix = b[i].fix := by
      have h2 : (a.map FR.fix)[i]'(by simpa using a1) = (b.map FR.fix)[i]'(by simpa using a2) := by simp only [h]
      simpa using h2
    rw [decide_eq_true he] at hs
    simp -dsimp -implicitDefEqProofs [a1, a2, wi]
    refine eCall.of hs (by simp) ?_
    simp -dsimp -implicitDefEqProofs
    exact Again.by ⟨i + 1, a1⟩ (Le.to (by simp [wi]) (by simp) (by simp)) (by simp; omega)
  · have hi2 : i = a.length := by omega
    simp -dsimp -implicitDefEqProofs [hi2, hab]

theorem sgnQ_nn {q : Rat} (h : 0 ≤ q) : ¬ sgnQ q < 0 := mt sgnQ_neg.1 (Rat.not_lt.2 h)

set_option maxRecDepth 20000 in
theorem chancesR_s (l : List FR) (B' : Nat) (hs : Small l B') (hp : ∀ f ∈ l, 0 ≤ f.fix) (h : sumQ (l.map FR.fix) = 1) : CallsS Try.prog 16 [.one (frsS l)] (B true) := by
  have h1 := hs.len
  have hsz := mz_take hs.mz (by have := hs.all; simpa using this)
  have hl := hs.ok
  have i0 := intR_s 0 (by decide) (by decide)
  have i1 := intR_s 1 (by decide) (by decide)
  obtain ⟨o1, o2, o3⟩ := fix_one
  refine calls Try.func16 rfl (by rfl) (by rfl) (by kernel_rfl) ?_
  simp -dsimp -implicitDefEqProofs [Try.f16]
  refine eCall.of i0 (by simp) ?_
  simp -dsimp -implicitDefEqProofs
  refine sw_loop_e (fun p : {p : Nat // p ≤ l.length} => SS.of [(0, .v (.one (frsS l))), (3, .v (.one (.mp 0 0))), (4, I .i64 p.1)] [(0, ⟨26, rowFr (frQ (sumQ ((l.map FR.fix).take p.1)))⟩)] 1)
    (fun p => l.length - p.1) ⟨0, Nat.zero_le _⟩ (by kernel_rfl) (Le.to (by simp) (by simp [sumQ, frQ, ng]) (by simp)) ?_
  rintro ⟨i, hi⟩
  by_cases a1 : i < l.length
  · have wi : IntKind.i64.wrap ((i : Int) + 1) = ((i + 1 : Nat) : Int) := by rw [wrap_i64 _ (by omega) (by omega)]; rfl
    have hok : l[i].ok := hl _ (List.getElem_mem a1)
    have ht := sumQ_take (l.map FR.fix) i (by simpa using a1)
    rw [List.getElem_map] at ht
    have z0 := hsz i
    have z1 := hsz (i + 1)
    have ha := addR_s (frQ (sumQ ((l.map FR.fix).take i))) l[i] (frQ_ok (by omega)) hok
    rw [fix_frQ z0, ← ht, cap_of z1] at ha
    simp -dsimp -implicitDefEqProofs [a1, wi]
    refine eCall.of (signR_s l[i] hok) (by simp) ?_
    have hs : ¬ sgnQ l[i].fix < 0 := sgnQ_nn (hp _ (List.getElem_mem a1))
    simp -dsimp -implicitDefEqProofs [hs, a1]
    refine eCall.of ha (by simp [frQ, ng]) ?_
    simp -dsimp -implicitDefEqProofs
    exact Again.by ⟨i + 1, a1⟩ (Le.to (by simp [wi]) (by simp [frQ, ng]) (by simp)) (by simp; omega)
  · have hi2 : i = l.length := by omega
    subst hi2
    have e : (l.map FR.fix).take l.length = l.map FR.fix := List.take_of_length_le (by simp)
    have hsm := sameR_s (frQ 1) (frQ 1) o2 o2
    rw [decide_eq_true rfl, frS_frQ] at hsm
    simp -dsimp -implicitDefEqProofs [e, h]
    refine eCall.of i1 (by simp) ?_
    simp -dsimp -implicitDefEqProofs
    refine eCall.of hsm (by simp [frQ, ng]) ?_
    simp -dsimp -implicitDefEqProofs
end Go.Proofs.Ytockjmmogkhepaa.Sh

/- A thing is sold at the second price: the reference's Second, crowd's Second; lists joined. -/
namespace Go.Proofs.Ytockjmmogkhepaa.Sh
open Go Go.RowKit

/-- Who wins, and what it pays. -/
inductive Win (l : List Rat) : Int → Rat → Prop where
  | no (h : ∀ j, j < l.length → l.getD j 0 ≤ 0) : Win l (-1) 0
  | yes (k : Nat) (p : Rat) (h1 : k < l.length) (h2 : 0 < l.getD k 0) (h3 : ∀ j, j < l.length → l.getD j 0 ≤ l.getD k 0) (h4 : ∀ j, j < k → l.getD j 0 < l.getD k 0)
      (h5 : 0 ≤ p) (h6 : ∀ j, j < l.length → j ≠ k → l.getD j 0 ≤ p) (h7 : p = 0 ∨ ∃ j, j < l.length ∧ j ≠ k ∧ l.getD j 0 = p) : Win l k p

/-- The winner among the first ones, and its bid. -/
def topI (l : List Rat) : Nat → Int × Rat
  | 0 => (-1, 0)
  | i + 1 => if (topI l i).2 < l.getD i 0 then (i, l.getD i 0) else topI l i

theorem topI_spec (l : List Rat) : ∀ i, i ≤ l.length → (topI l i = (-1, 0) ∧ ∀ j, j < i → l.getD j 0 ≤ 0) ∨
    ∃ k : Nat, topI l i = ((k : Int), l.getD k 0) ∧ k < i ∧ 0 < l.getD k 0 ∧ (∀ j, j < i → l.getD j 0 ≤ l.getD k 0) ∧ (∀ j, j < k → l.getD j 0 < l.getD k 0)
  | 0, _ => Or.inl ⟨rfl, fun j hj => by omega⟩
  | i + 1, h => by
    simp only [topI]
    rcases topI_spec l i (by omega) with ⟨h1, h2⟩ | ⟨k, h1, h2, h3, h4, h5⟩
    · rw [h1]
      by_cases c : (0 : Rat) < l.getD i 0
      · rw [if_pos c]
        refine Or.inr ⟨i, rfl, by omega, c, fun j hj => ?_, fun j hj => ?_⟩
        · by_cases e : j = i
          · subst e; exact Rat.le_refl
          · have := h2 j (by omega); grind
        · have := h2 j hj; grind
      · rw [if_neg c]
        refine Or.inl ⟨rfl, fun j hj => ?_⟩
        by_cases e : j = i
        · subst e; exact Rat.not_lt.1 c
        · exact h2 j (by omega)
    · rw [h1]
      by_cases c : l.getD k 0 < l.getD i 0
      · rw [if_pos c]
        refine Or.inr ⟨i, rfl, by omega, by grind, fun j hj => ?_, fun j hj => ?_⟩
        · by_cases e : j = i
          · subst e; exact Rat.le_refl
          · have := h4 j (by omega); grind
        · have := h4 j hj; grind
      · rw [if_neg c]
        refine Or.inr ⟨k, rfl, by omega, h3, fun j hj => ?_, h5⟩
        by_cases e : j = i
        · subst e; exact Rat.not_lt.1 c
        · exact h4 j (by omega)

/-- The price among the first ones. -/
def payI (l : List Rat) (k : Int) : Nat → Rat
  | 0 => 0
  | i + 1 => if (i : Int) ≠ k ∧ payI l k i < l.getD i 0 then l.getD i 0 else payI l k i

theorem payI_spec (l : List Rat) (k : Nat) : ∀ i, i ≤ l.length → 0 ≤ payI l k i ∧ (∀ j, j < i → j ≠ k → l.getD j 0 ≤ payI l k i) ∧ (payI l k i = 0 ∨ ∃ j, j < i ∧ j ≠ k ∧ l.getD j 0 = payI l k i)
  | 0, _ => ⟨Rat.le_refl, fun j hj => by omega, Or.inl rfl⟩
  | i + 1, h => by
    obtain ⟨h1, h2, h3⟩ := payI_spec l k i (by omega)
    simp only [payI]
    by_cases c : (i : Int) ≠ k ∧ payI l k i < l.getD i 0
    · rw [if_pos c]
      refine ⟨by grind, fun j hj hk => ?_, Or.inr ⟨i, by omega, by omega, rfl⟩⟩
      by_cases e : j = i
      · subst e; exact Rat.le_refl
      · have := h2 j (by omega) hk; grind
    · rw [if_neg c]
      refine ⟨h1, fun j hj hk => ?_, ?_⟩
      · by_cases e : j = i
        · subst e
          exact Rat.not_lt.1 (fun h => c ⟨by omega, h⟩)
        · exact h2 j (by omega) hk
      · rcases h3 with h3 | ⟨j, h3, h4, h5⟩
        · exact Or.inl h3
        · exact Or.inr ⟨j, by omega, h4, h5⟩

/-- The winner and the price. -/
def win (l : List Rat) : Int × Rat := ((topI l l.length).1, if (topI l l.length).1 < 0 then 0 else payI l (topI l l.length).1 l.length)
theorem win_spec (l : List Rat) : Win l (win l).1 (win l).2 := by
  unfold win
  rcases topI_spec l l.length (Nat.le_refl _) with ⟨h1, h2⟩ | ⟨k, h1, h2, h3, h4, h5⟩
  · rw [h1]; exact .no h2
  · rw [h1]
    obtain ⟨p1, p2, p3⟩ := payI_spec l k l.length (Nat.le_refl _)
    rw [if_neg (show ¬ ((k : Int), l.getD k 0).1 < 0 by show ¬ (k : Int) < 0; omega)]
    exact .yes k _ h2 h3 h4 h5 p1 p2 p3

theorem most_top (l : List Rat) : (mostF l l.length < 0 → topI l l.length = (-1, 0)) ∧ (∀ k : Nat, mostF l l.length = k → k < l.length ∧ topI l l.length = if l.getD k 0 ≤ 0 then (-1, 0) else ((k : Int), l.getD k 0)) := by
  rcases mostF_spec l l.length (Nat.le_refl _) with ⟨h0, h1⟩ | ⟨k, h1, h2, h3, h4⟩
  · refine ⟨fun _ => by rw [h0]; rfl, fun k hk => by omega⟩
  · refine ⟨fun h => by omega, fun k' hk' => ?_⟩
    obtain rfl : k = k' := by omega
    refine ⟨h2, ?_⟩
    rcases topI_spec l l.length (Nat.le_refl _) with ⟨g1, g2⟩ | ⟨m, g1, g2, g3, g4, g5⟩
    · rw [if_pos (g2 k h2)]; exact g1
    · have e1 := g4 k h2
      have e2 := h3 m g2
      rw [if_neg (by grind), g1]
      by_cases c : m = k
      · rw [c]
      · rcases Nat.lt_or_gt_of_ne c with c | c
        · have := h4 m c; grind
        · have := g5 k c; grind
end Go.Proofs.Ytockjmmogkhepaa.Sh

