/- A part of the proof: W23, R1, R2, R3, R4, R5, R6, R7 -/
import Derived.Test.YtockjmmogkhepaaL9
set_option linter.unusedSimpArgs false
set_option linter.unusedVariables false
/- What the functions on words come to: the greatest common divisor. -/
namespace Go.Proofs.Ytockjmmogkhepaa.Sh
open Go Go.RowKit

theorem toW_len_zero {b : Nat} : (toW b).length = 0 ↔ b = 0 := by rw [List.length_eq_zero_iff, toW_eq_nil]

set_option maxRecDepth 20000 in
theorem common_s (a b : Nat) (h1 : (toW a).length ≤ 17592186044416) (h2 : (toW b).length ≤ 17592186044416) : CallsS Try.prog 64 [.one (nS a), .one (nS b)] (.v (.one (nS (Nat.gcd a b)))) := by
  refine calls Try.func64 rfl (by rfl) (by rfl) (by kernel_rfl) ?_
  simp -dsimp -implicitDefEqProofs [Try.f64]
  refine sw_loop_e (fun p : {p : Nat × Nat × Nat // Nat.gcd p.1 p.2.1 = Nat.gcd a b ∧ (toW p.1).length ≤ 17592186044416 ∧ (toW p.2.1).length ≤ 17592186044416} => SS.of [(0, .v (.one (nS p.1.1))), (1, .v (.one (nS p.1.2.1)))] [] p.1.2.2)
    (fun p => p.1.2.1) ⟨(a, b, 0), rfl, h1, h2⟩ (by kernel_rfl) (Le.to (by simp) (by simp) (by simp)) ?_
  rintro ⟨⟨x, y, c⟩, hg, hx, hy⟩
  simp only at hg hx hy
  have again : y ≠ 0 → ∀ σ : SS, (σ.t 0).sub (.v (.one (nS y))) → (σ.t 1).sub (.v (.one (nS (x % y)))) → σ.n ≤ c + 1 → Again (fun p : {p : Nat × Nat × Nat // Nat.gcd p.1 p.2.1 = Nat.gcd a b ∧ (toW p.1).length ≤ 17592186044416 ∧ (toW p.2.1).length ≤ 17592186044416} => SS.of [(0, .v (.one (nS p.1.1))), (1, .v (.one (nS p.1.2.1)))] [] p.1.2.2) (fun p => p.1.2.1) y σ := fun y0 σ h0 h1 hn =>
    Again.by ⟨(y, x % y, c + 1), by simp only; rw [Nat.gcd_comm, ← Nat.gcd_rec, Nat.gcd_comm]; exact hg, hy, Nat.le_trans (len_mono (Nat.le_of_lt (Nat.mod_lt x (by omega)))) hy⟩ (Le.to (by simpa using ⟨h0, h1⟩) (by simp) hn) (Nat.mod_lt x (by omega))
  rcases Nat.lt_or_ge 2 (toW y).length with c1 | c1
  · have y0 : y ≠ 0 := by intro h; rw [← toW_len_zero] at h; omega
    have c1' : (2 : Int) < (toW y).length := by omega
    simp -dsimp -implicitDefEqProofs [c1']
    refine eCall.of (parts_s x y y0 hx hy) (by simp) ?_
    simp -dsimp -implicitDefEqProofs
    exact again y0 _ (by simp) (by simp) (by simp)
  · have c1' : ¬ ((2 : Int) < (toW y).length) := by omega
    by_cases y0 : y = 0
    · subst y0
      rw [Nat.gcd_zero_right] at hg
      rcases Nat.lt_or_ge 2 (toW x).length with c2 | c2
      · have c2' : (2 : Int) < (toW x).length := by omega
        simp -dsimp -implicitDefEqProofs [c2', toW_zero, hg]
      · have c2' : ¬ ((2 : Int) < (toW x).length) := by omega
        simp -dsimp -implicitDefEqProofs [c2', toW_zero, hg]
    · have c3 : 0 < (toW y).length := by have := mt toW_len_zero.1 y0; omega
      have c3' : (0 : Int) < (toW y).length := by omega
      rcases Nat.lt_or_ge 2 (toW x).length with c2 | c2
      · have c2' : (2 : Int) < (toW x).length := by omega
        simp -dsimp -implicitDefEqProofs [c1', c2', c3', c3]
        refine eCall.of (parts_s x y y0 hx hy) (by simp) ?_
        simp -dsimp -implicitDefEqProofs
        exact again y0 _ (by simp) (by simp) (by simp)
      · have c2' : ¬ ((2 : Int) < (toW x).length) := by omega
        have x64 := two_words c2
        have y64 := two_words c1
        have c4 : ¬ (toW y).length = 0 := by omega
        simp -dsimp -implicitDefEqProofs [c1', c2', c3', c3, c4]
        refine eCall.of (smallR_s (toW x) (toW_inW x) c2) (by simp) ?_
        simp -dsimp -implicitDefEqProofs [val_toW]
        refine eCall.of (smallR_s (toW y) (toW_inW y) c1) (by simp) ?_
        simp -dsimp -implicitDefEqProofs [val_toW]
        refine sw_loop_e (fun p : {p : Nat × Nat // Nat.gcd p.1 p.2 = Nat.gcd a b ∧ p.1 < 18446744073709551616 ∧ p.2 < 18446744073709551616} => SS.of [(6, I .u64 p.1.1), (7, I .u64 p.1.2)] [] c)
          (fun p => p.1.2) ⟨(x, y), hg, x64, y64⟩ (by kernel_rfl) (Le.to (by simp) (by simp) (by simp)) ?_
        rintro ⟨⟨u, v⟩, hg2, hu, hv⟩
        simp only at hg2 hu hv
        by_cases v0 : v = 0
        · subst v0
          rw [Nat.gcd_zero_right] at hg2
          simp -dsimp -implicitDefEqProofs
          refine eCall.of (wide_s u hu) (by simp) ?_
          simp -dsimp -implicitDefEqProofs [hg2]
        · have v1 : (0 : Int) < v := by omega
          have v2 : 0 < v := by omega
          have d2 : (u : Int).tmod v = ((u % v : Nat) : Int) := by rw [Int.tmod_eq_emod_of_nonneg (by omega)]; rfl
          have lt := Nat.mod_lt u v2
          simp -dsimp -implicitDefEqProofs [v0, v1, v2]
          exact Again.by ⟨(v, u % v), by simp only; rw [Nat.gcd_comm, ← Nat.gcd_rec, Nat.gcd_comm]; exact hg2, hv, by simp only; omega⟩ (Le.to (by simp [d2]) (by simp) (by simp)) lt

set_option maxRecDepth 20000 in
theorem gcd_s (a b : Nat) (h1 : (toW a).length ≤ 17592186044416) (h2 : (toW b).length ≤ 17592186044416) : CallsS Try.prog 84 [.one (nS a), .one (nS b)] (.v (.one (nS (Nat.gcd a b)))) := by
  refine calls Try.func84 rfl (by rfl) (by rfl) (by kernel_rfl) ?_
  simp -dsimp -implicitDefEqProofs [Try.f84]
  refine sw_loop_e (fun p : {p : Nat × Nat // Nat.gcd p.1 p.2 = Nat.gcd a b ∧ (toW p.1).length ≤ 17592186044416 ∧ (toW p.2).length ≤ 17592186044416} => SS.of [(0, .v (.one (nS p.1.1))), (1, .v (.one (nS p.1.2)))] [] 0)
    (fun p => p.1.2) ⟨(a, b), rfl, h1, h2⟩ (by kernel_rfl) (Le.to (by simp) (by simp) (by simp)) ?_
  rintro ⟨⟨x, y⟩, hg, hx, hy⟩
  simp only at hg hx hy
  by_cases y0 : y = 0
  · subst y0
    rw [Nat.gcd_zero_right] at hg
    simp -dsimp -implicitDefEqProofs [toW_zero, hg]
  · have c3 : 0 < (toW y).length := by have := mt toW_len_zero.1 y0; omega
    have c3' : (0 : Int) < (toW y).length := by omega
    have again : ∀ σ : SS, (σ.t 0).sub (.v (.one (nS y))) → (σ.t 1).sub (.v (.one (nS (x % y)))) → σ.n ≤ 0 → Again (fun p : {p : Nat × Nat // Nat.gcd p.1 p.2 = Nat.gcd a b ∧ (toW p.1).length ≤ 17592186044416 ∧ (toW p.2).length ≤ 17592186044416} => SS.of [(0, .v (.one (nS p.1.1))), (1, .v (.one (nS p.1.2)))] [] 0) (fun p => p.1.2) y σ := fun σ h0 h1 hn =>
      Again.by ⟨(y, x % y), by simp only; rw [Nat.gcd_comm, ← Nat.gcd_rec, Nat.gcd_comm]; exact hg, hy, Nat.le_trans (len_mono (Nat.le_of_lt (Nat.mod_lt x (by omega)))) hy⟩ (Le.to (by simpa using ⟨h0, h1⟩) (by simp) hn) (Nat.mod_lt x (by omega))
    simp -dsimp -implicitDefEqProofs [c3, c3']
    refine eCall.of (wsmall_s (toW x) (toW_inW x)) (by simp) ?_
    rw [smallL_toW]
    have tail : ∀ r, CallsS Try.prog 86 [.one (nS x), .one (nS y)] r → CallsS Try.prog 86 [.one (nS x), .one (nS y)] r := fun r h => h
    have hdiv := div_s x y y0 hx hy
    by_cases c2 : (toW x).length ≤ 2
    · rw [if_pos c2]
      simp -dsimp -implicitDefEqProofs
      refine eCall.of (wsmall_s (toW y) (toW_inW y)) (by simp) ?_
      rw [smallL_toW]
      by_cases c1 : (toW y).length ≤ 2
      · rw [if_pos c1]
        have x64 := two_words c2
        have y64 := two_words c1
        simp -dsimp -implicitDefEqProofs
        refine sw_loop_e (fun p : {p : Nat × Nat // Nat.gcd p.1 p.2 = Nat.gcd a b ∧ p.1 < 18446744073709551616 ∧ p.2 < 18446744073709551616} => SS.of [(5, I .u64 p.1.1), (7, I .u64 p.1.2)] [] 0)
          (fun p => p.1.2) ⟨(x, y), hg, x64, y64⟩ (by kernel_rfl) (Le.to (by simp) (by simp) (by simp)) ?_
        rintro ⟨⟨u, v⟩, hg2, hu, hv⟩
        simp only at hg2 hu hv
        by_cases v0 : v = 0
        · subst v0
          rw [Nat.gcd_zero_right] at hg2
          simp -dsimp -implicitDefEqProofs
          refine eCall.of (of_s u hu) (by simp) ?_
          simp -dsimp -implicitDefEqProofs [hg2]
        · have v1 : ¬ (v : Int) = 0 := by omega
          have v2 : 0 < v := by omega
          have d2 : (u : Int).tmod v = ((u % v : Nat) : Int) := by rw [Int.tmod_eq_emod_of_nonneg (by omega)]; rfl
          have lt := Nat.mod_lt u v2
          simp -dsimp -implicitDefEqProofs [v0, v1]
          exact Again.by ⟨(v, u % v), by simp only; rw [Nat.gcd_comm, ← Nat.gcd_rec, Nat.gcd_comm]; exact hg2, hv, by simp only; omega⟩ (Le.to (by simp [d2]) (by simp) (by simp)) lt
      · rw [if_neg c1]
        simp -dsimp -implicitDefEqProofs
        refine eCall.of hdiv (by simp) ?_
        simp -dsimp -implicitDefEqProofs
        exact again _ (by simp) (by simp) (by simp)
    · rw [if_neg c2]
      simp -dsimp -implicitDefEqProofs
      refine eCall.of hdiv (by simp) ?_
      simp -dsimp -implicitDefEqProofs
      exact again _ (by simp) (by simp) (by simp)
end Go.Proofs.Ytockjmmogkhepaa.Sh

/- Fractions as data; frac's functions on them: reduced, whole. -/
namespace Go.Proofs.Ytockjmmogkhepaa.Sh
open Go Go.RowKit

/-- How many words a number has. -/
def wl (n : Nat) : Nat := (toW n).length
theorem wl_def (n : Nat) : (toW n).length = wl n := rfl
theorem wl_mono {a b : Nat} (h : a ≤ b) : wl a ≤ wl b := len_mono h
theorem wl_mul (a b : Nat) : wl (a * b) ≤ wl a + wl b := by
  refine toW_len_lt ?_
  rw [Nat.pow_add]
  exact Nat.mul_lt_mul'' (toW_lt a) (toW_lt b)
theorem wl_add (a b : Nat) : wl (a + b) ≤ max (wl a) (wl b) + 1 := by
  refine toW_len_lt ?_
  have h1 := toW_lt a
  have h2 := toW_lt b
  have h3 := Nat.pow_le_pow_right (show 0 < 4294967296 by decide) (show (toW a).length ≤ max (wl a) (wl b) from Nat.le_max_left _ _)
  have h4 := Nat.pow_le_pow_right (show 0 < 4294967296 by decide) (show (toW b).length ≤ max (wl a) (wl b) from Nat.le_max_right _ _)
  rw [Nat.pow_succ]
  omega
theorem wl_div (a b : Nat) : wl (a / b) ≤ wl a := wl_mono (Nat.div_le_self a b)
theorem wl_one : wl 1 = 1 := by rw [wl, toW_one]; rfl
theorem wl_zero : wl 0 = 0 := by rw [wl, toW_zero]; rfl
theorem wl_pos {n : Nat} (h : n ≠ 0) : 1 ≤ wl n := by have := mt toW_len_zero.1 h; rw [wl_def] at this; omega
theorem wl_u64 {n : Nat} (h : n < 18446744073709551616) : wl n ≤ 2 := toW_len_lt (k := 2) (by omega)

/-- How many words a fraction has. -/
def sz (q : Rat) : Nat := wl q.num.natAbs + wl q.den

/-- A fraction in frac: the words above, below, the sign. -/
@[simp] def ratS (q : Rat) : SV := .agg [nS q.num.natAbs, nS q.den, .bool (decide (q.num < 0))]
/-- A fraction as it is told. -/
@[simp] def fS (q : Rat) : SV := .agg [.bool (decide (q.num < 0)), nS q.num.natAbs, nS q.den]

def sg (neg : Bool) (a : Nat) : Int := if neg then -(a : Int) else a
def mkQ (neg : Bool) (a b : Nat) : Rat := mkRat (sg neg a) b

theorem sg_natAbs (neg : Bool) (a : Nat) : (sg neg a).natAbs = a := by unfold sg; split <;> omega

theorem mkQ_zero (neg : Bool) (b : Nat) : mkQ neg 0 b = 0 := by
  unfold mkQ sg; split <;> simp

theorem mkQ_num (neg : Bool) (a b : Nat) (hb : b ≠ 0) : (mkQ neg a b).num = sg neg (a / Nat.gcd a b) := by
  unfold mkQ
  rw [Rat.num_mkRat, if_neg hb, sg_natAbs, Nat.gcd_comm]
  have hg : Nat.gcd a b ≠ 0 := by intro h; exact hb (Nat.eq_zero_of_gcd_eq_zero_right h)
  obtain ⟨c, hc⟩ := Nat.gcd_dvd_left a b
  unfold sg
  split
  · generalize Nat.gcd a b = g at *
    subst hc
    rw [Nat.mul_div_cancel_left _ (by omega)]
    have : -((g * c : Nat) : Int) = (g : Int) * -(c : Int) := by rw [Int.natCast_mul, Int.mul_neg]
    rw [this, Int.mul_ediv_cancel_left _ (by omega)]
  · rfl

theorem mkQ_abs (neg : Bool) (a b : Nat) (hb : b ≠ 0) : (mkQ neg a b).num.natAbs = a / Nat.gcd a b := by rw [mkQ_num _ _ _ hb, sg_natAbs]

theorem mkQ_den (neg : Bool) (a b : Nat) (hb : b ≠ 0) : (mkQ neg a b).den = b / Nat.gcd a b := by
  unfold mkQ
  rw [Rat.den_mkRat, if_neg hb, sg_natAbs, Nat.gcd_comm]

theorem mkQ_neg (neg : Bool) (a b : Nat) (hb : b ≠ 0) (ha : a ≠ 0) : decide ((mkQ neg a b).num < 0) = neg := by
  rw [mkQ_num _ _ _ hb]
  have : 0 < a / Nat.gcd a b := Nat.div_pos (Nat.le_of_dvd (by omega) (Nat.gcd_dvd_left a b)) (Nat.pos_of_ne_zero (fun h => hb (Nat.eq_zero_of_gcd_eq_zero_right h)))
  unfold sg
  cases neg
  · simp; exact Int.natCast_nonneg (a / Nat.gcd a b)
  · simp; omega

/-- A fraction is made of its parts. -/
theorem mkQ_self (q : Rat) : mkQ (decide (q.num < 0)) q.num.natAbs q.den = q := by
  unfold mkQ
  have : sg (decide (q.num < 0)) q.num.natAbs = q.num := by
    unfold sg
    by_cases h : q.num < 0
    · rw [decide_eq_true h, if_pos rfl]; omega
    · rw [decide_eq_false h, if_neg (by simp)]; omega
  rw [this, Rat.mkRat_self]

theorem zero_abs : (0 : Rat).num.natAbs = 0 := rfl
theorem zero_den : (0 : Rat).den = 1 := rfl

theorem sz_mkQ (neg : Bool) (a b : Nat) (hb : b ≠ 0) : sz (mkQ neg a b) ≤ wl a + wl b := by
  unfold sz
  rw [mkQ_abs _ _ _ hb, mkQ_den _ _ _ hb]
  have := wl_div a (Nat.gcd a b)
  have := wl_div b (Nat.gcd a b)
  omega

set_option maxRecDepth 20000 in
theorem reduced_s (a b : Nat) (neg : Bool) (hb : b ≠ 0) (h1 : wl a ≤ 17592186044416) (h2 : wl b ≤ 17592186044416) : CallsS Try.prog 72 [.one (nS a), .one (nS b), .one (.bool neg)] (.v (ratS (mkQ neg a b))) := by
  unfold wl at h1 h2
  by_cases a0 : a = 0
  · subst a0
    rw [mkQ_zero]
    refine calls Try.func72 rfl (by rfl) (by rfl) (by kernel_rfl) ?_
    simp -dsimp -implicitDefEqProofs [Try.f72, toW_zero, toW_one, slots, rowsOf]
  · have hl : ¬ (toW a).length = 0 := mt toW_len_zero.1 a0
    have hg0 : Nat.gcd a b ≠ 0 := by intro h; exact hb (Nat.eq_zero_of_gcd_eq_zero_right h)
    have hgl : (toW (Nat.gcd a b)).length ≤ 17592186044416 := Nat.le_trans (len_mono (Nat.gcd_le_right _ (by omega))) h2
    have ratE : ratS (mkQ neg a b) = .agg [nS (a / Nat.gcd a b), nS (b / Nat.gcd a b), .bool neg] := by
      rw [ratS, mkQ_abs _ _ _ hb, mkQ_den _ _ _ hb, mkQ_neg _ _ _ hb a0]
    rw [ratE]
    refine calls Try.func72 rfl (by rfl) (by rfl) (by kernel_rfl) ?_
    simp -dsimp -implicitDefEqProofs [Try.f72, hl]
    refine eCall.of (gcd_s a b h1 h2) (by simp) ?_
    simp -dsimp -implicitDefEqProofs
    refine eCall.of (wone_s (toW (Nat.gcd a b))) (by simp) ?_
    by_cases g1 : Nat.gcd a b = 1
    · rw [g1, toW_one]
      simp -dsimp -implicitDefEqProofs
    · have : ¬ toW (Nat.gcd a b) = [1] := by rw [← toW_one]; exact fun h => g1 (toW_inj h)
      simp -dsimp -implicitDefEqProofs [this]
      refine eCall.of (div_s a (Nat.gcd a b) hg0 h1 hgl) (by simp) ?_
      simp -dsimp -implicitDefEqProofs
      refine eCall.of (div_s b (Nat.gcd a b) hg0 h2 hgl) (by simp) ?_
      simp -dsimp -implicitDefEqProofs
end Go.Proofs.Ytockjmmogkhepaa.Sh

/- Fractions: frac's inner functions. -/
namespace Go.Proofs.Ytockjmmogkhepaa.Sh
open Go Go.RowKit

theorem ratS_int (n : Int) : ratS (n : Rat) = .agg [nS n.natAbs, nS 1, .bool (decide (n < 0))] := rfl

set_option maxRecDepth 20000 in
theorem whole_s (n : Int) (h0 : -9223372036854775808 ≤ n) (h1 : n < 9223372036854775808) : CallsS Try.prog 54 [.one (.int .i64 n)] (.v (ratS (n : Rat))) := by
  rw [ratS_int]
  refine calls Try.func54 rfl (by rfl) (by rfl) (by kernel_rfl) ?_
  by_cases hn : n < 0
  · have w1 : IntKind.i64.wrap (n + 1) = n + 1 := wrap_i64 _ (by omega) (by omega)
    have w2 : IntKind.i64.wrap (-(n + 1)) = -(n + 1) := wrap_i64 _ (by omega) (by omega)
    have w3 : IntKind.u64.wrap (-(n + 1)) = -(n + 1) := wrap_u64_id _ (by omega) (by omega)
    have w4 : IntKind.u64.wrap (-(n + 1) + 1) = (n.natAbs : Int) := by rw [wrap_u64_id _ (by omega) (by omega)]; omega
    simp -dsimp -implicitDefEqProofs [Try.f54, hn, w1, w2, w3, w4]
    refine eCall.of (of_s n.natAbs (by omega)) (by simp) ?_
    simp -dsimp -implicitDefEqProofs [slots, rowsOf, toW_one, hn]
  · have w3 : IntKind.u64.wrap n = (n.natAbs : Int) := by rw [wrap_u64_id _ (by omega) (by omega)]; omega
    simp -dsimp -implicitDefEqProofs [Try.f54, hn, w3]
    refine eCall.of (of_s n.natAbs (by omega)) (by simp) ?_
    simp -dsimp -implicitDefEqProofs [slots, rowsOf, toW_one, hn, Int.not_lt.1 hn]

set_option maxRecDepth 20000 in
theorem sign_s (q : Rat) : CallsS Try.prog 59 [ratS q] (I .i64 (if q = 0 then 0 else if q < 0 then -1 else 1)) := by
  refine calls Try.func59 rfl (by rfl) (by rfl) (by kernel_rfl) ?_
  by_cases h0 : q = 0
  · subst h0
    simp -dsimp -implicitDefEqProofs [Try.f59, toW_zero, zero_abs]
  · have hl : ¬ (toW q.num.natAbs).length = 0 := by
      intro h; rw [toW_len_zero] at h
      exact h0 (Rat.num_eq_zero.1 (by omega))
    have hlt : q < 0 ↔ q.num < 0 := by rw [Rat.lt_iff]; simp
    by_cases h1 : q.num < 0
    · simp -dsimp -implicitDefEqProofs [Try.f59, hl, h0, h1, hlt]
    · simp -dsimp -implicitDefEqProofs [Try.f59, hl, h0, h1, hlt]

theorem over_num {q : Rat} (h : q ≠ 0) : (q⁻¹).num.natAbs = q.den ∧ (q⁻¹).den = q.num.natAbs ∧ ((q⁻¹).num < 0 ↔ q.num < 0) := by
  have h0 : q.num ≠ 0 := fun h1 => h (Rat.num_eq_zero.1 h1)
  have hd := q.den_nz
  refine ⟨?_, ?_, ?_⟩
  · rw [Rat.num_inv, Int.natAbs_mul, Int.natAbs_sign_of_ne_zero h0]; simp
  · rw [Rat.den_inv, if_neg h0]
  · rw [Rat.num_inv]
    rcases Int.lt_or_lt_of_ne h0 with h1 | h1
    · rw [Int.sign_eq_neg_one_of_neg h1]; constructor
      · intro _; exact h1
      · intro _; omega
    · rw [Int.sign_eq_one_of_pos h1]; constructor
      · intro h2; omega
      · intro h2; omega

set_option maxRecDepth 20000 in
theorem over_s (q : Rat) (h : q ≠ 0) : CallsS Try.prog 56 [ratS q] (.v (ratS q⁻¹)) := by
  obtain ⟨e1, e2, e3⟩ := over_num h
  have e : ratS q⁻¹ = .agg [nS q.den, nS q.num.natAbs, .bool (decide (q.num < 0))] := by rw [ratS, e1, e2, decide_eq_decide.2 e3]
  rw [e]
  refine calls Try.func56 rfl (by rfl) (by rfl) (by kernel_rfl) ?_
  simp -dsimp -implicitDefEqProofs [Try.f56]

set_option maxRecDepth 20000 in
theorem rminus_s (q : Rat) : CallsS Try.prog 62 [ratS q] (.v (ratS (-q))) := by
  refine calls Try.func62 rfl (by rfl) (by rfl) (by kernel_rfl) ?_
  have hn : (-q).num.natAbs = q.num.natAbs := by rw [Rat.neg_num]; omega
  have hd : (-q).den = q.den := rfl
  by_cases h0 : q.num = 0
  · have e : toW q.num.natAbs = [] := by rw [h0]; exact toW_zero
    simp -dsimp -implicitDefEqProofs [Try.f62, hn, hd, h0, toW_zero]
  · have hl : 0 < (toW q.num.natAbs).length := by
      have := mt (toW_len_zero (b := q.num.natAbs)).1 (by omega); omega
    have hl' : (0 : Int) < (toW q.num.natAbs).length := by omega
    by_cases h1 : q.num < 0
    · have h2 : ¬ (0 < q.num) := by omega
      simp -dsimp -implicitDefEqProofs [Try.f62, hn, hd, h1, h2]
    · have h2 : 0 < q.num := by omega
      simp -dsimp -implicitDefEqProofs [Try.f62, hn, hd, h1, h2, hl, hl']
end Go.Proofs.Ytockjmmogkhepaa.Sh

/- Fractions: sums, products, comparing, in frac. -/
namespace Go.Proofs.Ytockjmmogkhepaa.Sh
open Go Go.RowKit

theorem mulN_s (a b : Nat) (h1 : wl a ≤ 17592186044416) (h2 : wl b ≤ 17592186044416) : CallsS Try.prog 73 [.one (nS a), .one (nS b)] (.v (.one (nS (a * b)))) := by
  have := mul_s (toW a) (toW b) (toW_inW a) (toW_inW b) (toW_trim a) (toW_trim b) h1 h2
  rwa [val_toW, val_toW, ← Int.natCast_mul, Int.toNat_natCast] at this
theorem addN_s (a b : Nat) (h1 : wl a ≤ 35184372088832) (h2 : wl b ≤ 35184372088832) : CallsS Try.prog 77 [.one (nS a), .one (nS b)] (.v (.one (nS (a + b)))) := by
  have := add_s (toW a) (toW b) (toW_inW a) (toW_inW b) h1 h2
  rwa [val_toW, val_toW, ← Int.natCast_add, Int.toNat_natCast] at this
theorem subN_s (a b : Nat) (h1 : wl a ≤ 35184372088832) (h2 : b ≤ a) : CallsS Try.prog 78 [.one (nS a), .one (nS b)] (.v (.one (nS (a - b)))) := by
  have := sub_s (toW a) (toW b) (toW_inW a) (toW_inW b) h1 (len_mono h2) (by rw [val_toW, val_toW]; omega)
  rw [val_toW, val_toW] at this
  rwa [show ((a : Int) - (b : Int)).toNat = a - b by omega] at this
theorem timesN_s (a b : Nat) (h1 : wl a ≤ 17592186044416) (h2 : wl b ≤ 17592186044416) : CallsS Try.prog 47 [.one (nS a), .one (nS b)] (.v (.one (nS (a * b)))) := by
  have := times_s (toW a) (toW b) (toW_inW a) (toW_inW b) h1 h2
  rwa [val_toW, val_toW, ← Int.natCast_mul, Int.toNat_natCast] at this
theorem plusN_s (a b : Nat) (h1 : wl a ≤ 35184372088832) (h2 : wl b ≤ 35184372088832) : CallsS Try.prog 69 [.one (nS a), .one (nS b)] (.v (.one (nS (a + b)))) := by
  have := plus_s (toW a) (toW b) (toW_inW a) (toW_inW b) h1 h2
  rwa [val_toW, val_toW, ← Int.natCast_add, Int.toNat_natCast] at this
theorem minusN_s (a b : Nat) (h1 : wl a ≤ 35184372088832) (h2 : b ≤ a) : CallsS Try.prog 70 [.one (nS a), .one (nS b)] (.v (.one (nS (a - b)))) := by
  have := minus_s (toW a) (toW b) (toW_inW a) (toW_inW b) h1 (len_mono h2) (by rw [val_toW, val_toW]; omega)
  rw [val_toW, val_toW] at this
  rwa [show ((a : Int) - (b : Int)).toNat = a - b by omega] at this

/-- The sign of a fraction. -/
def ng (q : Rat) : Bool := decide (q.num < 0)
theorem sg_self (q : Rat) : sg (ng q) q.num.natAbs = q.num := by
  unfold sg ng
  by_cases h : q.num < 0
  · rw [decide_eq_true h, if_pos rfl]; omega
  · rw [decide_eq_false h, if_neg (by simp)]; omega
theorem abs_eq_zero {q : Rat} : q.num.natAbs = 0 ↔ q = 0 := by rw [Int.natAbs_eq_zero, Rat.num_eq_zero]

theorem mul_mkQ (p q : Rat) : p * q = mkQ (ng p != ng q) (p.num.natAbs * q.num.natAbs) (p.den * q.den) := by
  rw [Rat.mul_def', mkQ]
  congr 1
  rw [← sg_self p, ← sg_self q]
  rw [sg_natAbs, sg_natAbs]
  generalize p.num.natAbs = a
  generalize q.num.natAbs = b
  have : ng p = (ng p) := rfl
  cases ng p <;> cases ng q <;> simp [sg, Int.mul_neg, Int.neg_mul]

theorem sg_add (x y : Bool) (a b : Nat) : sg x a + sg y b = if x = y then sg x (a + b) else if b < a then sg x (a - b) else if a < b then sg y (b - a) else 0 := by
  cases x <;> cases y <;> simp [sg] <;> (try split) <;> (try split) <;> omega

theorem add_mkQ (p q : Rat) : p + q = mkRat (sg (ng p) (p.num.natAbs * q.den) + sg (ng q) (q.num.natAbs * p.den)) (p.den * q.den) := by
  rw [Rat.add_def']
  congr 1
  have h1 : sg (ng p) (p.num.natAbs * q.den) = p.num * q.den := by
    rw [← sg_self p, sg_natAbs]
    generalize p.num.natAbs = a
    cases ng p <;> simp [sg, Int.neg_mul]
  have h2 : sg (ng q) (q.num.natAbs * p.den) = q.num * p.den := by
    rw [← sg_self q, sg_natAbs]
    generalize q.num.natAbs = a
    cases ng q <;> simp [sg, Int.neg_mul]
  rw [h1, h2]

theorem add_mkQ_same (p q : Rat) (h : p.den = q.den) : p + q = mkRat (sg (ng p) p.num.natAbs + sg (ng q) q.num.natAbs) p.den := by
  rw [Rat.add_def', sg_self, sg_self, ← h, ← Int.add_mul, Rat.mkRat_mul_right p.den_nz]

/-- The sum, as the code makes it. -/
theorem sum_cases (x y : Bool) (a b d : Nat) : mkRat (sg x a + sg y b) d = if x = y then mkQ x (a + b) d else if b < a then mkQ x (a - b) d else if a < b then mkQ y (b - a) d else 0 := by
  rw [sg_add]
  split
  · rfl
  · split
    · rfl
    · split
      · rfl
      · simp

set_option maxRecDepth 20000 in
theorem rtimes_s (p q : Rat) (h : sz p + sz q ≤ 17592186044416) : CallsS Try.prog 55 [ratS p, ratS q] (.v (ratS (p * q))) := by
  unfold sz at h
  have l1 := wl_mul p.num.natAbs q.num.natAbs
  have l2 := wl_mul p.den q.den
  have dn : p.den * q.den ≠ 0 := Nat.mul_ne_zero p.den_nz q.den_nz
  refine calls Try.func55 rfl (by rfl) (by rfl) (by kernel_rfl) ?_
  by_cases p0 : p = 0
  · subst p0
    rw [Rat.zero_mul]
    simp -dsimp -implicitDefEqProofs [Try.f55, toW_zero]
    refine eCall.of (whole_s 0 (by decide) (by decide)) (by simp) ?_
    simp -dsimp -implicitDefEqProofs
  · have hp : ¬ (toW p.num.natAbs).length = 0 := by rw [toW_len_zero, abs_eq_zero]; exact p0
    by_cases q0 : q = 0
    · subst q0
      rw [Rat.mul_zero]
      simp -dsimp -implicitDefEqProofs [Try.f55, toW_zero, hp]
      refine eCall.of (whole_s 0 (by decide) (by decide)) (by simp) ?_
      simp -dsimp -implicitDefEqProofs
    · have hq : ¬ (toW q.num.natAbs).length = 0 := by rw [toW_len_zero, abs_eq_zero]; exact q0
      have hred := reduced_s (p.num.natAbs * q.num.natAbs) (p.den * q.den) (ng p != ng q) dn (by omega) (by omega)
      rw [← mul_mkQ] at hred
      simp -dsimp -implicitDefEqProofs [Try.f55, hp, hq]
      refine eCall.of (mulN_s p.num.natAbs q.num.natAbs (by omega) (by omega)) (by simp) ?_
      simp -dsimp -implicitDefEqProofs
      refine eCall.of (mulN_s p.den q.den (by omega) (by omega)) (by simp) ?_
      simp -dsimp -implicitDefEqProofs
      refine eCall.of hred (by simp [ng, bne]) ?_
      simp -dsimp -implicitDefEqProofs

theorem cmpN_eq_zero {a b : Nat} : cmpN a b = 0 ↔ a = b := by
  unfold cmpN
  split
  · constructor
    · intro h; omega
    · intro h; omega
  · split
    · constructor
      · intro _; assumption
      · intro _; rfl
    · constructor
      · intro h; omega
      · intro h; contradiction

set_option maxRecDepth 20000 in
theorem plus_gen (a b d e : Nat) (np nq : Bool) (hd0 : d ≠ 0) (he0 : e ≠ 0) (h : wl a + wl b + wl d + wl e ≤ 17592186044415) :
    CallsS Try.prog 61 [.agg [nS a, nS d, .bool np], .agg [nS b, nS e, .bool nq]] (.v (ratS (if d = e then mkRat (sg np a + sg nq b) d else mkRat (sg np (a * e) + sg nq (b * d)) (d * e)))) := by
  have l1 := wl_mul a e
  have l2 := wl_mul b d
  have l3 := wl_mul d e
  have dn : d * e ≠ 0 := Nat.mul_ne_zero hd0 he0
  by_cases hd : d = e
  · subst hd
    rw [if_pos rfl]
    refine calls Try.func61 rfl (by rfl) (by rfl) (by kernel_rfl) ?_
    simp -dsimp -implicitDefEqProofs [Try.f61]
    refine eCall.of (cmp_s d d (by rw [wl_def]; omega) (by rw [wl_def]; omega)) (by simp) ?_
    simp -dsimp -implicitDefEqProofs [cmpN_eq (rfl : d = d)]
    have l4 := wl_add a b
    have e1 := sum_cases np nq a b (d)
    by_cases hn : np = nq
    · subst hn
      rw [if_pos rfl] at e1
      have hred := reduced_s (a + b) (d) np hd0 (by omega) (by omega)
      rw [← e1] at hred
      simp -dsimp -implicitDefEqProofs
      refine eCall.of (addN_s (a) (b) (by omega) (by omega)) (by simp) ?_
      simp -dsimp -implicitDefEqProofs
      refine eCall.of hred (by simp) ?_
      simp -dsimp -implicitDefEqProofs
    · rw [if_neg hn] at e1
      have hnb : (np == nq) = false := by simpa using hn
      simp -dsimp -implicitDefEqProofs [hnb]
      refine eCall.of (cmp_s (a) (b) (by rw [wl_def]; omega) (by rw [wl_def]; omega)) (by simp) ?_
      rcases Nat.lt_trichotomy (a) (b) with hc | hc | hc
      · rw [if_neg (by omega), if_pos hc] at e1
        have lm := wl_mono (show b - (a) ≤ b by omega)
        have hred := reduced_s (b - (a)) (d) nq hd0 (by omega) (by omega)
        rw [← e1] at hred
        simp -dsimp -implicitDefEqProofs [cmpN_lt hc]
        refine eCall.of (subN_s (b) (a) (by omega) (by omega)) (by simp) ?_
        simp -dsimp -implicitDefEqProofs
        refine eCall.of hred (by simp) ?_
        simp -dsimp -implicitDefEqProofs
      · rw [if_neg (by omega), if_neg (by omega)] at e1
        rw [e1]
        simp -dsimp -implicitDefEqProofs [cmpN_eq hc]
        refine eCall.of (whole_s 0 (by decide) (by decide)) (by simp) ?_
        simp -dsimp -implicitDefEqProofs
      · rw [if_pos hc] at e1
        have lm := wl_mono (show a - (b) ≤ a by omega)
        have hred := reduced_s (a - (b)) (d) np hd0 (by omega) (by omega)
        rw [← e1] at hred
        simp -dsimp -implicitDefEqProofs [cmpN_gt hc]
        refine eCall.of (subN_s (a) (b) (by omega) (by omega)) (by simp) ?_
        simp -dsimp -implicitDefEqProofs
        refine eCall.of hred (by simp) ?_
        simp -dsimp -implicitDefEqProofs
  · rw [if_neg hd]
    have hc : ¬ cmpN d e = 0 := mt cmpN_eq_zero.1 hd
    refine calls Try.func61 rfl (by rfl) (by rfl) (by kernel_rfl) ?_
    simp -dsimp -implicitDefEqProofs [Try.f61]
    refine eCall.of (cmp_s d e (by rw [wl_def]; omega) (by rw [wl_def]; omega)) (by simp) ?_
    simp -dsimp -implicitDefEqProofs [hc]
    refine eCall.of (mulN_s a e (by omega) (by omega)) (by simp) ?_
    simp -dsimp -implicitDefEqProofs
    refine eCall.of (mulN_s b d (by omega) (by omega)) (by simp) ?_
    simp -dsimp -implicitDefEqProofs
    refine eCall.of (mulN_s d e (by omega) (by omega)) (by simp) ?_
    simp -dsimp -implicitDefEqProofs
    have l4 := wl_add (a * e) (b * d)
    have e1 := sum_cases np nq (a * e) (b * d) (d * e)
    by_cases hn : np = nq
    · subst hn
      rw [if_pos rfl] at e1
      have hred := reduced_s (a * e + b * d) (d * e) np dn (by omega) (by omega)
      rw [← e1] at hred
      simp -dsimp -implicitDefEqProofs
      refine eCall.of (addN_s (a * e) (b * d) (by omega) (by omega)) (by simp) ?_
      simp -dsimp -implicitDefEqProofs
      refine eCall.of hred (by simp) ?_
      simp -dsimp -implicitDefEqProofs
    · rw [if_neg hn] at e1
      have hnb : (np == nq) = false := by simpa using hn
      simp -dsimp -implicitDefEqProofs [hnb]
      refine eCall.of (cmp_s (a * e) (b * d) (by rw [wl_def]; omega) (by rw [wl_def]; omega)) (by simp) ?_
      rcases Nat.lt_trichotomy (a * e) (b * d) with hc | hc | hc
      · rw [if_neg (by omega), if_pos hc] at e1
        have lm := wl_mono (show b * d - (a * e) ≤ b * d by omega)
        have hred := reduced_s (b * d - (a * e)) (d * e) nq dn (by omega) (by omega)
        rw [← e1] at hred
        simp -dsimp -implicitDefEqProofs [cmpN_lt hc]
        refine eCall.of (subN_s (b * d) (a * e) (by omega) (by omega)) (by simp) ?_
        simp -dsimp -implicitDefEqProofs
        refine eCall.of hred (by simp) ?_
        simp -dsimp -implicitDefEqProofs
      · rw [if_neg (by omega), if_neg (by omega)] at e1
        rw [e1]
        simp -dsimp -implicitDefEqProofs [cmpN_eq hc]
        refine eCall.of (whole_s 0 (by decide) (by decide)) (by simp) ?_
        simp -dsimp -implicitDefEqProofs
      · rw [if_pos hc] at e1
        have lm := wl_mono (show a * e - (b * d) ≤ a * e by omega)
        have hred := reduced_s (a * e - (b * d)) (d * e) np dn (by omega) (by omega)
        rw [← e1] at hred
        simp -dsimp -implicitDefEqProofs [cmpN_gt hc]
        refine eCall.of (subN_s (a * e) (b * d) (by omega) (by omega)) (by simp) ?_
        simp -dsimp -implicitDefEqProofs
        refine eCall.of hred (by simp) ?_
        simp -dsimp -implicitDefEqProofs

theorem rplus_s (p q : Rat) (h : sz p + sz q ≤ 17592186044415) : CallsS Try.prog 61 [ratS p, ratS q] (.v (ratS (p + q))) := by
  unfold sz at h
  have := plus_gen p.num.natAbs q.num.natAbs p.den q.den (ng p) (ng q) p.den_nz q.den_nz (by omega)
  by_cases hd : p.den = q.den
  · rw [if_pos hd, ← add_mkQ_same p q hd] at this
    exact this
  · rw [if_neg hd, ← add_mkQ] at this
    exact this
end Go.Proofs.Ytockjmmogkhepaa.Sh

/- Fractions: comparing, telling; whatever fraction is handed in. -/
namespace Go.Proofs.Ytockjmmogkhepaa.Sh
open Go Go.RowKit

/-- Which of two fractions is the greater one. -/
def cmpQ (p q : Rat) : Int := if p < q then -1 else if p = q then 0 else 1
def sgnQ (q : Rat) : Int := if q = 0 then 0 else if q < 0 then -1 else 1

theorem sgnQ_num (q : Rat) : sgnQ q = if q.num = 0 then 0 else if q.num < 0 then -1 else 1 := by
  unfold sgnQ
  have h1 : q = 0 ↔ q.num = 0 := Rat.num_eq_zero.symm
  have h2 : q < 0 ↔ q.num < 0 := by rw [Rat.lt_iff]; simp
  simp only [h1, h2]

theorem cmpQ_num (p q : Rat) : cmpQ p q = if p.num * q.den < q.num * p.den then -1 else if p.num * q.den = q.num * p.den then 0 else 1 := by
  unfold cmpQ
  simp only [Rat.lt_iff, Rat.eq_iff_mul_eq_mul]

/-- Fractions of different signs. -/
theorem cmpQ_sgn {p q : Rat} (h : sgnQ p ≠ sgnQ q) : cmpQ p q = if sgnQ p < sgnQ q then -1 else 1 := by
  rw [sgnQ_num, sgnQ_num] at *
  rw [cmpQ_num]
  have d1 : (0 : Int) < p.den := by have := p.den_nz; omega
  have d2 : (0 : Int) < q.den := by have := q.den_nz; omega
  have pz : ∀ {x d : Int}, 0 < d → 0 < x → 0 < x * d := fun hd hx => Int.mul_pos hx hd
  have nz : ∀ {x d : Int}, 0 < d → x < 0 → x * d < 0 := fun hd hx => Int.mul_neg_of_neg_of_pos hx hd
  rcases Int.lt_trichotomy p.num 0 with a | a | a <;> rcases Int.lt_trichotomy q.num 0 with b | b | b
  · exfalso; simp [a, b, Int.ne_of_lt] at h
  · have := nz d2 a; rw [b] at *; simp [a, Int.ne_of_lt a, this]
  · have := nz d2 a; have := pz d1 b
    rw [if_pos (by omega)]; simp [a, Int.ne_of_lt a, Int.ne_of_gt b, Int.not_lt.2 (Int.le_of_lt b)]
  · have := nz d1 b; rw [a] at *; simp [b, Int.ne_of_lt b]; omega
  · exfalso; simp [a, b] at h
  · have := pz d1 b; rw [a] at *; simp [this, Int.ne_of_gt b, Int.not_lt.2 (Int.le_of_lt b)]
  · have := pz d2 a; have := nz d1 b
    rw [if_neg (by omega), if_neg (by omega)]; simp [b, Int.ne_of_lt b, Int.ne_of_gt a, Int.not_lt.2 (Int.le_of_lt a)]
  · have := pz d2 a; rw [b] at *; simp [Int.ne_of_gt a, Int.not_lt.2 (Int.le_of_lt a)]; omega
  · exfalso; simp [Int.ne_of_gt a, Int.ne_of_gt b, Int.not_lt.2 (Int.le_of_lt a), Int.not_lt.2 (Int.le_of_lt b)] at h

theorem cmpQ_ng {p q : Rat} (h : ng p = ng q) : cmpQ p q = if ng p then -(cmpN (p.num.natAbs * q.den) (q.num.natAbs * p.den)) else cmpN (p.num.natAbs * q.den) (q.num.natAbs * p.den) := by
  rw [cmpQ_num]
  have key : ∀ (x y : Nat) , (ng p = true → p.num * q.den = -(x : Int) ∧ q.num * p.den = -(y : Int)) → (ng p = false → p.num * q.den = (x : Int) ∧ q.num * p.den = (y : Int)) → (if p.num * q.den < q.num * p.den then -1 else if p.num * q.den = q.num * p.den then (0 : Int) else 1) = if ng p then -(cmpN x y) else cmpN x y := by
    intro x y h1 h2
    cases hn : ng p
    · obtain ⟨e1, e2⟩ := h2 hn
      rw [e1, e2]
      simp only [Bool.false_eq_true, if_false, cmpN]
      rcases Nat.lt_trichotomy x y with c | c | c
      · rw [if_pos (by omega), if_pos c]
      · rw [if_neg (by omega), if_pos (by omega), if_neg (by omega), if_pos c]
      · rw [if_neg (by omega), if_neg (by omega), if_neg (by omega), if_neg (by omega)]
    · obtain ⟨e1, e2⟩ := h1 hn
      rw [e1, e2]
      simp only [if_true, cmpN]
      rcases Nat.lt_trichotomy x y with c | c | c
      · rw [if_neg (by omega), if_neg (by omega), if_pos c]; rfl
      · rw [if_neg (by omega), if_pos (by omega), if_neg (by omega), if_pos c]; rfl
      · rw [if_pos (by omega), if_neg (by omega), if_neg (by omega)]
  refine key _ _ (fun hn => ?_) (fun hn => ?_)
  · have hq0 := hn
    rw [h] at hq0
    have hp : p.num < 0 := by simpa [ng] using hn
    have hq : q.num < 0 := by simpa [ng] using hq0
    rw [Int.natCast_mul, Int.natCast_mul, ← Int.neg_mul, ← Int.neg_mul, Int.ofNat_natAbs_of_nonpos (by omega), Int.ofNat_natAbs_of_nonpos (by omega), Int.neg_neg, Int.neg_neg]
    exact ⟨rfl, rfl⟩
  · have hq0 := hn
    rw [h] at hq0
    have hp : ¬ p.num < 0 := by simpa [ng] using hn
    have hq : ¬ q.num < 0 := by simpa [ng] using hq0
    rw [Int.natCast_mul, Int.natCast_mul, Int.natAbs_of_nonneg (by omega), Int.natAbs_of_nonneg (by omega)]
    exact ⟨rfl, rfl⟩

theorem ng_of_sgn {p q : Rat} (h : sgnQ p = sgnQ q) : ng p = ng q := by
  rw [sgnQ_num, sgnQ_num] at h
  unfold ng
  apply decide_eq_decide.2
  constructor
  · intro hp
    rw [if_neg (show ¬ p.num = 0 by omega), if_pos hp] at h
    split at h
    · omega
    · split at h
      · assumption
      · omega
  · intro hq
    rw [if_neg (show ¬ q.num = 0 by omega), if_pos hq] at h
    split at h
    · omega
    · split at h
      · assumption
      · omega

theorem cmpQ_abs {p q : Rat} (h : sgnQ p = sgnQ q) : cmpQ p q = if ng p then -(cmpN (p.num.natAbs * q.den) (q.num.natAbs * p.den)) else cmpN (p.num.natAbs * q.den) (q.num.natAbs * p.den) := cmpQ_ng (ng_of_sgn h)

theorem cmpQ_ng_ne {p q : Rat} (h : ng p ≠ ng q) : cmpQ p q = if ng p then -1 else 1 := by
  have d1 : (0 : Int) < p.den := by have := p.den_nz; omega
  have d2 : (0 : Int) < q.den := by have := q.den_nz; omega
  rw [cmpQ_num]
  cases hp : ng p <;> cases hq : ng q
  · rw [hp, hq] at h; exact absurd rfl h
  · have a : ¬ p.num < 0 := by simpa [ng] using hp
    have b : q.num < 0 := by simpa [ng] using hq
    have e1 : 0 ≤ p.num * q.den := Int.mul_nonneg (by omega) (by omega)
    have e2 : q.num * p.den < 0 := Int.mul_neg_of_neg_of_pos b d1
    rw [if_neg (by omega), if_neg (by omega)]; rfl
  · have a : p.num < 0 := by simpa [ng] using hp
    have b : ¬ q.num < 0 := by simpa [ng] using hq
    have e1 : 0 ≤ q.num * p.den := Int.mul_nonneg (by omega) (by omega)
    have e2 : p.num * q.den < 0 := Int.mul_neg_of_neg_of_pos a d2
    rw [if_pos (by omega)]; rfl
  · rw [hp, hq] at h; exact absurd rfl h

set_option maxRecDepth 20000 in
theorem rorder_s (p q : Rat) (h : sz p + sz q ≤ 17592186044415) : CallsS Try.prog 60 [ratS p, ratS q] (I .i64 (cmpQ p q)) := by
  unfold sz at h
  have l1 := wl_mul p.num.natAbs q.den
  have l2 := wl_mul q.num.natAbs p.den
  have hp := sign_s p
  have hq := sign_s q
  rw [show (if p = 0 then 0 else if p < 0 then -1 else 1) = sgnQ p from rfl] at hp
  rw [show (if q = 0 then 0 else if q < 0 then -1 else 1) = sgnQ q from rfl] at hq
  refine calls Try.func60 rfl (by rfl) (by rfl) (by kernel_rfl) ?_
  simp -dsimp -implicitDefEqProofs [Try.f60]
  refine eCall.of hp (by simp) ?_
  simp -dsimp -implicitDefEqProofs
  refine eCall.of hq (by simp) ?_
  by_cases hs : sgnQ p = sgnQ q
  · rw [cmpQ_abs hs]
    have hc : ∀ x y, -1 ≤ cmpN x y ∧ cmpN x y ≤ 1 := fun x y => by unfold cmpN; split <;> (try split) <;> omega
    have w : IntKind.i64.wrap (-(cmpN (p.num.natAbs * q.den) (q.num.natAbs * p.den))) = -(cmpN (p.num.natAbs * q.den) (q.num.natAbs * p.den)) := by
      have := hc (p.num.natAbs * q.den) (q.num.natAbs * p.den)
      exact wrap_i64 _ (by omega) (by omega)
    simp -dsimp -implicitDefEqProofs [hs]
    refine eCall.of (mulN_s p.num.natAbs q.den (by omega) (by omega)) (by simp) ?_
    simp -dsimp -implicitDefEqProofs
    refine eCall.of (mulN_s q.num.natAbs p.den (by omega) (by omega)) (by simp) ?_
    simp -dsimp -implicitDefEqProofs
    refine eCall.of (cmp_s (p.num.natAbs * q.den) (q.num.natAbs * p.den) (by rw [wl_def]; omega) (by rw [wl_def]; omega)) (by simp) ?_
    by_cases hn : p.num < 0
    · simp -dsimp -implicitDefEqProofs [hn, ng, w]
    · simp -dsimp -implicitDefEqProofs [hn, ng]
  · rw [cmpQ_sgn hs]
    by_cases hlt : sgnQ p < sgnQ q
    · simp -dsimp -implicitDefEqProofs [hs, hlt]
    · simp -dsimp -implicitDefEqProofs [hs, hlt]

/-- What a fraction is told as: 0, if it is too long. -/
def cap (q : Rat) : Rat := if 4096 < sz q then 0 else q

set_option maxRecDepth 20000 in
theorem told_s (q : Rat) (h : sz q ≤ 35184372088832) : CallsS Try.prog 57 [ratS q] (.v (fS (cap q))) := by
  unfold sz at h
  have hsz : sz q = wl q.num.natAbs + wl q.den := rfl
  have w : IntKind.i64.wrap (((toW q.num.natAbs).length : Int) + (toW q.den).length) = ((sz q : Nat) : Int) := by
    rw [wl_def, wl_def, wrap_i64 _ (by omega) (by omega), hsz]; omega
  refine calls Try.func57 rfl (by rfl) (by rfl) (by kernel_rfl) ?_
  unfold cap
  by_cases hc : 4096 < sz q
  · have hc' : (4096 : Int) < (sz q : Nat) := by omega
    rw [if_pos hc]
    simp -dsimp -implicitDefEqProofs [Try.f57, w, hc', slots, rowsOf, toW_zero, toW_one]
  · have hc' : ¬ (4096 : Int) < (sz q : Nat) := by omega
    rw [if_neg hc]
    simp -dsimp -implicitDefEqProofs [Try.f57, w, hc']
    refine eCall.of (own_s (toW q.num.natAbs) (by rw [wl_def]; omega)) (by simp) ?_
    simp -dsimp -implicitDefEqProofs
    refine eCall.of (own_s (toW q.den) (by rw [wl_def]; omega)) (by simp) ?_
    simp -dsimp -implicitDefEqProofs
end Go.Proofs.Ytockjmmogkhepaa.Sh

/- Fractions as they are handed in, right or not. -/
namespace Go.Proofs.Ytockjmmogkhepaa.Sh
open Go Go.RowKit

/-- A fraction that is handed in. -/
structure FR where
  neg : Bool
  num : List Int
  den : List Int

@[simp] def frS (f : FR) : SV := .agg [.bool f.neg, wS f.num, wS f.den]

structure FR.ok (f : FR) : Prop where
  inum : InW f.num
  iden : InW f.den
  lnum : f.num.length ≤ 140737488355328
  lden : f.den.length ≤ 140737488355328

/-- Is it a right fraction? -/
def FR.right (f : FR) : Bool :=
  if f.den.length = 0 then false
  else if 4096 < f.num.length + f.den.length then false
  else if at0 f.den (f.den.length - 1) = 0 then false
  else if f.num.length = 0 then decide (f.den = [1]) && !f.neg
  else if at0 f.num (f.num.length - 1) = 0 then false
  else decide (Nat.gcd (val f.num).toNat (val f.den).toNat = 1)

/-- What it is: 0, if it is not right. -/
def FR.fix (f : FR) : Rat := if f.right then mkQ f.neg (val f.num).toNat (val f.den).toNat else 0

/-- A fraction's form. -/
def frQ (q : Rat) : FR := ⟨ng q, toW q.num.natAbs, toW q.den⟩
theorem frS_frQ (q : Rat) : frS (frQ q) = fS q := rfl
theorem frQ_ok {q : Rat} (h : sz q ≤ 140737488355328) : (frQ q).ok := by
  unfold sz wl at h
  exact ⟨toW_inW _, toW_inW _, by show (toW _).length ≤ _; omega, by show (toW _).length ≤ _; omega⟩

theorem trim_of_last {l : List Int} (h : l.length ≠ 0) (h2 : at0 l (l.length - 1) ≠ 0) : Trim l := by
  rcases List.eq_nil_or_concat l with rfl | ⟨a, x, rfl⟩
  · exact Or.inl rfl
  · refine Or.inr ⟨a, x, List.concat_eq_append, ?_⟩
    simpa [at0] using h2

theorem toW_of {l : List Int} (hi : InW l) (h : l.length ≠ 0) (h2 : at0 l (l.length - 1) ≠ 0) : l = toW (val l).toNat ∧ (val l).toNat ≠ 0 := by
  have e := toW_val hi (trim_of_last h h2)
  refine ⟨e.symm, fun h0 => h ?_⟩
  rw [h0, toW_zero] at e
  rw [← e]; rfl

theorem last_toW {n : Nat} (h : n ≠ 0) : at0 (toW n) ((toW n).length - 1) ≠ 0 := by
  rcases toW_trim n with h1 | ⟨a, x, h1, hx⟩
  · exact absurd (toW_eq_nil.1 h1) h
  · rw [h1]; simpa [at0] using hx

/-- A right fraction is the form of what it is. -/
theorem FR.right_fix {f : FR} (hi : f.ok) (h : f.right = true) : frS f = fS f.fix ∧ sz f.fix ≤ 4096 := by
  unfold FR.fix
  rw [if_pos h]
  unfold FR.right at h
  split at h
  · cases h
  · rename_i d0
    split at h
    · cases h
    · rename_i hs
      split at h
      · cases h
      · rename_i hl
        obtain ⟨ed, ed0⟩ := toW_of hi.iden d0 hl
        split at h
        · rename_i n0
          have en : f.num = [] := List.length_eq_zero_iff.1 n0
          simp only [Bool.and_eq_true, decide_eq_true_eq, Bool.not_eq_true'] at h
          have hv : (val f.num).toNat = 0 := by rw [en]; rfl
          rw [hv, mkQ_zero]
          refine ⟨?_, by decide +kernel⟩
          have e0 : toW (0 : Rat).num.natAbs = [] := toW_zero
          have e1 : toW (0 : Rat).den = [1] := toW_one
          have e2 : decide ((0 : Rat).num < 0) = false := rfl
          simp only [frS, fS, nS, wS, e0, e1, e2, en, h.1, h.2]
        · rename_i n0
          split at h
          · cases h
          · rename_i hln
            obtain ⟨en, en0⟩ := toW_of hi.inum n0 hln
            have hg : Nat.gcd (val f.num).toNat (val f.den).toNat = 1 := by simpa using h
            have q1 := mkQ_abs f.neg (val f.num).toNat (val f.den).toNat ed0
            have q2 := mkQ_den f.neg (val f.num).toNat (val f.den).toNat ed0
            have q3 := mkQ_neg f.neg (val f.num).toNat (val f.den).toNat ed0 en0
            rw [hg, Nat.div_one] at q1 q2
            refine ⟨?_, ?_⟩
            · simp only [frS, fS, nS, q1, q2, q3, ← en, ← ed]
            · unfold sz wl
              rw [q1, q2, ← en, ← ed]; omega

theorem gcd_right (q : Rat) : Nat.gcd q.num.natAbs q.den = 1 := q.reduced

theorem right_frQ {q : Rat} (h : sz q ≤ 4096) : (frQ q).right = true := by
  have hd := q.den_nz
  have dl : ¬ (toW q.den).length = 0 := mt toW_len_zero.1 hd
  unfold sz wl at h
  unfold FR.right frQ
  simp only
  rw [if_neg dl, if_neg (by omega), if_neg (last_toW hd)]
  by_cases n0 : q.num.natAbs = 0
  · rw [if_pos (toW_len_zero.2 n0)]
    have hq : q = 0 := abs_eq_zero.1 n0
    subst hq
    have e1 : toW (0 : Rat).den = [1] := toW_one
    rw [e1]; rfl
  · rw [if_neg (mt toW_len_zero.1 n0), if_neg (last_toW n0), val_toW, val_toW, Int.toNat_natCast, Int.toNat_natCast]
    exact decide_eq_true (gcd_right q)

theorem fix_frQ {q : Rat} (h : sz q ≤ 4096) : (frQ q).fix = q := by
  unfold FR.fix
  rw [if_pos (right_frQ h)]
  unfold frQ
  simp only
  rw [val_toW, val_toW, Int.toNat_natCast, Int.toNat_natCast]
  exact mkQ_self q

theorem sz_zero : sz 0 = 1 := by decide +kernel
theorem sz_fix {f : FR} (hi : f.ok) : sz f.fix ≤ 4096 := by
  by_cases h : f.right = true
  · exact (f.right_fix hi h).2
  · unfold FR.fix; rw [if_neg h, sz_zero]; omega
theorem sz_cap (q : Rat) : sz (cap q) ≤ 4096 := by
  unfold cap; split
  · rw [sz_zero]; omega
  · omega
theorem cap_fix {f : FR} (hi : f.ok) : cap f.fix = f.fix := by unfold cap; rw [if_neg (by have := sz_fix hi; omega)]
theorem cap_of {q : Rat} (h : sz q ≤ 4096) : cap q = q := by unfold cap; rw [if_neg (by omega)]

set_option maxRecDepth 20000 in
theorem rightF_s (f : FR) (hi : f.ok) : CallsS Try.prog 75 [frS f] (B f.right) := by
  obtain ⟨neg, num, den⟩ := f
  obtain ⟨i1, i2, i3, i4⟩ := hi
  simp only at i1 i2 i3 i4
  unfold FR.right
  simp only
  have w : IntKind.i64.wrap ((num.length : Int) + den.length) = (num.length : Int) + den.length := wrap_i64 _ (by omega) (by omega)
  refine calls Try.func75 rfl (by rfl) (by rfl) (by kernel_rfl) ?_
  by_cases d0 : den.length = 0
  · simp -dsimp -implicitDefEqProofs [Try.f75, d0]
  · rw [if_neg d0]
    by_cases hs : 4096 < num.length + den.length
    · have hs' : (4096 : Int) < (num.length : Int) + den.length := by omega
      simp -dsimp -implicitDefEqProofs [Try.f75, d0, w, hs, hs']
    · have hs' : ¬ (4096 : Int) < (num.length : Int) + den.length := by omega
      have wd : IntKind.i64.wrap ((den.length : Int) - 1) = ((den.length - 1 : Nat) : Int) := by rw [wrap_i64 _ (by omega) (by omega)]; omega
      have gd : den[den.length - 1]? = some (at0 den (den.length - 1)) := by rw [at0_lt (by omega), List.getElem?_eq_getElem]
      rw [if_neg hs]
      by_cases hl : at0 den (den.length - 1) = 0
      · simp -dsimp -implicitDefEqProofs [Try.f75, d0, w, hs', wd, gd, hl]
        omega
      · rw [if_neg hl]
        simp -dsimp -implicitDefEqProofs [Try.f75, d0, w, hs', wd, gd, hl]
        refine ⟨by omega, ?_⟩
        by_cases n0 : num.length = 0
        · have en : num = [] := List.length_eq_zero_iff.1 n0
          subst en
          simp -dsimp -implicitDefEqProofs
          refine eCall.of (wone_s den) (by simp) ?_
          cases neg
          · simp -dsimp -implicitDefEqProofs
          · simp -dsimp -implicitDefEqProofs
        · rw [if_neg n0]
          have wn : IntKind.i64.wrap ((num.length : Int) - 1) = ((num.length - 1 : Nat) : Int) := by rw [wrap_i64 _ (by omega) (by omega)]; omega
          have gn : num[num.length - 1]? = some (at0 num (num.length - 1)) := by rw [at0_lt (by omega), List.getElem?_eq_getElem]
          have en : ¬ num = [] := fun h => n0 (by rw [h]; rfl)
          by_cases hn : at0 num (num.length - 1) = 0
          · simp -dsimp -implicitDefEqProofs [n0, en, wn, gn, hn]
            omega
          · rw [if_neg hn]
            simp -dsimp -implicitDefEqProofs [n0, en, wn, gn, hn]
            refine ⟨by omega, ?_⟩
            refine eCall.of (wone_s den) (by simp) ?_
            obtain ⟨e1, v1⟩ := toW_of i1 n0 hn
            obtain ⟨e2, v2⟩ := toW_of i2 d0 hl
            generalize (val num).toNat = a at *
            generalize (val den).toNat = b at *
            subst e1 e2
            by_cases b1 : toW b = [1]
            · have b1' : b = 1 := toW_inj (by rw [b1, toW_one])
              subst b1'
              simp -dsimp -implicitDefEqProofs [b1]
            · simp -dsimp -implicitDefEqProofs [b1]
              refine eCall.of (gcd_s a b (by omega) (by omega)) (by simp) ?_
              simp -dsimp -implicitDefEqProofs
              refine eCall.of (wone_s (toW (Nat.gcd a b))) (by simp) ?_
              have hg : toW (Nat.gcd a b) = [1] ↔ Nat.gcd a b = 1 := ⟨fun h => toW_inj (by rw [h, toW_one]), fun h => by rw [h, toW_one]⟩
              simp -dsimp -implicitDefEqProofs [hg]
end Go.Proofs.Ytockjmmogkhepaa.Sh

/- Fractions: frac's functions that are told. -/
namespace Go.Proofs.Ytockjmmogkhepaa.Sh
open Go Go.RowKit

set_option maxRecDepth 20000 in
theorem taken_s (f : FR) (hi : f.ok) : CallsS Try.prog 58 [frS f] (.v (ratS f.fix)) := by
  refine calls Try.func58 rfl (by rfl) (by rfl) (by kernel_rfl) ?_
  simp -dsimp -implicitDefEqProofs [Try.f58]
  refine eCall.of (rightF_s f hi) (by simp) ?_
  cases h : f.right
  · have e : f.fix = 0 := by unfold FR.fix; rw [h]; rfl
    rw [e]
    simp -dsimp -implicitDefEqProofs
    refine eCall.of (whole_s 0 (by decide) (by decide)) (by simp) ?_
    simp -dsimp -implicitDefEqProofs
  · obtain ⟨e, _⟩ := f.right_fix hi h
    simp only [frS, fS, SV.agg.injEq, List.cons.injEq, and_true, S1.bool.injEq] at e
    obtain ⟨e1, e2, e3⟩ := e
    have er : ratS f.fix = .agg [wS f.num, wS f.den, .bool f.neg] := by rw [ratS, ← e1, ← e2, ← e3]
    rw [er]
    simp -dsimp -implicitDefEqProofs

theorem sz_mul (p q : Rat) : sz (p * q) ≤ sz p + sz q := by
  rw [mul_mkQ]
  have := sz_mkQ (ng p != ng q) (p.num.natAbs * q.num.natAbs) (p.den * q.den) (Nat.mul_ne_zero p.den_nz q.den_nz)
  have h1 := wl_mul p.num.natAbs q.num.natAbs
  have h2 := wl_mul p.den q.den
  unfold sz at *
  omega

theorem sz_mkRat (n : Int) (d : Nat) (hd : d ≠ 0) : sz (mkRat n d) ≤ wl n.natAbs + wl d := by
  have : mkRat n d = mkQ (decide (n < 0)) n.natAbs d := by
    unfold mkQ
    congr 1
    unfold sg
    by_cases h : n < 0
    · rw [decide_eq_true h, if_pos rfl]; omega
    · rw [decide_eq_false h, if_neg (by simp)]; omega
  rw [this]
  exact sz_mkQ _ _ _ hd

/-- The greater count of words, above or below. -/
def mz (q : Rat) : Nat := max (wl q.num.natAbs) (wl q.den)
theorem sz_mz (q : Rat) : sz q ≤ 2 * mz q ∧ mz q ≤ sz q := by unfold sz mz; omega

theorem mz_mkRat (n : Int) (d : Nat) (hd : d ≠ 0) : mz (mkRat n d) ≤ max (wl n.natAbs) (wl d) := by
  have : mkRat n d = mkQ (decide (n < 0)) n.natAbs d := by
    unfold mkQ
    congr 1
    unfold sg
    by_cases h : n < 0
    · rw [decide_eq_true h, if_pos rfl]; omega
    · rw [decide_eq_false h, if_neg (by simp)]; omega
  rw [this]
  unfold mz
  rw [mkQ_abs _ _ _ hd, mkQ_den _ _ _ hd]
  have := wl_div n.natAbs (Nat.gcd n.natAbs d)
  have := wl_div d (Nat.gcd n.natAbs d)
  omega

theorem mz_add (p q : Rat) : mz (p + q) ≤ mz p + mz q + 1 := by
  rw [add_mkQ]
  have h0 := mz_mkRat (sg (ng p) (p.num.natAbs * q.den) + sg (ng q) (q.num.natAbs * p.den)) (p.den * q.den) (Nat.mul_ne_zero p.den_nz q.den_nz)
  have h1 := wl_mul p.num.natAbs q.den
  have h2 := wl_mul q.num.natAbs p.den
  have h3 := wl_mul p.den q.den
  have h4 := wl_add (p.num.natAbs * q.den) (q.num.natAbs * p.den)
  have h5 : wl (sg (ng p) (p.num.natAbs * q.den) + sg (ng q) (q.num.natAbs * p.den)).natAbs ≤ wl (p.num.natAbs * q.den + q.num.natAbs * p.den) := wl_mono (by
    have := sg_natAbs (ng p) (p.num.natAbs * q.den)
    have := sg_natAbs (ng q) (q.num.natAbs * p.den)
    omega)
  have e : mz p = max (wl p.num.natAbs) (wl p.den) := rfl
  have e2 : mz q = max (wl q.num.natAbs) (wl q.den) := rfl
  omega
theorem mz_mul (p q : Rat) : mz (p * q) ≤ mz p + mz q := by
  rw [Rat.mul_def']
  have h0 := mz_mkRat (p.num * q.num) (p.den * q.den) (Nat.mul_ne_zero p.den_nz q.den_nz)
  rw [Int.natAbs_mul] at h0
  have h1 := wl_mul p.num.natAbs q.num.natAbs
  have h3 := wl_mul p.den q.den
  have e : mz p = max (wl p.num.natAbs) (wl p.den) := rfl
  have e2 : mz q = max (wl q.num.natAbs) (wl q.den) := rfl
  omega
theorem sz_add (p q : Rat) : sz (p + q) ≤ 2 * (sz p + sz q + 1) := by
  have := mz_add p q
  have := sz_mz (p + q)
  have := sz_mz p
  have := sz_mz q
  omega
theorem sz_neg (q : Rat) : sz (-q) = sz q := by unfold sz; rw [Rat.neg_num, Rat.neg_den, Int.natAbs_neg]
theorem sz_inv (q : Rat) (h : q ≠ 0) : sz q⁻¹ = sz q := by
  obtain ⟨e1, e2, _⟩ := over_num h
  unfold sz; rw [e1, e2]; omega
theorem sz_int (n : Int) (h0 : -9223372036854775808 ≤ n) (h1 : n < 9223372036854775808) : sz (n : Rat) ≤ 3 := by
  have : wl (n : Rat).num.natAbs ≤ 2 := wl_u64 (by rw [Rat.num_intCast]; omega)
  unfold sz; rw [Rat.den_intCast, wl_one]; omega

set_option maxRecDepth 20000 in
theorem fsign_s (f : FR) (hi : f.ok) : CallsS Try.prog 30 [frS f] (I .i64 (sgnQ f.fix)) := by
  refine calls Try.func30 rfl (by rfl) (by rfl) (by kernel_rfl) ?_
  simp -dsimp -implicitDefEqProofs [Try.f30]
  refine eCall.of (taken_s f hi) (by simp) ?_
  simp -dsimp -implicitDefEqProofs
  refine eCall.of (sign_s f.fix) (by simp) ?_
  simp -dsimp -implicitDefEqProofs [sgnQ]

set_option maxRecDepth 20000 in
theorem fcmp_s (f g : FR) (hf : f.ok) (hg : g.ok) : CallsS Try.prog 31 [frS f, frS g] (I .i64 (cmpQ f.fix g.fix)) := by
  have := sz_fix hf
  have := sz_fix hg
  refine calls Try.func31 rfl (by rfl) (by rfl) (by kernel_rfl) ?_
  simp -dsimp -implicitDefEqProofs [Try.f31]
  refine eCall.of (taken_s f hf) (by simp) ?_
  simp -dsimp -implicitDefEqProofs
  refine eCall.of (taken_s g hg) (by simp) ?_
  simp -dsimp -implicitDefEqProofs
  refine eCall.of (rorder_s f.fix g.fix (by omega)) (by simp) ?_
  simp -dsimp -implicitDefEqProofs

set_option maxRecDepth 20000 in
theorem fadd_s (f g : FR) (hf : f.ok) (hg : g.ok) : CallsS Try.prog 33 [frS f, frS g] (.v (fS (cap (f.fix + g.fix)))) := by
  have := sz_fix hf
  have := sz_fix hg
  have := sz_add f.fix g.fix
  refine calls Try.func33 rfl (by rfl) (by rfl) (by kernel_rfl) ?_
  simp -dsimp -implicitDefEqProofs [Try.f33]
  refine eCall.of (taken_s f hf) (by simp) ?_
  simp -dsimp -implicitDefEqProofs
  refine eCall.of (taken_s g hg) (by simp) ?_
  simp -dsimp -implicitDefEqProofs
  refine eCall.of (rplus_s f.fix g.fix (by omega)) (by simp) ?_
  simp -dsimp -implicitDefEqProofs
  refine eCall.of (told_s (f.fix + g.fix) (by omega)) (by simp) ?_
  simp -dsimp -implicitDefEqProofs

set_option maxRecDepth 20000 in
theorem fmul_s (f g : FR) (hf : f.ok) (hg : g.ok) : CallsS Try.prog 37 [frS f, frS g] (.v (fS (cap (f.fix * g.fix)))) := by
  have := sz_fix hf
  have := sz_fix hg
  have := sz_mul f.fix g.fix
  refine calls Try.func37 rfl (by rfl) (by rfl) (by kernel_rfl) ?_
  simp -dsimp -implicitDefEqProofs [Try.f37]
  refine eCall.of (taken_s f hf) (by simp) ?_
  simp -dsimp -implicitDefEqProofs
  refine eCall.of (taken_s g hg) (by simp) ?_
  simp -dsimp -implicitDefEqProofs
  refine eCall.of (rtimes_s f.fix g.fix (by omega)) (by simp) ?_
  simp -dsimp -implicitDefEqProofs
  refine eCall.of (told_s (f.fix * g.fix) (by omega)) (by simp) ?_
  simp -dsimp -implicitDefEqProofs

set_option maxRecDepth 20000 in
theorem fneg_s (f : FR) (hf : f.ok) : CallsS Try.prog 34 [frS f] (.v (fS (-f.fix))) := by
  have := sz_fix hf
  have hn := sz_neg f.fix
  have ht := told_s (-f.fix) (by omega)
  rw [cap_of (by omega)] at ht
  refine calls Try.func34 rfl (by rfl) (by rfl) (by kernel_rfl) ?_
  simp -dsimp -implicitDefEqProofs [Try.f34]
  refine eCall.of (taken_s f hf) (by simp) ?_
  simp -dsimp -implicitDefEqProofs
  refine eCall.of (rminus_s f.fix) (by simp) ?_
  simp -dsimp -implicitDefEqProofs
  refine eCall.of ht (by simp) ?_
  simp -dsimp -implicitDefEqProofs

set_option maxRecDepth 20000 in
theorem ffix_s (f : FR) (hf : f.ok) : CallsS Try.prog 50 [frS f] (.v (fS f.fix)) := by
  have := sz_fix hf
  have ht := told_s f.fix (by omega)
  rw [cap_of (by omega)] at ht
  refine calls Try.func50 rfl (by rfl) (by rfl) (by kernel_rfl) ?_
  simp -dsimp -implicitDefEqProofs [Try.f50]
  refine eCall.of (taken_s f hf) (by simp) ?_
  simp -dsimp -implicitDefEqProofs
  refine eCall.of ht (by simp) ?_
  simp -dsimp -implicitDefEqProofs

set_option maxRecDepth 20000 in
theorem fdiv_s (f g : FR) (hf : f.ok) (hg : g.ok) (h0 : g.fix ≠ 0) : CallsS Try.prog 36 [frS f, frS g] (.tup [fS (cap (f.fix / g.fix)), .one (.int .i64 0)]) := by
  have := sz_fix hf
  have := sz_fix hg
  have hi := sz_inv g.fix h0
  have := sz_mul f.fix g.fix⁻¹
  rw [Rat.div_def]
  have hs := sign_s g.fix
  have ho := over_s g.fix h0
  have hrt := rtimes_s f.fix g.fix⁻¹ (by omega)
  have htl := told_s (f.fix * g.fix⁻¹) (by omega)
  generalize g.fix⁻¹ = R at *
  rw [if_neg h0] at hs
  have hne : ¬ (if g.fix < 0 then (-1 : Int) else 1) = 0 := by split <;> decide
  refine calls Try.func36 rfl (by rfl) (by rfl) (by kernel_rfl) ?_
  simp -dsimp -implicitDefEqProofs [Try.f36]
  refine eCall.of (taken_s g hg) (by simp) ?_
  simp -dsimp -implicitDefEqProofs
  refine eCall.of hs (by simp) ?_
  simp -dsimp -implicitDefEqProofs [hne]
  refine eCall.of (taken_s f hf) (by simp) ?_
  simp -dsimp -implicitDefEqProofs
  refine eCall.of ho (by simp) ?_
  simp -dsimp -implicitDefEqProofs
  refine eCall.of hrt (by simp) ?_
  simp -dsimp -implicitDefEqProofs
  refine eCall.of htl (by simp) ?_
  simp -dsimp -implicitDefEqProofs

set_option maxRecDepth 20000 in
theorem fmake_s (p q : Int) (p0 : -9223372036854775808 ≤ p) (p1 : p < 9223372036854775808) (q0 : -9223372036854775808 ≤ q) (q1 : q < 9223372036854775808) (h0 : q ≠ 0) : CallsS Try.prog 29 [.one (.int .i64 p), .one (.int .i64 q)] (.tup [fS ((p : Rat) / (q : Rat)), .one (.int .i64 0)]) := by
  have hq : (q : Rat) ≠ 0 := fun h => h0 (by have := congrArg Rat.num h; simpa using this)
  have s1 := sz_int p p0 p1
  have s2 := sz_int q q0 q1
  have hi := sz_inv (q : Rat) hq
  have s3 := sz_mul (p : Rat) (q : Rat)⁻¹
  have ht := told_s ((p : Rat) * (q : Rat)⁻¹) (by omega)
  rw [cap_of (by omega)] at ht
  rw [Rat.div_def]
  have hwp := whole_s p p0 p1
  have hwq := whole_s q q0 q1
  generalize (p : Rat) = P at *
  generalize (q : Rat) = Q at *
  refine calls Try.func29 rfl (by rfl) (by rfl) (by kernel_rfl) ?_
  simp -dsimp -implicitDefEqProofs [Try.f29, h0]
  refine eCall.of hwp (by simp) ?_
  simp -dsimp -implicitDefEqProofs
  refine eCall.of hwq (by simp) ?_
  simp -dsimp -implicitDefEqProofs
  refine eCall.of (over_s Q hq) (by simp) ?_
  have hrt := rtimes_s P Q⁻¹ (by omega)
  generalize Q⁻¹ = R at *
  simp -dsimp -implicitDefEqProofs
  refine eCall.of hrt (by simp) ?_
  simp -dsimp -implicitDefEqProofs
  refine eCall.of ht (by simp) ?_
  simp -dsimp -implicitDefEqProofs
end Go.Proofs.Ytockjmmogkhepaa.Sh

/- Fractions: the reference's inner functions. -/
namespace Go.Proofs.Ytockjmmogkhepaa.Sh
open Go Go.RowKit

set_option maxRecDepth 20000 in
theorem zeroR_s : CallsS Try.prog 44 [] (.v (fS 0)) := by
  refine calls Try.func44 rfl (by rfl) (by rfl) (by kernel_rfl) ?_
  simp -dsimp -implicitDefEqProofs [Try.f44]
  refine eCall.of oneR_s (by simp) ?_
  simp -dsimp -implicitDefEqProofs [toW_zero, toW_one]

theorem len_one {n : Nat} (h0 : n ≠ 0) (hl : (toW n).length = 1) : (toW n)[0]? = some (n : Int) := (one_word h0 hl).2

set_option maxRecDepth 20000 in
theorem lowest_s (neg : Bool) (a b : Nat) (hb : b ≠ 0) (h1 : wl a ≤ 17592186044416) (h2 : wl b ≤ 17592186044416) : CallsS Try.prog 39 [.one (.bool neg), .one (nS a), .one (nS b)] (.v (fS (cap (mkQ neg a b)))) := by
  by_cases a0 : a = 0
  · subst a0
    rw [mkQ_zero, cap_of (by rw [sz_zero]; omega)]
    refine calls Try.func39 rfl (by rfl) (by rfl) (by kernel_rfl) ?_
    simp -dsimp -implicitDefEqProofs [Try.f39, toW_zero]
    refine eCall.of zeroR_s (by simp [toW_zero, toW_one]) ?_
    simp -dsimp -implicitDefEqProofs [toW_zero, toW_one]
  · have al : ¬ (toW a).length = 0 := mt toW_len_zero.1 a0
    have al' : ¬ toW a = [] := mt toW_eq_nil.1 a0
    have bl : ¬ (toW b).length = 0 := mt toW_len_zero.1 hb
    have hg0 : Nat.gcd a b ≠ 0 := by intro h; exact hb (Nat.eq_zero_of_gcd_eq_zero_right h)
    have hgl : wl (Nat.gcd a b) ≤ 17592186044416 := Nat.le_trans (wl_mono (Nat.gcd_le_right _ (by omega))) h2
    have q1 := mkQ_abs neg a b hb
    have q2 := mkQ_den neg a b hb
    have q3 := mkQ_neg neg a b hb a0
    have hsz : sz (mkQ neg a b) = wl (a / Nat.gcd a b) + wl (b / Nat.gcd a b) := by unfold sz; rw [q1, q2]
    have d1 := wl_div a (Nat.gcd a b)
    have d2 := wl_div b (Nat.gcd a b)
    -- the end
    have w : IntKind.i64.wrap (((toW (a / Nat.gcd a b)).length : Int) + (toW (b / Nat.gcd a b)).length) = ((sz (mkQ neg a b) : Nat) : Int) := by
      rw [wl_def, wl_def, wrap_i64 _ (by omega) (by omega), hsz]; omega
    have fin : fS (cap (mkQ neg a b)) = if 4096 < sz (mkQ neg a b) then fS 0 else .agg [.bool neg, nS (a / Nat.gcd a b), nS (b / Nat.gcd a b)] := by
      unfold cap
      split
      · rfl
      · rw [fS, q1, q2, q3]
    rw [fin]
    clear fin q1 q2 q3
    by_cases hs : 4096 < sz (mkQ neg a b)
    · have hs' : (4096 : Int) < (sz (mkQ neg a b) : Nat) := by omega
      rw [if_pos hs]
      by_cases b1 : b = 1
      · subst b1
        rw [Nat.gcd_one_right, Nat.div_one, Nat.div_one, toW_one] at w
        try rw [Nat.gcd_one_right, Nat.div_one, Nat.div_one]
        have w' : IntKind.i64.wrap (((toW a).length : Int) + 1) = ((sz (mkQ neg a 1) : Nat) : Int) := w
        refine calls Try.func39 rfl (by rfl) (by rfl) (by kernel_rfl) ?_
        simp -dsimp -implicitDefEqProofs [Try.f39, al, al', toW_one, w', hs']
        refine eCall.of zeroR_s (by simp [toW_zero, toW_one]) ?_
        simp -dsimp -implicitDefEqProofs [toW_zero, toW_one]
      · refine calls Try.func39 rfl (by rfl) (by rfl) (by kernel_rfl) ?_
        by_cases bl1 : (toW b).length = 1
        · have b2 := len_one hb bl1
          have b3 : (toW b)[0] = (b : Int) := by rw [List.getElem_eq_iff]; exact b2
          have bl2 : ¬ (1 : Int) < (toW b).length := by omega
          have b4 : ¬ (b : Int) = 1 := by omega
          simp -dsimp -implicitDefEqProofs [Try.f39, al, al', bl1, bl2, b1, b2, b3, b4]
          refine eCall.of (common_s a b h1 h2) (by simp) ?_
          by_cases g1 : Nat.gcd a b = 1
          · simp only [g1, Nat.div_one] at w ⊢
            simp -dsimp -implicitDefEqProofs [w, hs', toW_one, g1, Nat.div_one]
            refine eCall.of zeroR_s (by simp [toW_zero, toW_one]) ?_
            simp -dsimp -implicitDefEqProofs [toW_zero, toW_one]
          · by_cases gl : (toW (Nat.gcd a b)).length = 1
            · have g2 := len_one hg0 gl
              have g3 : (toW (Nat.gcd a b))[0] = ((Nat.gcd a b : Nat) : Int) := by rw [List.getElem_eq_iff]; exact g2
              have gl' : ¬ (1 : Int) < (toW (Nat.gcd a b)).length := by omega
              have g4 : ¬ ((Nat.gcd a b : Nat) : Int) = 1 := by omega
              simp -dsimp -implicitDefEqProofs [gl, gl', g1, g2, g3, g4]
              refine eCall.of (parts_s a (Nat.gcd a b) hg0 h1 hgl) (by simp) ?_
              simp -dsimp -implicitDefEqProofs
              refine eCall.of (parts_s b (Nat.gcd a b) hg0 h2 hgl) (by simp) ?_
              simp -dsimp -implicitDefEqProofs [w, hs']
              refine eCall.of zeroR_s (by simp [toW_zero, toW_one]) ?_
              simp -dsimp -implicitDefEqProofs [toW_zero, toW_one]
            · have gp := mt toW_len_zero.1 hg0
              have gl' : (1 : Int) < (toW (Nat.gcd a b)).length := by omega
              simp -dsimp -implicitDefEqProofs [gl']
              refine eCall.of (parts_s a (Nat.gcd a b) hg0 h1 hgl) (by simp) ?_
              simp -dsimp -implicitDefEqProofs
              refine eCall.of (parts_s b (Nat.gcd a b) hg0 h2 hgl) (by simp) ?_
              simp -dsimp -implicitDefEqProofs [w, hs']
              refine eCall.of zeroR_s (by simp [toW_zero, toW_one]) ?_
              simp -dsimp -implicitDefEqProofs [toW_zero, toW_one]
        · have bl2 : (1 : Int) < (toW b).length := by omega
          simp -dsimp -implicitDefEqProofs [Try.f39, al, al', bl2]
          refine eCall.of (common_s a b h1 h2) (by simp) ?_
          by_cases g1 : Nat.gcd a b = 1
          · simp only [g1, Nat.div_one] at w ⊢
            simp -dsimp -implicitDefEqProofs [w, hs', toW_one, g1, Nat.div_one]
            refine eCall.of zeroR_s (by simp [toW_zero, toW_one]) ?_
            simp -dsimp -implicitDefEqProofs [toW_zero, toW_one]
          · by_cases gl : (toW (Nat.gcd a b)).length = 1
            · have g2 := len_one hg0 gl
              have g3 : (toW (Nat.gcd a b))[0] = ((Nat.gcd a b : Nat) : Int) := by rw [List.getElem_eq_iff]; exact g2
              have gl' : ¬ (1 : Int) < (toW (Nat.gcd a b)).length := by omega
              have g4 : ¬ ((Nat.gcd a b : Nat) : Int) = 1 := by omega
              simp -dsimp -implicitDefEqProofs [gl, gl', g1, g2, g3, g4]
              refine eCall.of (parts_s a (Nat.gcd a b) hg0 h1 hgl) (by simp) ?_
              simp -dsimp -implicitDefEqProofs
              refine eCall.of (parts_s b (Nat.gcd a b) hg0 h2 hgl) (by simp) ?_
              simp -dsimp -implicitDefEqProofs [w, hs']
              refine eCall.of zeroR_s (by simp [toW_zero, toW_one]) ?_
              simp -dsimp -implicitDefEqProofs [toW_zero, toW_one]
            · have gp := mt toW_len_zero.1 hg0
              have gl' : (1 : Int) < (toW (Nat.gcd a b)).length := by omega
              simp -dsimp -implicitDefEqProofs [gl']
              refine eCall.of (parts_s a (Nat.gcd a b) hg0 h1 hgl) (by simp) ?_
              simp -dsimp -implicitDefEqProofs
              refine eCall.of (parts_s b (Nat.gcd a b) hg0 h2 hgl) (by simp) ?_
              simp -dsimp -implicitDefEqProofs [w, hs']
              refine eCall.of zeroR_s (by simp [toW_zero, toW_one]) ?_
              simp -dsimp -implicitDefEqProofs [toW_zero, toW_one]
    · have hs' : ¬ (4096 : Int) < (sz (mkQ neg a b) : Nat) := by omega
      rw [if_neg hs]
      by_cases b1 : b = 1
      · subst b1
        rw [Nat.gcd_one_right, Nat.div_one, Nat.div_one, toW_one] at w
        try rw [Nat.gcd_one_right, Nat.div_one, Nat.div_one]
        have w' : IntKind.i64.wrap (((toW a).length : Int) + 1) = ((sz (mkQ neg a 1) : Nat) : Int) := w
        refine calls Try.func39 rfl (by rfl) (by rfl) (by kernel_rfl) ?_
        simp -dsimp -implicitDefEqProofs [Try.f39, al, al', toW_one, w', hs']
      · refine calls Try.func39 rfl (by rfl) (by rfl) (by kernel_rfl) ?_
        by_cases bl1 : (toW b).length = 1
        · have b2 := len_one hb bl1
          have b3 : (toW b)[0] = (b : Int) := by rw [List.getElem_eq_iff]; exact b2
          have bl2 : ¬ (1 : Int) < (toW b).length := by omega
          have b4 : ¬ (b : Int) = 1 := by omega
          simp -dsimp -implicitDefEqProofs [Try.f39, al, al', bl1, bl2, b1, b2, b3, b4]
          refine eCall.of (common_s a b h1 h2) (by simp) ?_
          by_cases g1 : Nat.gcd a b = 1
          · simp only [g1, Nat.div_one] at w ⊢
            simp -dsimp -implicitDefEqProofs [w, hs', toW_one, g1, Nat.div_one]
          · by_cases gl : (toW (Nat.gcd a b)).length = 1
            · have g2 := len_one hg0 gl
              have g3 : (toW (Nat.gcd a b))[0] = ((Nat.gcd a b : Nat) : Int) := by rw [List.getElem_eq_iff]; exact g2
              have gl' : ¬ (1 : Int) < (toW (Nat.gcd a b)).length := by omega
              have g4 : ¬ ((Nat.gcd a b : Nat) : Int) = 1 := by omega
              simp -dsimp -implicitDefEqProofs [gl, gl', g1, g2, g3, g4]
              refine eCall.of (parts_s a (Nat.gcd a b) hg0 h1 hgl) (by simp) ?_
              simp -dsimp -implicitDefEqProofs
              refine eCall.of (parts_s b (Nat.gcd a b) hg0 h2 hgl) (by simp) ?_
              simp -dsimp -implicitDefEqProofs [w, hs']
            · have gp := mt toW_len_zero.1 hg0
              have gl' : (1 : Int) < (toW (Nat.gcd a b)).length := by omega
              simp -dsimp -implicitDefEqProofs [gl']
              refine eCall.of (parts_s a (Nat.gcd a b) hg0 h1 hgl) (by simp) ?_
              simp -dsimp -implicitDefEqProofs
              refine eCall.of (parts_s b (Nat.gcd a b) hg0 h2 hgl) (by simp) ?_
              simp -dsimp -implicitDefEqProofs [w, hs']
        · have bl2 : (1 : Int) < (toW b).length := by omega
          simp -dsimp -implicitDefEqProofs [Try.f39, al, al', bl2]
          refine eCall.of (common_s a b h1 h2) (by simp) ?_
          by_cases g1 : Nat.gcd a b = 1
          · simp only [g1, Nat.div_one] at w ⊢
            simp -dsimp -implicitDefEqProofs [w, hs', toW_one, g1, Nat.div_one]
          · by_cases gl : (toW (Nat.gcd a b)).length = 1
            · have g2 := len_one hg0 gl
              have g3 : (toW (Nat.gcd a b))[0] = ((Nat.gcd a b : Nat) : Int) := by rw [List.getElem_eq_iff]; exact g2
              have gl' : ¬ (1 : Int) < (toW (Nat.gcd a b)).length := by omega
              have g4 : ¬ ((Nat.gcd a b : Nat) : Int) = 1 := by omega
              simp -dsimp -implicitDefEqProofs [gl, gl', g1, g2, g3, g4]
              refine eCall.of (parts_s a (Nat.gcd a b) hg0 h1 hgl) (by simp) ?_
              simp -dsimp -implicitDefEqProofs
              refine eCall.of (parts_s b (Nat.gcd a b) hg0 h2 hgl) (by simp) ?_
              simp -dsimp -implicitDefEqProofs [w, hs']
            · have gp := mt toW_len_zero.1 hg0
              have gl' : (1 : Int) < (toW (Nat.gcd a b)).length := by omega
              simp -dsimp -implicitDefEqProofs [gl']
              refine eCall.of (parts_s a (Nat.gcd a b) hg0 h1 hgl) (by simp) ?_
              simp -dsimp -implicitDefEqProofs
              refine eCall.of (parts_s b (Nat.gcd a b) hg0 h2 hgl) (by simp) ?_
              simp -dsimp -implicitDefEqProofs [w, hs']
end Go.Proofs.Ytockjmmogkhepaa.Sh

