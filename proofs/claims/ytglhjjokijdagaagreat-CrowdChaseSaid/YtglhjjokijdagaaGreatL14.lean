/- A part of the proof: R5, R6, R7, R8, R9, R10, RowD -/
import Derived.Test.YtglhjjokijdagaaGreatL13
set_option linter.unusedSimpArgs false
set_option linter.unusedVariables false
set_option linter.unusedSectionVars false
/- Fractions as they are handed in, right or not. -/
namespace Go.Proofs.YtglhjjokijdagaaGreat.Sh
open Go Go.RowKit

/-- A fraction that is handed in. -/
structure FR where
  neg : Bool
  num : List Int
  den : List Int

@[simp] def frS (f : FR) : SV := .agg [.bool f.neg, wS f.num, wS f.den]

structure FR.ok (f : FR) : Prop where
  inum : InW f.num
  iden : InW f.den
  lnum : f.num.length ≤ 140737488355328
  lden : f.den.length ≤ 140737488355328

/-- Is it a right fraction? -/
def FR.right (f : FR) : Bool :=
  if f.den.length = 0 then false
  else if 4096 < f.num.length + f.den.length then false
  else if at0 f.den (f.den.length - 1) = 0 then false
  else if f.num.length = 0 then decide (f.den = [1]) && !f.neg
  else if at0 f.num (f.num.length - 1) = 0 then false
  else decide (Nat.gcd (val f.num).toNat (val f.den).toNat = 1)

/-- What it is: 0, if it is not right. -/
def FR.fix (f : FR) : Rat := if f.right then mkQ f.neg (val f.num).toNat (val f.den).toNat else 0

/-- A fraction's form. -/
def frQ (q : Rat) : FR := ⟨ng q, toW q.num.natAbs, toW q.den⟩
theorem frS_frQ (q : Rat) : frS (frQ q) = fS q := rfl
theorem frQ_ok {q : Rat} (h : sz q ≤ 140737488355328) : (frQ q).ok := by
  unfold sz wl at h
  exact ⟨toW_inW _, toW_inW _, by show (toW _).length ≤ _; omega, by show (toW _).length ≤ _; omega⟩

theorem trim_of_last {l : List Int} (h : l.length ≠ 0) (h2 : at0 l (l.length - 1) ≠ 0) : Trim l := by
  rcases List.eq_nil_or_concat l with rfl | ⟨a, x, rfl⟩
  · exact Or.inl rfl
  · refine Or.inr ⟨a, x, List.concat_eq_append, ?_⟩
    simpa [at0] using h2

theorem toW_of {l : List Int} (hi : InW l) (h : l.length ≠ 0) (h2 : at0 l (l.length - 1) ≠ 0) : l = toW (val l).toNat ∧ (val l).toNat ≠ 0 := by
  have e := toW_val hi (trim_of_last h h2)
  refine ⟨e.symm, fun h0 => h ?_⟩
  rw [h0, toW_zero] at e
  rw [← e]; rfl

theorem last_toW {n : Nat} (h : n ≠ 0) : at0 (toW n) ((toW n).length - 1) ≠ 0 := by
  rcases toW_trim n with h1 | ⟨a, x, h1, hx⟩
  · exact absurd (toW_eq_nil.1 h1) h
  · rw [h1]; simpa [at0] using hx

/-- A right fraction is the form of what it is. -/
theorem FR.right_fix {f : FR} (hi : f.ok) (h : f.right = true) : frS f = fS f.fix ∧ sz f.fix ≤ 4096 := by
  unfold FR.fix
  rw [if_pos h]
  unfold FR.right at h
  split at h
  · cases h
  · rename_i d0
    split at h
    · cases h
    · rename_i hs
      split at h
      · cases h
      · rename_i hl
        obtain ⟨ed, ed0⟩ := toW_of hi.iden d0 hl
        split at h
        · rename_i n0
          have en : f.num = [] := List.length_eq_zero_iff.1 n0
          simp only [Bool.and_eq_true, decide_eq_true_eq, Bool.not_eq_true'] at h
          have hv : (val f.num).toNat = 0 := by rw [en]; rfl
          rw [hv, mkQ_zero]
          refine ⟨?_, by decide +kernel⟩
          have e0 : toW (0 : Rat).num.natAbs = [] := toW_zero
          have e1 : toW (0 : Rat).den = [1] := toW_one
          have e2 : decide ((0 : Rat).num < 0) = false := rfl
          simp only [frS, fS, nS, wS, e0, e1, e2, en, h.1, h.2]
        · rename_i n0
          split at h
          · cases h
          · rename_i hln
            obtain ⟨en, en0⟩ := toW_of hi.inum n0 hln
            have hg : Nat.gcd (val f.num).toNat (val f.den).toNat = 1 := by simpa using h
            have q1 := mkQ_abs f.neg (val f.num).toNat (val f.den).toNat ed0
            have q2 := mkQ_den f.neg (val f.num).toNat (val f.den).toNat ed0
            have q3 := mkQ_neg f.neg (val f.num).toNat (val f.den).toNat ed0 en0
            rw [hg, Nat.div_one] at q1 q2
            refine ⟨?_, ?_⟩
            · simp only [frS, fS, nS, q1, q2, q3, ← en, ← ed]
            · unfold sz wl
              rw [q1, q2, ← en, ← ed]; omega

theorem gcd_right (q : Rat) : Nat.gcd q.num.natAbs q.den = 1 := q.reduced

theorem right_frQ {q : Rat} (h : sz q ≤ 4096) : (frQ q).right = true := by
  have hd := q.den_nz
  have dl : ¬ (toW q.den).length = 0 := mt toW_len_zero.1 hd
  unfold sz wl at h
  unfold FR.right frQ
  simp only
  rw [if_neg dl, if_neg (by omega), if_neg (last_toW hd)]
  by_cases n0 : q.num.natAbs = 0
  · rw [if_pos (toW_len_zero.2 n0)]
    have hq : q = 0 := abs_eq_zero.1 n0
    subst hq
    have e1 : toW (0 : Rat).den = [1] := toW_one
    rw [e1]; rfl
  · rw [if_neg (mt toW_len_zero.1 n0), if_neg (last_toW n0), val_toW, val_toW, Int.toNat_natCast, Int.toNat_natCast]
    exact decide_eq_true (gcd_right q)

theorem fix_frQ {q : Rat} (h : sz q ≤ 4096) : (frQ q).fix = q := by
  unfold FR.fix
  rw [if_pos (right_frQ h)]
  unfold frQ
  simp only
  rw [val_toW, val_toW, Int.toNat_natCast, Int.toNat_natCast]
  exact mkQ_self q

theorem sz_zero : sz 0 = 1 := by decide +kernel
theorem sz_fix {f : FR} (hi : f.ok) : sz f.fix ≤ 4096 := by
  by_cases h : f.right = true
  · exact (f.right_fix hi h).2
  · unfold FR.fix; rw [if_neg h, sz_zero]; omega
theorem sz_cap (q : Rat) : sz (cap q) ≤ 4096 := by
  unfold cap; split
  · rw [sz_zero]; omega
  · omega
theorem cap_fix {f : FR} (hi : f.ok) : cap f.fix = f.fix := by unfold cap; rw [if_neg (by have := sz_fix hi; omega)]
theorem cap_of {q : Rat} (h : sz q ≤ 4096) : cap q = q := by unfold cap; rw [if_neg (by omega)]

set_option maxRecDepth 20000 in
theorem rightF_s (f : FR) (hi : f.ok) : CallsS Tryz.prog 129 [frS f] (B f.right) := by
  obtain ⟨neg, num, den⟩ := f
  obtain ⟨i1, i2, i3, i4⟩ := hi
  simp only at i1 i2 i3 i4
  unfold FR.right
  simp only
  have w : IntKind.i64.wrap ((num.length : Int) + den.length) = (num.length : Int) + den.length := wrap_i64 _ (by omega) (by omega)
  refine calls Tryz.func129 rfl (by rfl) (by rfl) (by kernel_rfl) ?_
  by_cases d0 : den.length = 0
  · simp -dsimp -implicitDefEqProofs [Tryz.f129, d0]
  · rw [if_neg d0]
    by_cases hs : 4096 < num.length + den.length
    · have hs' : (4096 : Int) < (num.length : Int) + den.length := by omega
      simp -dsimp -implicitDefEqProofs [Tryz.f129, d0, w, hs, hs']
    · have hs' : ¬ (4096 : Int) < (num.length : Int) + den.length := by omega
      have wd : IntKind.i64.wrap ((den.length : Int) - 1) = ((den.length - 1 : Nat) : Int) := by rw [wrap_i64 _ (by omega) (by omega)]; omega
      have gd : den[den.length - 1]? = some (at0 den (den.length - 1)) := by rw [at0_lt (by omega), List.getElem?_eq_getElem]
      rw [if_neg hs]
      by_cases hl : at0 den (den.length - 1) = 0
      · simp -dsimp -implicitDefEqProofs [Tryz.f129, d0, w, hs', wd, gd, hl]
        omega
      · rw [if_neg hl]
        simp -dsimp -implicitDefEqProofs [Tryz.f129, d0, w, hs', wd, gd, hl]
        refine ⟨by omega, ?_⟩
        by_cases n0 : num.length = 0
        · have en : num = [] := List.length_eq_zero_iff.1 n0
          subst en
          simp -dsimp -implicitDefEqProofs
          refine eCall.of (wone_s den) (by simp) ?_
          cases neg
          · simp -dsimp -implicitDefEqProofs
          · simp -dsimp -implicitDefEqProofs
        · rw [if_neg n0]
          have wn : IntKind.i64.wrap ((num.length : Int) - 1) = ((num.length - 1 : Nat) : Int) := by rw [wrap_i64 _ (by omega) (by omega)]; omega
          have gn : num[num.length - 1]? = some (at0 num (num.length - 1)) := by rw [at0_lt (by omega), List.getElem?_eq_getElem]
          have en : ¬ num = [] := fun h => n0 (by rw [h]; rfl)
          by_cases hn : at0 num (num.length - 1) = 0
          · simp -dsimp -implicitDefEqProofs [n0, en, wn, gn, hn]
            omega
          · rw [if_neg hn]
            simp -dsimp -implicitDefEqProofs [n0, en, wn, gn, hn]
            refine ⟨by omega, ?_⟩
            refine eCall.of (wone_s den) (by simp) ?_
            obtain ⟨e1, v1⟩ := toW_of i1 n0 hn
            obtain ⟨e2, v2⟩ := toW_of i2 d0 hl
            generalize (val num).toNat = a at *
            generalize (val den).toNat = b at *
            subst e1 e2
            by_cases b1 : toW b = [1]
            · have b1' : b = 1 := toW_inj (by rw [b1, toW_one])
              subst b1'
              simp -dsimp -implicitDefEqProofs [b1]
            · simp -dsimp -implicitDefEqProofs [b1]
              refine eCall.of (gcd_s a b (by omega) (by omega)) (by simp) ?_
              simp -dsimp -implicitDefEqProofs
              refine eCall.of (wone_s (toW (Nat.gcd a b))) (by simp) ?_
              have hg : toW (Nat.gcd a b) = [1] ↔ Nat.gcd a b = 1 := ⟨fun h => toW_inj (by rw [h, toW_one]), fun h => by rw [h, toW_one]⟩
              simp -dsimp -implicitDefEqProofs [hg]
end Go.Proofs.YtglhjjokijdagaaGreat.Sh

/- Fractions: frac's functions that are told. -/
namespace Go.Proofs.YtglhjjokijdagaaGreat.Sh
open Go Go.RowKit

set_option maxRecDepth 20000 in
theorem taken_s (f : FR) (hi : f.ok) : CallsS Tryz.prog 84 [frS f] (.v (ratS f.fix)) := by
  refine calls Tryz.func84 rfl (by rfl) (by rfl) (by kernel_rfl) ?_
  simp -dsimp -implicitDefEqProofs [Tryz.f84]
  refine eCall.of (rightF_s f hi) (by simp) ?_
  cases h : f.right
  · have e : f.fix = 0 := by unfold FR.fix; rw [h]; rfl
    rw [e]
    simp -dsimp -implicitDefEqProofs
    refine eCall.of (whole_s 0 (by decide) (by decide)) (by simp) ?_
    simp -dsimp -implicitDefEqProofs
  · obtain ⟨e, _⟩ := f.right_fix hi h
    simp only [frS, fS, SV.agg.injEq, List.cons.injEq, and_true, S1.bool.injEq] at e
    obtain ⟨e1, e2, e3⟩ := e
    have er : ratS f.fix = .agg [wS f.num, wS f.den, .bool f.neg] := by rw [ratS, ← e1, ← e2, ← e3]
    rw [er]
    simp -dsimp -implicitDefEqProofs

theorem sz_mul (p q : Rat) : sz (p * q) ≤ sz p + sz q := by
  rw [mul_mkQ]
  have := sz_mkQ (ng p != ng q) (p.num.natAbs * q.num.natAbs) (p.den * q.den) (Nat.mul_ne_zero p.den_nz q.den_nz)
  have h1 := wl_mul p.num.natAbs q.num.natAbs
  have h2 := wl_mul p.den q.den
  unfold sz at *
  omega

theorem sz_mkRat (n : Int) (d : Nat) (hd : d ≠ 0) : sz (mkRat n d) ≤ wl n.natAbs + wl d := by
  have : mkRat n d = mkQ (decide (n < 0)) n.natAbs d := by
    unfold mkQ
    congr 1
    unfold sg
    by_cases h : n < 0
    · rw [decide_eq_true h, if_pos rfl]; omega
    · rw [decide_eq_false h, if_neg (by simp)]; omega
  rw [this]
  exact sz_mkQ _ _ _ hd

/-- The greater count of words, above or below. -/
def mz (q : Rat) : Nat := max (wl q.num.natAbs) (wl q.den)
theorem sz_mz (q : Rat) : sz q ≤ 2 * mz q ∧ mz q ≤ sz q := by unfold sz mz; omega

theorem mz_mkRat (n : Int) (d : Nat) (hd : d ≠ 0) : mz (mkRat n d) ≤ max (wl n.natAbs) (wl d) := by
  have : mkRat n d = mkQ (decide (n < 0)) n.natAbs d := by
    unfold mkQ
    congr 1
    unfold sg
    by_cases h : n < 0
    · rw [decide_eq_true h, if_pos rfl]; omega
    · rw [decide_eq_false h, if_neg (by simp)]; omega
  rw [this]
  unfold mz
  rw [mkQ_abs _ _ _ hd, mkQ_den _ _ _ hd]
  have := wl_div n.natAbs (Nat.gcd n.natAbs d)
  have := wl_div d (Nat.gcd n.natAbs d)
  omega

theorem mz_add (p q : Rat) : mz (p + q) ≤ mz p + mz q + 1 := by
  rw [add_mkQ]
  have h0 := mz_mkRat (sg (ng p) (p.num.natAbs * q.den) + sg (ng q) (q.num.natAbs * p.den)) (p.den * q.den) (Nat.mul_ne_zero p.den_nz q.den_nz)
  have h1 := wl_mul p.num.natAbs q.den
  have h2 := wl_mul q.num.natAbs p.den
  have h3 := wl_mul p.den q.den
  have h4 := wl_add (p.num.natAbs * q.den) (q.num.natAbs * p.den)
  have h5 : wl (sg (ng p) (p.num.natAbs * q.den) + sg (ng q) (q.num.natAbs * p.den)).natAbs ≤ wl (p.num.natAbs * q.den + q.num.natAbs * p.den) := wl_mono (by
    have := sg_natAbs (ng p) (p.num.natAbs * q.den)
    have := sg_natAbs (ng q) (q.num.natAbs * p.den)
    omega)
  have e : mz p = max (wl p.num.natAbs) (wl p.den) := rfl
  have e2 : mz q = max (wl q.num.natAbs) (wl q.den) := rfl
  omega
theorem mz_mul (p q : Rat) : mz (p * q) ≤ mz p + mz q := by
  rw [Rat.mul_def']
  have h0 := mz_mkRat (p.num * q.num) (p.den * q.den) (Nat.mul_ne_zero p.den_nz q.den_nz)
  rw [Int.natAbs_mul] at h0
  have h1 := wl_mul p.num.natAbs q.num.natAbs
  have h3 := wl_mul p.den q.den
  have e : mz p = max (wl p.num.natAbs) (wl p.den) := rfl
  have e2 : mz q = max (wl q.num.natAbs) (wl q.den) := rfl
  omega
theorem sz_add (p q : Rat) : sz (p + q) ≤ 2 * (sz p + sz q + 1) := by
  have := mz_add p q
  have := sz_mz (p + q)
  have := sz_mz p
  have := sz_mz q
  omega
theorem sz_neg (q : Rat) : sz (-q) = sz q := by unfold sz; rw [Rat.neg_num, Rat.neg_den, Int.natAbs_neg]
theorem sz_inv (q : Rat) (h : q ≠ 0) : sz q⁻¹ = sz q := by
  obtain ⟨e1, e2, _⟩ := over_num h
  unfold sz; rw [e1, e2]; omega
theorem sz_int (n : Int) (h0 : -9223372036854775808 ≤ n) (h1 : n < 9223372036854775808) : sz (n : Rat) ≤ 3 := by
  have : wl (n : Rat).num.natAbs ≤ 2 := wl_u64 (by rw [Rat.num_intCast]; omega)
  unfold sz; rw [Rat.den_intCast, wl_one]; omega

set_option maxRecDepth 20000 in
theorem fsign_s (f : FR) (hi : f.ok) : CallsS Tryz.prog 44 [frS f] (I .i64 (sgnQ f.fix)) := by
  refine calls Tryz.func44 rfl (by rfl) (by rfl) (by kernel_rfl) ?_
  simp -dsimp -implicitDefEqProofs [Tryz.f44]
  refine eCall.of (taken_s f hi) (by simp) ?_
  simp -dsimp -implicitDefEqProofs
  refine eCall.of (sign_s f.fix) (by simp) ?_
  simp -dsimp -implicitDefEqProofs [sgnQ]

set_option maxRecDepth 20000 in
theorem fcmp_s (f g : FR) (hf : f.ok) (hg : g.ok) : CallsS Tryz.prog 70 [frS f, frS g] (I .i64 (cmpQ f.fix g.fix)) := by
  have := sz_fix hf
  have := sz_fix hg
  refine calls Tryz.func70 rfl (by rfl) (by rfl) (by kernel_rfl) ?_
  simp -dsimp -implicitDefEqProofs [Tryz.f70]
  refine eCall.of (taken_s f hf) (by simp) ?_
  simp -dsimp -implicitDefEqProofs
  refine eCall.of (taken_s g hg) (by simp) ?_
  simp -dsimp -implicitDefEqProofs
  refine eCall.of (rorder_s f.fix g.fix (by omega)) (by simp) ?_
  simp -dsimp -implicitDefEqProofs

set_option maxRecDepth 20000 in
theorem fadd_s (f g : FR) (hf : f.ok) (hg : g.ok) : CallsS Tryz.prog 39 [frS f, frS g] (.v (fS (cap (f.fix + g.fix)))) := by
  have := sz_fix hf
  have := sz_fix hg
  have := sz_add f.fix g.fix
  refine calls Tryz.func39 rfl (by rfl) (by rfl) (by kernel_rfl) ?_
  simp -dsimp -implicitDefEqProofs [Tryz.f39]
  refine eCall.of (taken_s f hf) (by simp) ?_
  simp -dsimp -implicitDefEqProofs
  refine eCall.of (taken_s g hg) (by simp) ?_
  simp -dsimp -implicitDefEqProofs
  refine eCall.of (rplus_s f.fix g.fix (by omega)) (by simp) ?_
  simp -dsimp -implicitDefEqProofs
  refine eCall.of (told_s (f.fix + g.fix) (by omega)) (by simp) ?_
  simp -dsimp -implicitDefEqProofs

set_option maxRecDepth 20000 in
theorem fmul_s (f g : FR) (hf : f.ok) (hg : g.ok) : CallsS Tryz.prog 99 [frS f, frS g] (.v (fS (cap (f.fix * g.fix)))) := by
  have := sz_fix hf
  have := sz_fix hg
  have := sz_mul f.fix g.fix
  refine calls Tryz.func99 rfl (by rfl) (by rfl) (by kernel_rfl) ?_
  simp -dsimp -implicitDefEqProofs [Tryz.f99]
  refine eCall.of (taken_s f hf) (by simp) ?_
  simp -dsimp -implicitDefEqProofs
  refine eCall.of (taken_s g hg) (by simp) ?_
  simp -dsimp -implicitDefEqProofs
  refine eCall.of (rtimes_s f.fix g.fix (by omega)) (by simp) ?_
  simp -dsimp -implicitDefEqProofs
  refine eCall.of (told_s (f.fix * g.fix) (by omega)) (by simp) ?_
  simp -dsimp -implicitDefEqProofs

set_option maxRecDepth 20000 in
theorem fneg_s (f : FR) (hf : f.ok) : CallsS Tryz.prog 97 [frS f] (.v (fS (-f.fix))) := by
  have := sz_fix hf
  have hn := sz_neg f.fix
  have ht := told_s (-f.fix) (by omega)
  rw [cap_of (by omega)] at ht
  refine calls Tryz.func97 rfl (by rfl) (by rfl) (by kernel_rfl) ?_
  simp -dsimp -implicitDefEqProofs [Tryz.f97]
  refine eCall.of (taken_s f hf) (by simp) ?_
  simp -dsimp -implicitDefEqProofs
  refine eCall.of (rminus_s f.fix) (by simp) ?_
  simp -dsimp -implicitDefEqProofs
  refine eCall.of ht (by simp) ?_
  simp -dsimp -implicitDefEqProofs

set_option maxRecDepth 20000 in
theorem ffix_s (f : FR) (hf : f.ok) : CallsS Tryz.prog 95 [frS f] (.v (fS f.fix)) := by
  have := sz_fix hf
  have ht := told_s f.fix (by omega)
  rw [cap_of (by omega)] at ht
  refine calls Tryz.func95 rfl (by rfl) (by rfl) (by kernel_rfl) ?_
  simp -dsimp -implicitDefEqProofs [Tryz.f95]
  refine eCall.of (taken_s f hf) (by simp) ?_
  simp -dsimp -implicitDefEqProofs
  refine eCall.of ht (by simp) ?_
  simp -dsimp -implicitDefEqProofs

set_option maxRecDepth 20000 in
theorem fdiv_s (f g : FR) (hf : f.ok) (hg : g.ok) (h0 : g.fix ≠ 0) : CallsS Tryz.prog 98 [frS f, frS g] (.tup [fS (cap (f.fix / g.fix)), .one (.int .i64 0)]) := by
  have := sz_fix hf
  have := sz_fix hg
  have hi := sz_inv g.fix h0
  have := sz_mul f.fix g.fix⁻¹
  rw [Rat.div_def]
  have hs := sign_s g.fix
  have ho := over_s g.fix h0
  have hrt := rtimes_s f.fix g.fix⁻¹ (by omega)
  have htl := told_s (f.fix * g.fix⁻¹) (by omega)
  generalize g.fix⁻¹ = R at *
  rw [if_neg h0] at hs
  have hne : ¬ (if g.fix < 0 then (-1 : Int) else 1) = 0 := by split <;> decide
  refine calls Tryz.func98 rfl (by rfl) (by rfl) (by kernel_rfl) ?_
  simp -dsimp -implicitDefEqProofs [Tryz.f98]
  refine eCall.of (taken_s g hg) (by simp) ?_
  simp -dsimp -implicitDefEqProofs
  refine eCall.of hs (by simp) ?_
  simp -dsimp -implicitDefEqProofs [hne]
  refine eCall.of (taken_s f hf) (by simp) ?_
  simp -dsimp -implicitDefEqProofs
  refine eCall.of ho (by simp) ?_
  simp -dsimp -implicitDefEqProofs
  refine eCall.of hrt (by simp) ?_
  simp -dsimp -implicitDefEqProofs
  refine eCall.of htl (by simp) ?_
  simp -dsimp -implicitDefEqProofs

set_option maxRecDepth 20000 in
theorem fmake_s (p q : Int) (p0 : -9223372036854775808 ≤ p) (p1 : p < 9223372036854775808) (q0 : -9223372036854775808 ≤ q) (q1 : q < 9223372036854775808) (h0 : q ≠ 0) : CallsS Tryz.prog 96 [.one (.int .i64 p), .one (.int .i64 q)] (.tup [fS ((p : Rat) / (q : Rat)), .one (.int .i64 0)]) := by
  have hq : (q : Rat) ≠ 0 := fun h => h0 (by have := congrArg Rat.num h; simpa using this)
  have s1 := sz_int p p0 p1
  have s2 := sz_int q q0 q1
  have hi := sz_inv (q : Rat) hq
  have s3 := sz_mul (p : Rat) (q : Rat)⁻¹
  have ht := told_s ((p : Rat) * (q : Rat)⁻¹) (by omega)
  rw [cap_of (by omega)] at ht
  rw [Rat.div_def]
  have hwp := whole_s p p0 p1
  have hwq := whole_s q q0 q1
  generalize (p : Rat) = P at *
  generalize (q : Rat) = Q at *
  refine calls Tryz.func96 rfl (by rfl) (by rfl) (by kernel_rfl) ?_
  simp -dsimp -implicitDefEqProofs [Tryz.f96, h0]
  refine eCall.of hwp (by simp) ?_
  simp -dsimp -implicitDefEqProofs
  refine eCall.of hwq (by simp) ?_
  simp -dsimp -implicitDefEqProofs
  refine eCall.of (over_s Q hq) (by simp) ?_
  have hrt := rtimes_s P Q⁻¹ (by omega)
  generalize Q⁻¹ = R at *
  simp -dsimp -implicitDefEqProofs
  refine eCall.of hrt (by simp) ?_
  simp -dsimp -implicitDefEqProofs
  refine eCall.of ht (by simp) ?_
  simp -dsimp -implicitDefEqProofs
end Go.Proofs.YtglhjjokijdagaaGreat.Sh

/- Fractions: the reference's inner functions. -/
namespace Go.Proofs.YtglhjjokijdagaaGreat.Sh
open Go Go.RowKit

set_option maxRecDepth 20000 in
theorem zeroR_s : CallsS Tryz.prog 101 [] (.v (fS 0)) := by
  refine calls Tryz.func101 rfl (by rfl) (by rfl) (by kernel_rfl) ?_
  simp -dsimp -implicitDefEqProofs [Tryz.f101]
  refine eCall.of oneR_s (by simp) ?_
  simp -dsimp -implicitDefEqProofs [toW_zero, toW_one]

theorem len_one {n : Nat} (h0 : n ≠ 0) (hl : (toW n).length = 1) : (toW n)[0]? = some (n : Int) := (one_word h0 hl).2

set_option maxRecDepth 20000 in
theorem lowest_s (neg : Bool) (a b : Nat) (hb : b ≠ 0) (h1 : wl a ≤ 17592186044416) (h2 : wl b ≤ 17592186044416) : CallsS Tryz.prog 71 [.one (.bool neg), .one (nS a), .one (nS b)] (.v (fS (cap (mkQ neg a b)))) := by
  by_cases a0 : a = 0
  · subst a0
    rw [mkQ_zero, cap_of (by rw [sz_zero]; omega)]
    refine calls Tryz.func71 rfl (by rfl) (by rfl) (by kernel_rfl) ?_
    simp -dsimp -implicitDefEqProofs [Tryz.f71, toW_zero]
    refine eCall.of zeroR_s (by simp [toW_zero, toW_one]) ?_
    simp -dsimp -implicitDefEqProofs [toW_zero, toW_one]
  · have al : ¬ (toW a).length = 0 := mt toW_len_zero.1 a0
    have al' : ¬ toW a = [] := mt toW_eq_nil.1 a0
    have bl : ¬ (toW b).length = 0 := mt toW_len_zero.1 hb
    have hg0 : Nat.gcd a b ≠ 0 := by intro h; exact hb (Nat.eq_zero_of_gcd_eq_zero_right h)
    have hgl : wl (Nat.gcd a b) ≤ 17592186044416 := Nat.le_trans (wl_mono (Nat.gcd_le_right _ (by omega))) h2
    have q1 := mkQ_abs neg a b hb
    have q2 := mkQ_den neg a b hb
    have q3 := mkQ_neg neg a b hb a0
    have hsz : sz (mkQ neg a b) = wl (a / Nat.gcd a b) + wl (b / Nat.gcd a b) := by unfold sz; rw [q1, q2]
    have d1 := wl_div a (Nat.gcd a b)
    have d2 := wl_div b (Nat.gcd a b)
    -- the end
    have w : IntKind.i64.wrap (((toW (a / Nat.gcd a b)).length : Int) + (toW (b / Nat.gcd a b)).length) = ((sz (mkQ neg a b) : Nat) : Int) := by
      rw [wl_def, wl_def, wrap_i64 _ (by omega) (by omega), hsz]; omega
    have fin : fS (cap (mkQ neg a b)) = if 4096 < sz (mkQ neg a b) then fS 0 else .agg [.bool neg, nS (a / Nat.gcd a b), nS (b / Nat.gcd a b)] := by
      unfold cap
      split
      · rfl
      · rw [fS, q1, q2, q3]
    rw [fin]
    clear fin q1 q2 q3
    by_cases hs : 4096 < sz (mkQ neg a b)
    · have hs' : (4096 : Int) < (sz (mkQ neg a b) : Nat) := by omega
      rw [if_pos hs]
      by_cases b1 : b = 1
      · subst b1
        rw [Nat.gcd_one_right, Nat.div_one, Nat.div_one, toW_one] at w
        try rw [Nat.gcd_one_right, Nat.div_one, Nat.div_one]
        have w' : IntKind.i64.wrap (((toW a).length : Int) + 1) = ((sz (mkQ neg a 1) : Nat) : Int) := w
        refine calls Tryz.func71 rfl (by rfl) (by rfl) (by kernel_rfl) ?_
        simp -dsimp -implicitDefEqProofs [Tryz.f71, al, al', toW_one, w', hs']
        refine eCall.of zeroR_s (by simp [toW_zero, toW_one]) ?_
        simp -dsimp -implicitDefEqProofs [toW_zero, toW_one]
      · refine calls Tryz.func71 rfl (by rfl) (by rfl) (by kernel_rfl) ?_
        by_cases bl1 : (toW b).length = 1
        · have b2 := len_one hb bl1
          have b3 : (toW b)[0] = (b : Int) := by rw [List.getElem_eq_iff]; exact b2
          have bl2 : ¬ (1 : Int) < (toW b).length := by omega
          have b4 : ¬ (b : Int) = 1 := by omega
          simp -dsimp -implicitDefEqProofs [Tryz.f71, al, al', bl1, bl2, b1, b2, b3, b4]
          refine eCall.of (common_s a b h1 h2) (by simp) ?_
          by_cases g1 : Nat.gcd a b = 1
          · simp only [g1, Nat.div_one] at w ⊢
            simp -dsimp -implicitDefEqProofs [w, hs', toW_one, g1, Nat.div_one]
            refine eCall.of zeroR_s (by simp [toW_zero, toW_one]) ?_
            simp -dsimp -implicitDefEqProofs [toW_zero, toW_one]
          · by_cases gl : (toW (Nat.gcd a b)).length = 1
            · have g2 := len_one hg0 gl
              have g3 : (toW (Nat.gcd a b))[0] = ((Nat.gcd a b : Nat) : Int) := by rw [List.getElem_eq_iff]; exact g2
              have gl' : ¬ (1 : Int) < (toW (Nat.gcd a b)).length := by omega
              have g4 : ¬ ((Nat.gcd a b : Nat) : Int) = 1 := by omega
              simp -dsimp -implicitDefEqProofs [gl, gl', g1, g2, g3, g4]
              refine eCall.of (parts_s a (Nat.gcd a b) hg0 h1 hgl) (by simp) ?_
              simp -dsimp -implicitDefEqProofs
              refine eCall.of (parts_s b (Nat.gcd a b) hg0 h2 hgl) (by simp) ?_
              simp -dsimp -implicitDefEqProofs [w, hs']
              refine eCall.of zeroR_s (by simp [toW_zero, toW_one]) ?_
              simp -dsimp -implicitDefEqProofs [toW_zero, toW_one]
            · have gp := mt toW_len_zero.1 hg0
              have gl' : (1 : Int) < (toW (Nat.gcd a b)).length := by omega
              simp -dsimp -implicitDefEqProofs [gl']
              refine eCall.of (parts_s a (Nat.gcd a b) hg0 h1 hgl) (by simp) ?_
              simp -dsimp -implicitDefEqProofs
              refine eCall.of (parts_s b (Nat.gcd a b) hg0 h2 hgl) (by simp) ?_
              simp -dsimp -implicitDefEqProofs [w, hs']
              refine eCall.of zeroR_s (by simp [toW_zero, toW_one]) ?_
              simp -dsimp -implicitDefEqProofs [toW_zero, toW_one]
        · have bl2 : (1 : Int) < (toW b).length := by omega
          simp -dsimp -implicitDefEqProofs [Tryz.f71, al, al', bl2]
          refine eCall.of (common_s a b h1 h2) (by simp) ?_
          by_cases g1 : Nat.gcd a b = 1
          · simp only [g1, Nat.div_one] at w ⊢
            simp -dsimp -implicitDefEqProofs [w, hs', toW_one, g1, Nat.div_one]
            refine eCall.of zeroR_s (by simp [toW_zero, toW_one]) ?_
            simp -dsimp -implicitDefEqProofs [toW_zero, toW_one]
          · by_cases gl : (toW (Nat.gcd a b)).length = 1
            · have g2 := len_one hg0 gl
              have g3 : (toW (Nat.gcd a b))[0] = ((Nat.gcd a b : Nat) : Int) := by rw [List.getElem_eq_iff]; exact g2
              have gl' : ¬ (1 : Int) < (toW (Nat.gcd a b)).length := by omega
              have g4 : ¬ ((Nat.gcd a b : Nat) : Int) = 1 := by omega
              simp -dsimp -implicitDefEqProofs [gl, gl', g1, g2, g3, g4]
              refine eCall.of (parts_s a (Nat.gcd a b) hg0 h1 hgl) (by simp) ?_
              simp -dsimp -implicitDefEqProofs
              refine eCall.of (parts_s b (Nat.gcd a b) hg0 h2 hgl) (by simp) ?_
              simp -dsimp -implicitDefEqProofs [w, hs']
              refine eCall.of zeroR_s (by simp [toW_zero, toW_one]) ?_
              simp -dsimp -implicitDefEqProofs [toW_zero, toW_one]
            · have gp := mt toW_len_zero.1 hg0
              have gl' : (1 : Int) < (toW (Nat.gcd a b)).length := by omega
              simp -dsimp -implicitDefEqProofs [gl']
              refine eCall.of (parts_s a (Nat.gcd a b) hg0 h1 hgl) (by simp) ?_
              simp -dsimp -implicitDefEqProofs
              refine eCall.of (parts_s b (Nat.gcd a b) hg0 h2 hgl) (by simp) ?_
              simp -dsimp -implicitDefEqProofs [w, hs']
              refine eCall.of zeroR_s (by simp [toW_zero, toW_one]) ?_
              simp -dsimp -implicitDefEqProofs [toW_zero, toW_one]
    · have hs' : ¬ (4096 : Int) < (sz (mkQ neg a b) : Nat) := by omega
      rw [if_neg hs]
      by_cases b1 : b = 1
      · subst b1
        rw [Nat.gcd_one_right, Nat.div_one, Nat.div_one, toW_one] at w
        try rw [Nat.gcd_one_right, Nat.div_one, Nat.div_one]
        have w' : IntKind.i64.wrap (((toW a).length : Int) + 1) = ((sz (mkQ neg a 1) : Nat) : Int) := w
        refine calls Tryz.func71 rfl (by rfl) (by rfl) (by kernel_rfl) ?_
        simp -dsimp -implicitDefEqProofs [Tryz.f71, al, al', toW_one, w', hs']
      · refine calls Tryz.func71 rfl (by rfl) (by rfl) (by kernel_rfl) ?_
        by_cases bl1 : (toW b).length = 1
        · have b2 := len_one hb bl1
          have b3 : (toW b)[0] = (b : Int) := by rw [List.getElem_eq_iff]; exact b2
          have bl2 : ¬ (1 : Int) < (toW b).length := by omega
          have b4 : ¬ (b : Int) = 1 := by omega
          simp -dsimp -implicitDefEqProofs [Tryz.f71, al, al', bl1, bl2, b1, b2, b3, b4]
          refine eCall.of (common_s a b h1 h2) (by simp) ?_
          by_cases g1 : Nat.gcd a b = 1
          · simp only [g1, Nat.div_one] at w ⊢
            simp -dsimp -implicitDefEqProofs [w, hs', toW_one, g1, Nat.div_one]
          · by_cases gl : (toW (Nat.gcd a b)).length = 1
            · have g2 := len_one hg0 gl
              have g3 : (toW (Nat.gcd a b))[0] = ((Nat.gcd a b : Nat) : Int) := by rw [List.getElem_eq_iff]; exact g2
              have gl' : ¬ (1 : Int) < (toW (Nat.gcd a b)).length := by omega
              have g4 : ¬ ((Nat.gcd a b : Nat) : Int) = 1 := by omega
              simp -dsimp -implicitDefEqProofs [gl, gl', g1, g2, g3, g4]
              refine eCall.of (parts_s a (Nat.gcd a b) hg0 h1 hgl) (by simp) ?_
              simp -dsimp -implicitDefEqProofs
              refine eCall.of (parts_s b (Nat.gcd a b) hg0 h2 hgl) (by simp) ?_
              simp -dsimp -implicitDefEqProofs [w, hs']
            · have gp := mt toW_len_zero.1 hg0
              have gl' : (1 : Int) < (toW (Nat.gcd a b)).length := by omega
              simp -dsimp -implicitDefEqProofs [gl']
              refine eCall.of (parts_s a (Nat.gcd a b) hg0 h1 hgl) (by simp) ?_
              simp -dsimp -implicitDefEqProofs
              refine eCall.of (parts_s b (Nat.gcd a b) hg0 h2 hgl) (by simp) ?_
              simp -dsimp -implicitDefEqProofs [w, hs']
        · have bl2 : (1 : Int) < (toW b).length := by omega
          simp -dsimp -implicitDefEqProofs [Tryz.f71, al, al', bl2]
          refine eCall.of (common_s a b h1 h2) (by simp) ?_
          by_cases g1 : Nat.gcd a b = 1
          · simp only [g1, Nat.div_one] at w ⊢
            simp -dsimp -implicitDefEqProofs [w, hs', toW_one, g1, Nat.div_one]
          · by_cases gl : (toW (Nat.gcd a b)).length = 1
            · have g2 := len_one hg0 gl
              have g3 : (toW (Nat.gcd a b))[0] = ((Nat.gcd a b : Nat) : Int) := by rw [List.getElem_eq_iff]; exact g2
              have gl' : ¬ (1 : Int) < (toW (Nat.gcd a b)).length := by omega
              have g4 : ¬ ((Nat.gcd a b : Nat) : Int) = 1 := by omega
              simp -dsimp -implicitDefEqProofs [gl, gl', g1, g2, g3, g4]
              refine eCall.of (parts_s a (Nat.gcd a b) hg0 h1 hgl) (by simp) ?_
              simp -dsimp -implicitDefEqProofs
              refine eCall.of (parts_s b (Nat.gcd a b) hg0 h2 hgl) (by simp) ?_
              simp -dsimp -implicitDefEqProofs [w, hs']
            · have gp := mt toW_len_zero.1 hg0
              have gl' : (1 : Int) < (toW (Nat.gcd a b)).length := by omega
              simp -dsimp -implicitDefEqProofs [gl']
              refine eCall.of (parts_s a (Nat.gcd a b) hg0 h1 hgl) (by simp) ?_
              simp -dsimp -implicitDefEqProofs
              refine eCall.of (parts_s b (Nat.gcd a b) hg0 h2 hgl) (by simp) ?_
              simp -dsimp -implicitDefEqProofs [w, hs']
end Go.Proofs.YtglhjjokijdagaaGreat.Sh

/- Fractions: the reference's told functions. -/
namespace Go.Proofs.YtglhjjokijdagaaGreat.Sh
open Go Go.RowKit

theorem mkQ_int (n : Int) : mkQ (decide (n < 0)) n.natAbs 1 = (n : Rat) := by
  have := mkQ_self (n : Rat)
  rw [Rat.num_intCast, Rat.den_intCast] at this
  exact this

set_option maxRecDepth 20000 in
theorem intR_s (n : Int) (h0 : -9223372036854775808 ≤ n) (h1 : n < 9223372036854775808) : CallsS Tryz.prog 26 [.one (.int .i64 n)] (.v (fS (n : Rat))) := by
  have hw := wl_u64 (n := n.natAbs) (by omega)
  have hl := lowest_s (decide (n < 0)) n.natAbs 1 (by decide) (by omega) (by rw [wl_one]; omega)
  rw [mkQ_int, cap_of (by have := sz_int n h0 h1; omega)] at hl
  generalize (n : Rat) = Q at *
  refine calls Tryz.func26 rfl (by rfl) (by rfl) (by kernel_rfl) ?_
  by_cases hn : n < 0
  · have w1 : IntKind.i64.wrap (n + 1) = n + 1 := wrap_i64 _ (by omega) (by omega)
    have w2 : IntKind.i64.wrap (-(n + 1)) = -(n + 1) := wrap_i64 _ (by omega) (by omega)
    have w3 : IntKind.u64.wrap (-(n + 1)) = -(n + 1) := wrap_u64_id _ (by omega) (by omega)
    have w4 : IntKind.u64.wrap (-(n + 1) + 1) = (n.natAbs : Int) := by rw [wrap_u64_id _ (by omega) (by omega)]; omega
    simp -dsimp -implicitDefEqProofs [Tryz.f26, hn, w1, w2, w3, w4]
    refine eCall.of (wide_s n.natAbs (by omega)) (by simp) ?_
    simp -dsimp -implicitDefEqProofs
    refine eCall.of oneR_s (by simp) ?_
    simp -dsimp -implicitDefEqProofs
    refine eCall.of hl (by simp [hn]) ?_
    simp -dsimp -implicitDefEqProofs
  · have w3 : IntKind.u64.wrap n = (n.natAbs : Int) := by rw [wrap_u64_id _ (by omega) (by omega)]; omega
    simp -dsimp -implicitDefEqProofs [Tryz.f26, hn, w3]
    refine eCall.of (wide_s n.natAbs (by omega)) (by simp) ?_
    simp -dsimp -implicitDefEqProofs
    refine eCall.of oneR_s (by simp) ?_
    simp -dsimp -implicitDefEqProofs
    refine eCall.of hl (by simp [Int.not_lt.1 hn]) ?_
    simp -dsimp -implicitDefEqProofs

set_option maxRecDepth 20000 in
set_option maxHeartbeats 2000000 in
theorem rightR_s (f : FR) (hi : f.ok) : CallsS Tryz.prog 100 [frS f] (B f.right) := by
  obtain ⟨neg, num, den⟩ := f
  obtain ⟨i1, i2, i3, i4⟩ := hi
  simp only at i1 i2 i3 i4
  unfold FR.right
  simp only
  have w : IntKind.i64.wrap ((num.length : Int) + den.length) = (num.length : Int) + den.length := wrap_i64 _ (by omega) (by omega)
  refine calls Tryz.func100 rfl (by rfl) (by rfl) (by kernel_rfl) ?_
  by_cases d0 : den.length = 0
  · have d0' : den = [] := List.length_eq_zero_iff.1 d0
    subst d0'
    simp -dsimp -implicitDefEqProofs [Tryz.f100]
  · have d0' : ¬ den = [] := fun h => d0 (by rw [h]; rfl)
    rw [if_neg d0]
    by_cases hs : 4096 < num.length + den.length
    · have hs' : (4096 : Int) < (num.length : Int) + den.length := by omega
      rw [if_pos hs]
      by_cases c1 : (4096 : Int) < num.length
      · simp -dsimp -implicitDefEqProofs [Tryz.f100, d0, d0', w, c1]
      · by_cases c2 : (4096 : Int) < den.length
        · simp -dsimp -implicitDefEqProofs [Tryz.f100, d0, d0', w, c1, c2]
        · simp -dsimp -implicitDefEqProofs [Tryz.f100, d0, d0', w, c1, c2, hs']
    · have hs' : ¬ (4096 : Int) < (num.length : Int) + den.length := by omega
      have c1 : ¬ (4096 : Int) < num.length := by omega
      have c2 : ¬ (4096 : Int) < den.length := by omega
      have wd : IntKind.i64.wrap ((den.length : Int) - 1) = ((den.length - 1 : Nat) : Int) := by rw [wrap_i64 _ (by omega) (by omega)]; omega
      have gd : den[den.length - 1]? = some (at0 den (den.length - 1)) := by rw [at0_lt (by omega), List.getElem?_eq_getElem]
      rw [if_neg hs]
      by_cases hl : at0 den (den.length - 1) = 0
      · simp -dsimp -implicitDefEqProofs [Tryz.f100, d0, d0', w, c1, c2, hs', wd, gd, hl]
        omega
      · rw [if_neg hl]
        simp -dsimp -implicitDefEqProofs [Tryz.f100, d0, d0', w, c1, c2, hs', wd, gd, hl]
        refine ⟨by omega, ?_⟩
        have d1 : den = [1] ↔ (den.length = 1 ∧ den[0]? = some 1) := by
          constructor
          · rintro rfl; exact ⟨rfl, rfl⟩
          · rintro ⟨h1, h2⟩
            obtain ⟨x, rfl⟩ := List.length_eq_one_iff.1 h1
            simpa using h2
        by_cases n0 : num.length = 0
        · have en : num = [] := List.length_eq_zero_iff.1 n0
          subst en
          cases neg
          · by_cases l1 : den.length = 1
            · obtain ⟨x, rfl⟩ := List.length_eq_one_iff.1 l1
              simp -dsimp -implicitDefEqProofs
              rfl
            · have l1' : ¬ (den.length : Int) = 1 := by omega
              have : ¬ den = [1] := fun h => l1 (d1.1 h).1
              simp -dsimp -implicitDefEqProofs [l1, l1', this]
          · simp -dsimp -implicitDefEqProofs
        · rw [if_neg n0]
          have wn : IntKind.i64.wrap ((num.length : Int) - 1) = ((num.length - 1 : Nat) : Int) := by rw [wrap_i64 _ (by omega) (by omega)]; omega
          have gn : num[num.length - 1]? = some (at0 num (num.length - 1)) := by rw [at0_lt (by omega), List.getElem?_eq_getElem]
          have en : ¬ num = [] := fun h => n0 (by rw [h]; rfl)
          by_cases hn : at0 num (num.length - 1) = 0
          · simp -dsimp -implicitDefEqProofs [n0, en, wn, gn, hn]
            omega
          · rw [if_neg hn]
            simp -dsimp -implicitDefEqProofs [n0, en, wn, gn, hn]
            refine ⟨by omega, ?_⟩
            obtain ⟨e1, v1⟩ := toW_of i1 n0 hn
            obtain ⟨e2, v2⟩ := toW_of i2 d0 hl
            generalize (val num).toNat = a at *
            generalize (val den).toNat = b at *
            subst e1 e2
            have hg0 : Nat.gcd a b ≠ 0 := by intro h; exact v2 (Nat.eq_zero_of_gcd_eq_zero_right h)
            by_cases b1 : b = 1
            · subst b1
              simp -dsimp -implicitDefEqProofs [toW_one]
            · by_cases bl1 : (toW b).length = 1
              · have b2 := len_one v2 bl1
                have b3 : (toW b)[0] = (b : Int) := by rw [List.getElem_eq_iff]; exact b2
                have b4 : ¬ (b : Int) = 1 := by omega
                have bl1' : ((toW b).length : Int) = 1 := by omega
                simp -dsimp -implicitDefEqProofs [bl1, bl1', b2, b3, b4]
                refine eCall.of (common_s a b (by omega) (by omega)) (by simp) ?_
                by_cases g1 : Nat.gcd a b = 1
                · simp -dsimp -implicitDefEqProofs [g1, toW_one]
                · by_cases gl : (toW (Nat.gcd a b)).length = 1
                  · have g2 := len_one hg0 gl
                    have g3 : (toW (Nat.gcd a b))[0] = ((Nat.gcd a b : Nat) : Int) := by rw [List.getElem_eq_iff]; exact g2
                    have gl' : ((toW (Nat.gcd a b)).length : Int) = 1 := by omega
                    have g4 : ¬ ((Nat.gcd a b : Nat) : Int) = 1 := by omega
                    simp -dsimp -implicitDefEqProofs [gl, gl', g1, g2, g3, g4]
                  · have gl' : ¬ ((toW (Nat.gcd a b)).length : Int) = 1 := by omega
                    simp -dsimp -implicitDefEqProofs [gl', g1]
              · have bl1' : ¬ ((toW b).length : Int) = 1 := by omega
                simp -dsimp -implicitDefEqProofs [bl1, bl1']
                refine eCall.of (common_s a b (by omega) (by omega)) (by simp) ?_
                by_cases g1 : Nat.gcd a b = 1
                · simp -dsimp -implicitDefEqProofs [g1, toW_one]
                · by_cases gl : (toW (Nat.gcd a b)).length = 1
                  · have g2 := len_one hg0 gl
                    have g3 : (toW (Nat.gcd a b))[0] = ((Nat.gcd a b : Nat) : Int) := by rw [List.getElem_eq_iff]; exact g2
                    have gl' : ((toW (Nat.gcd a b)).length : Int) = 1 := by omega
                    have g4 : ¬ ((Nat.gcd a b : Nat) : Int) = 1 := by omega
                    simp -dsimp -implicitDefEqProofs [gl, gl', g1, g2, g3, g4]
                  · have gl' : ¬ ((toW (Nat.gcd a b)).length : Int) = 1 := by omega
                    simp -dsimp -implicitDefEqProofs [gl', g1]

set_option maxRecDepth 20000 in
theorem fixR_s (f : FR) (hi : f.ok) : CallsS Tryz.prog 49 [frS f] (.v (fS f.fix)) := by
  refine calls Tryz.func49 rfl (by rfl) (by rfl) (by kernel_rfl) ?_
  simp -dsimp -implicitDefEqProofs [Tryz.f49]
  refine eCall.of (rightR_s f hi) (by simp) ?_
  cases h : f.right
  · have e : f.fix = 0 := by unfold FR.fix; rw [h]; rfl
    rw [e]
    simp -dsimp -implicitDefEqProofs
    refine eCall.of zeroR_s (by simp) ?_
    simp -dsimp -implicitDefEqProofs
  · obtain ⟨e, _⟩ := f.right_fix hi h
    rw [← e]
    simp -dsimp -implicitDefEqProofs

set_option maxRecDepth 20000 in
theorem productR_s (p q : Rat) (h : sz p + sz q ≤ 17592186044416) : CallsS Tryz.prog 138 [fS p, fS q] (.v (fS (cap (p * q)))) := by
  unfold sz at h
  have l1 := wl_mul p.num.natAbs q.num.natAbs
  have l2 := wl_mul p.den q.den
  have dn : p.den * q.den ≠ 0 := Nat.mul_ne_zero p.den_nz q.den_nz
  have hl := lowest_s (ng p != ng q) (p.num.natAbs * q.num.natAbs) (p.den * q.den) dn (by omega) (by omega)
  rw [← mul_mkQ] at hl
  generalize cap (p * q) = r at hl ⊢
  refine calls Tryz.func138 rfl (by rfl) (by rfl) (by kernel_rfl) ?_
  simp -dsimp -implicitDefEqProofs [Tryz.f138]
  refine eCall.of (timesN_s p.num.natAbs q.num.natAbs (by omega) (by omega)) (by simp) ?_
  simp -dsimp -implicitDefEqProofs
  refine eCall.of (timesN_s p.den q.den (by omega) (by omega)) (by simp) ?_
  simp -dsimp -implicitDefEqProofs
  refine eCall.of hl (by simp [ng, bne]) ?_
  simp -dsimp -implicitDefEqProofs

set_option maxRecDepth 20000 in
set_option maxHeartbeats 2000000 in
theorem sum_gen (a b d e : Nat) (np nq : Bool) (hd0 : d ≠ 0) (he0 : e ≠ 0) (h : wl a + wl b + wl d + wl e ≤ 17592186044415) :
    CallsS Tryz.prog 52 [.agg [.bool np, nS a, nS d], .agg [.bool nq, nS b, nS e]] (.v (fS (cap (if d = e then mkRat (sg np a + sg nq b) d else mkRat (sg np (a * e) + sg nq (b * d)) (d * e))))) := by
  have l1 := wl_mul a e
  have l2 := wl_mul b d
  have l3 := wl_mul d e
  have dn : d * e ≠ 0 := Nat.mul_ne_zero hd0 he0
  by_cases hd : d = e
  · subst hd
    rw [if_pos rfl]
    refine calls Tryz.func52 rfl (by rfl) (by rfl) (by kernel_rfl) ?_
    simp -dsimp -implicitDefEqProofs [Tryz.f52]
    refine eCall.of (order_s d d (by rw [wl_def]; omega) (by rw [wl_def]; omega)) (by simp) ?_
    simp -dsimp -implicitDefEqProofs [cmpN_eq (rfl : d = d)]
    have l4 := wl_add (a) (b)
    have e1 := sum_cases np nq (a) (b) (d)
    by_cases hn : np = nq
    · subst hn
      rw [if_pos rfl] at e1
      have hred := lowest_s np (a + b) (d) hd0 (by omega) (by omega)
      rw [← e1] at hred
      simp -dsimp -implicitDefEqProofs
      refine eCall.of (plusN_s (a) (b) (by omega) (by omega)) (by simp) ?_
      simp -dsimp -implicitDefEqProofs
      refine eCall.of hred (by simp) ?_
      simp -dsimp -implicitDefEqProofs
    · rw [if_neg hn] at e1
      have hnb : (np == nq) = false := by simpa using hn
      simp -dsimp -implicitDefEqProofs [hnb]
      refine eCall.of (order_s (a) (b) (by rw [wl_def]; omega) (by rw [wl_def]; omega)) (by simp) ?_
      rcases Nat.lt_trichotomy (a) (b) with hc | hc | hc
      · rw [if_neg (by omega), if_pos hc] at e1
        have lm := wl_mono (show b - (a) ≤ b by omega)
        have hred := lowest_s nq (b - (a)) (d) hd0 (by omega) (by omega)
        rw [← e1] at hred
        simp -dsimp -implicitDefEqProofs [cmpN_lt hc]
        refine eCall.of (minusN_s (b) (a) (by omega) (by omega)) (by simp) ?_
        simp -dsimp -implicitDefEqProofs
        refine eCall.of hred (by simp) ?_
        simp -dsimp -implicitDefEqProofs
      · rw [if_neg (by omega), if_neg (by omega)] at e1
        have lm := wl_mono (show a - (b) ≤ a by omega)
        have hred := lowest_s np (a - (b)) (d) hd0 (by omega) (by omega)
        rw [show a - (b) = 0 by omega, mkQ_zero, ← e1] at hred
        simp -dsimp -implicitDefEqProofs [cmpN_eq hc]
        refine eCall.of (minusN_s (a) (b) (by omega) (by omega)) (by simp) ?_
        rw [show a - (b) = 0 by omega]
        simp -dsimp -implicitDefEqProofs
        refine eCall.of hred (by simp) ?_
        simp -dsimp -implicitDefEqProofs
      · rw [if_pos hc] at e1
        have lm := wl_mono (show a - (b) ≤ a by omega)
        have hred := lowest_s np (a - (b)) (d) hd0 (by omega) (by omega)
        rw [← e1] at hred
        simp -dsimp -implicitDefEqProofs [cmpN_gt hc]
        refine eCall.of (minusN_s (a) (b) (by omega) (by omega)) (by simp) ?_
        simp -dsimp -implicitDefEqProofs
        refine eCall.of hred (by simp) ?_
        simp -dsimp -implicitDefEqProofs
  · rw [if_neg hd]
    have hc : ¬ cmpN d e = 0 := mt cmpN_eq_zero.1 hd
    refine calls Tryz.func52 rfl (by rfl) (by rfl) (by kernel_rfl) ?_
    simp -dsimp -implicitDefEqProofs [Tryz.f52]
    refine eCall.of (order_s d e (by rw [wl_def]; omega) (by rw [wl_def]; omega)) (by simp) ?_
    simp -dsimp -implicitDefEqProofs [hc]
    refine eCall.of (timesN_s a e (by omega) (by omega)) (by simp) ?_
    simp -dsimp -implicitDefEqProofs
    refine eCall.of (timesN_s b d (by omega) (by omega)) (by simp) ?_
    simp -dsimp -implicitDefEqProofs
    refine eCall.of (timesN_s d e (by omega) (by omega)) (by simp) ?_
    simp -dsimp -implicitDefEqProofs
    have l4 := wl_add (a * e) (b * d)
    have e1 := sum_cases np nq (a * e) (b * d) (d * e)
    by_cases hn : np = nq
    · subst hn
      rw [if_pos rfl] at e1
      have hred := lowest_s np (a * e + b * d) (d * e) dn (by omega) (by omega)
      rw [← e1] at hred
      simp -dsimp -implicitDefEqProofs
      refine eCall.of (plusN_s (a * e) (b * d) (by omega) (by omega)) (by simp) ?_
      simp -dsimp -implicitDefEqProofs
      refine eCall.of hred (by simp) ?_
      simp -dsimp -implicitDefEqProofs
    · rw [if_neg hn] at e1
      have hnb : (np == nq) = false := by simpa using hn
      simp -dsimp -implicitDefEqProofs [hnb]
      refine eCall.of (order_s (a * e) (b * d) (by rw [wl_def]; omega) (by rw [wl_def]; omega)) (by simp) ?_
      rcases Nat.lt_trichotomy (a * e) (b * d) with hc | hc | hc
      · rw [if_neg (by omega), if_pos hc] at e1
        have lm := wl_mono (show b * d - (a * e) ≤ b * d by omega)
        have hred := lowest_s nq (b * d - (a * e)) (d * e) dn (by omega) (by omega)
        rw [← e1] at hred
        simp -dsimp -implicitDefEqProofs [cmpN_lt hc]
        refine eCall.of (minusN_s (b * d) (a * e) (by omega) (by omega)) (by simp) ?_
        simp -dsimp -implicitDefEqProofs
        refine eCall.of hred (by simp) ?_
        simp -dsimp -implicitDefEqProofs
      · rw [if_neg (by omega), if_neg (by omega)] at e1
        have lm := wl_mono (show a * e - (b * d) ≤ a * e by omega)
        have hred := lowest_s np (a * e - (b * d)) (d * e) dn (by omega) (by omega)
        rw [show a * e - (b * d) = 0 by omega, mkQ_zero, ← e1] at hred
        simp -dsimp -implicitDefEqProofs [cmpN_eq hc]
        refine eCall.of (minusN_s (a * e) (b * d) (by omega) (by omega)) (by simp) ?_
        rw [show a * e - (b * d) = 0 by omega]
        simp -dsimp -implicitDefEqProofs
        refine eCall.of hred (by simp) ?_
        simp -dsimp -implicitDefEqProofs
      · rw [if_pos hc] at e1
        have lm := wl_mono (show a * e - (b * d) ≤ a * e by omega)
        have hred := lowest_s np (a * e - (b * d)) (d * e) dn (by omega) (by omega)
        rw [← e1] at hred
        simp -dsimp -implicitDefEqProofs [cmpN_gt hc]
        refine eCall.of (minusN_s (a * e) (b * d) (by omega) (by omega)) (by simp) ?_
        simp -dsimp -implicitDefEqProofs
        refine eCall.of hred (by simp) ?_
        simp -dsimp -implicitDefEqProofs

theorem sumR_s (p q : Rat) (h : sz p + sz q ≤ 17592186044415) : CallsS Tryz.prog 52 [fS p, fS q] (.v (fS (cap (p + q)))) := by
  unfold sz at h
  have := sum_gen p.num.natAbs q.num.natAbs p.den q.den (ng p) (ng q) p.den_nz q.den_nz (by omega)
  by_cases hd : p.den = q.den
  · rw [if_pos hd, ← add_mkQ_same p q hd] at this
    exact this
  · rw [if_neg hd, ← add_mkQ] at this
    exact this
end Go.Proofs.YtglhjjokijdagaaGreat.Sh

/- Fractions: the reference's told functions, the second part. -/
namespace Go.Proofs.YtglhjjokijdagaaGreat.Sh
open Go Go.RowKit

set_option maxRecDepth 20000 in
theorem addR_s (f g : FR) (hf : f.ok) (hg : g.ok) : CallsS Tryz.prog 16 [frS f, frS g] (.v (fS (cap (f.fix + g.fix)))) := by
  have := sz_fix hf
  have := sz_fix hg
  refine calls Tryz.func16 rfl (by rfl) (by rfl) (by kernel_rfl) ?_
  simp -dsimp -implicitDefEqProofs [Tryz.f16]
  refine eCall.of (fixR_s f hf) (by simp) ?_
  simp -dsimp -implicitDefEqProofs
  refine eCall.of (fixR_s g hg) (by simp) ?_
  simp -dsimp -implicitDefEqProofs
  refine eCall.of (sumR_s f.fix g.fix (by omega)) (by simp) ?_
  simp -dsimp -implicitDefEqProofs

set_option maxRecDepth 20000 in
theorem mulR_s (f g : FR) (hf : f.ok) (hg : g.ok) : CallsS Tryz.prog 146 [frS f, frS g] (.v (fS (cap (f.fix * g.fix)))) := by
  have := sz_fix hf
  have := sz_fix hg
  refine calls Tryz.func146 rfl (by rfl) (by rfl) (by kernel_rfl) ?_
  simp -dsimp -implicitDefEqProofs [Tryz.f146]
  refine eCall.of (fixR_s f hf) (by simp) ?_
  simp -dsimp -implicitDefEqProofs
  refine eCall.of (fixR_s g hg) (by simp) ?_
  simp -dsimp -implicitDefEqProofs
  refine eCall.of (productR_s f.fix g.fix (by omega)) (by simp) ?_
  simp -dsimp -implicitDefEqProofs

set_option maxRecDepth 20000 in
theorem negR_s (f : FR) (hf : f.ok) : CallsS Tryz.prog 124 [frS f] (.v (fS (-f.fix))) := by
  refine calls Tryz.func124 rfl (by rfl) (by rfl) (by kernel_rfl) ?_
  simp -dsimp -implicitDefEqProofs [Tryz.f124]
  refine eCall.of (fixR_s f hf) (by simp) ?_
  generalize f.fix = q
  have hn : (-q).num.natAbs = q.num.natAbs := by rw [Rat.neg_num]; omega
  have hd : (-q).den = q.den := rfl
  by_cases h0 : q = 0
  · subst h0
    simp -dsimp -implicitDefEqProofs [toW_zero]
  · have hl : ¬ (toW q.num.natAbs).length = 0 := by rw [toW_len_zero, abs_eq_zero]; exact h0
    have hl' : ¬ toW q.num.natAbs = [] := fun h => hl (by rw [h]; rfl)
    have h1 : ¬ q.num = 0 := fun h => h0 (Rat.num_eq_zero.1 h)
    by_cases h2 : q.num < 0
    · have h3 : ¬ (0 < q.num) := by omega
      simp -dsimp -implicitDefEqProofs [hl, hl', hn, hd, h2, h3]
    · have h3 : 0 < q.num := by omega
      simp -dsimp -implicitDefEqProofs [hl, hl', hn, hd, h2, h3]

set_option maxRecDepth 20000 in
theorem subR_s (f g : FR) (hf : f.ok) (hg : g.ok) : CallsS Tryz.prog 76 [frS f, frS g] (.v (fS (cap (f.fix - g.fix)))) := by
  have := sz_fix hf
  have := sz_fix hg
  have := sz_neg g.fix
  have hs := sumR_s f.fix (-g.fix) (by omega)
  have hn := negR_s g hg
  rw [← Rat.sub_eq_add_neg] at hs
  generalize -g.fix = q at *
  refine calls Tryz.func76 rfl (by rfl) (by rfl) (by kernel_rfl) ?_
  simp -dsimp -implicitDefEqProofs [Tryz.f76]
  refine eCall.of (fixR_s f hf) (by simp) ?_
  simp -dsimp -implicitDefEqProofs
  refine eCall.of hn (by simp) ?_
  simp -dsimp -implicitDefEqProofs
  refine eCall.of hs (by simp) ?_
  simp -dsimp -implicitDefEqProofs

set_option maxRecDepth 20000 in
theorem cmpR_s (f g : FR) (hf : f.ok) (hg : g.ok) : CallsS Tryz.prog 15 [frS f, frS g] (I .i64 (cmpQ f.fix g.fix)) := by
  have h1 := sz_fix hf
  have h2 := sz_fix hg
  refine calls Tryz.func15 rfl (by rfl) (by rfl) (by kernel_rfl) ?_
  simp -dsimp -implicitDefEqProofs [Tryz.f15]
  refine eCall.of (fixR_s f hf) (by simp) ?_
  simp -dsimp -implicitDefEqProofs
  refine eCall.of (fixR_s g hg) (by simp) ?_
  generalize f.fix = p at *
  generalize g.fix = q at *
  unfold sz at h1 h2
  have l1 := wl_mul p.num.natAbs q.den
  have l2 := wl_mul q.num.natAbs p.den
  have hc : ∀ x y, -1 ≤ cmpN x y ∧ cmpN x y ≤ 1 := fun x y => by unfold cmpN; split <;> (try split) <;> omega
  have w : IntKind.i64.wrap (-(cmpN (p.num.natAbs * q.den) (q.num.natAbs * p.den))) = -(cmpN (p.num.natAbs * q.den) (q.num.natAbs * p.den)) := by
    have := hc (p.num.natAbs * q.den) (q.num.natAbs * p.den)
    exact wrap_i64 _ (by omega) (by omega)
  rcases Int.lt_or_le p.num 0 with a | a <;> rcases Int.lt_or_le q.num 0 with b | b
  · have hs : ng p = ng q := by unfold ng; simp [a, b]
    rw [cmpQ_ng hs]
    simp -dsimp -implicitDefEqProofs [a, b]
    refine eCall.of (timesN_s p.num.natAbs q.den (by omega) (by omega)) (by simp) ?_
    simp -dsimp -implicitDefEqProofs
    refine eCall.of (timesN_s q.num.natAbs p.den (by omega) (by omega)) (by simp) ?_
    simp -dsimp -implicitDefEqProofs
    refine eCall.of (order_s (p.num.natAbs * q.den) (q.num.natAbs * p.den) (by rw [wl_def]; omega) (by rw [wl_def]; omega)) (by simp) ?_
    simp -dsimp -implicitDefEqProofs [a, b, ng, w]
  · have hs : ng p ≠ ng q := by unfold ng; simp [a, Int.not_lt.2 b]
    rw [cmpQ_ng_ne hs]
    simp -dsimp -implicitDefEqProofs [a, Int.not_lt.2 b, ng]
  · have hs : ng p ≠ ng q := by unfold ng; simp [Int.not_lt.2 a, b]
    rw [cmpQ_ng_ne hs]
    simp -dsimp -implicitDefEqProofs [Int.not_lt.2 a, b, ng]
  · have hs : ng p = ng q := by unfold ng; simp [Int.not_lt.2 a, Int.not_lt.2 b]
    rw [cmpQ_ng hs]
    simp -dsimp -implicitDefEqProofs [Int.not_lt.2 a, Int.not_lt.2 b]
    refine eCall.of (timesN_s p.num.natAbs q.den (by omega) (by omega)) (by simp) ?_
    simp -dsimp -implicitDefEqProofs
    refine eCall.of (timesN_s q.num.natAbs p.den (by omega) (by omega)) (by simp) ?_
    simp -dsimp -implicitDefEqProofs
    refine eCall.of (order_s (p.num.natAbs * q.den) (q.num.natAbs * p.den) (by rw [wl_def]; omega) (by rw [wl_def]; omega)) (by simp) ?_
    simp -dsimp -implicitDefEqProofs [Int.not_lt.2 a, Int.not_lt.2 b, ng, w]

theorem cmpQ_zero {p q : Rat} : cmpQ p q = 0 ↔ p = q := by
  unfold cmpQ
  split
  · rename_i h
    exact ⟨fun h => by omega, fun h' => absurd h' (Rat.ne_of_lt h)⟩
  · split
    · exact ⟨fun _ => ‹_›, fun _ => rfl⟩
    · exact ⟨fun h => by omega, fun h' => absurd h' ‹_›⟩
theorem cmpQ_neg {p q : Rat} : cmpQ p q < 0 ↔ p < q := by
  unfold cmpQ
  split
  · exact ⟨fun _ => ‹_›, fun _ => by omega⟩
  · split
    · exact ⟨fun h => by omega, fun h => absurd h ‹_›⟩
    · exact ⟨fun h => by omega, fun h => absurd h ‹_›⟩
theorem cmpQ_pos {p q : Rat} : 0 < cmpQ p q ↔ q < p := by
  unfold cmpQ
  split
  · rename_i h
    exact ⟨fun h => by omega, fun h' => absurd (Rat.le_of_lt h') (Rat.not_le.2 h)⟩
  · split
    · rename_i h; subst h
      exact ⟨fun h => by omega, fun h => absurd h Rat.lt_irrefl⟩
    · rename_i h1 h2
      exact ⟨fun _ => Rat.lt_of_le_of_ne (Rat.not_lt.1 h1) (fun h => h2 h.symm), fun _ => by omega⟩

set_option maxRecDepth 20000 in
theorem sameR_s (f g : FR) (hf : f.ok) (hg : g.ok) : CallsS Tryz.prog 27 [frS f, frS g] (B (decide (f.fix = g.fix))) := by
  have e : decide (f.fix = g.fix) = (cmpQ f.fix g.fix == 0) := by
    by_cases h : f.fix = g.fix
    · rw [decide_eq_true h, cmpQ_zero.2 h]; rfl
    · rw [decide_eq_false h]
      have := mt cmpQ_zero.1 h
      simp [this]
  rw [e]
  refine calls Tryz.func27 rfl (by rfl) (by rfl) (by kernel_rfl) ?_
  simp -dsimp -implicitDefEqProofs [Tryz.f27]
  refine eCall.of (cmpR_s f g hf hg) (by simp) ?_
  simp -dsimp -implicitDefEqProofs

set_option maxRecDepth 20000 in
theorem signR_s (f : FR) (hf : f.ok) : CallsS Tryz.prog 32 [frS f] (I .i64 (sgnQ f.fix)) := by
  refine calls Tryz.func32 rfl (by rfl) (by rfl) (by kernel_rfl) ?_
  simp -dsimp -implicitDefEqProofs [Tryz.f32]
  refine eCall.of (fixR_s f hf) (by simp) ?_
  rw [sgnQ_num]
  generalize f.fix = q
  by_cases h0 : q.num = 0
  · simp -dsimp -implicitDefEqProofs [h0, toW_zero]
  · have hl : ¬ (toW q.num.natAbs).length = 0 := by rw [toW_len_zero]; omega
    have hl' : ¬ toW q.num.natAbs = [] := fun h => hl (by rw [h]; rfl)
    by_cases h1 : q.num < 0
    · simp -dsimp -implicitDefEqProofs [h0, h1, hl, hl']
    · simp -dsimp -implicitDefEqProofs [h0, h1, hl, hl']

theorem inv_fS (q : Rat) (h : q ≠ 0) : fS q⁻¹ = .agg [.bool (decide (q.num < 0)), nS q.den, nS q.num.natAbs] := by
  obtain ⟨e1, e2, e3⟩ := over_num h
  rw [fS, e1, e2, decide_eq_decide.2 e3]

set_option maxRecDepth 20000 in
theorem divR_s (f g : FR) (hf : f.ok) (hg : g.ok) (h0 : g.fix ≠ 0) : CallsS Tryz.prog 94 [frS f, frS g] (.tup [fS (cap (f.fix / g.fix)), .one (.int .i64 0)]) := by
  have h1 := sz_fix hf
  have h2 := sz_fix hg
  have hx := fixR_s f hf
  have hy := fixR_s g hg
  have hi := sz_inv g.fix h0
  have hp := productR_s f.fix g.fix⁻¹ (by omega)
  rw [inv_fS _ h0, ← Rat.div_def] at hp
  generalize f.fix / g.fix = r at *
  generalize f.fix = p at *
  generalize g.fix = q at *
  have hl : ¬ (toW q.num.natAbs).length = 0 := by rw [toW_len_zero, abs_eq_zero]; exact h0
  have hl' : ¬ toW q.num.natAbs = [] := fun h => hl (by rw [h]; rfl)
  refine calls Tryz.func94 rfl (by rfl) (by rfl) (by kernel_rfl) ?_
  simp -dsimp -implicitDefEqProofs [Tryz.f94]
  refine eCall.of hx (by simp) ?_
  simp -dsimp -implicitDefEqProofs
  refine eCall.of hy (by simp) ?_
  simp -dsimp -implicitDefEqProofs [hl, hl']
  refine eCall.of hp (by simp) ?_
  simp -dsimp -implicitDefEqProofs

/-- A whole number's form. -/
theorem fix_int (n : Int) (h0 : -9223372036854775808 ≤ n) (h1 : n < 9223372036854775808) : (frQ (n : Rat)).fix = (n : Rat) ∧ (frQ (n : Rat)).ok :=
  ⟨fix_frQ (by have := sz_int n h0 h1; omega), frQ_ok (by have := sz_int n h0 h1; omega)⟩

set_option maxRecDepth 20000 in
theorem makeR_s (p q : Int) (p0 : -9223372036854775808 ≤ p) (p1 : p < 9223372036854775808) (q0 : -9223372036854775808 ≤ q) (q1 : q < 9223372036854775808) (h0 : q ≠ 0) : CallsS Tryz.prog 46 [.one (.int .i64 p), .one (.int .i64 q)] (.tup [fS ((p : Rat) / (q : Rat)), .one (.int .i64 0)]) := by
  have hq : (q : Rat) ≠ 0 := fun h => h0 (by have := congrArg Rat.num h; simpa using this)
  have s1 := sz_int p p0 p1
  have s2 := sz_int q q0 q1
  have s3 := sz_mul (p : Rat) (q : Rat)⁻¹
  have hi := sz_inv (q : Rat) hq
  obtain ⟨f1, k1⟩ := fix_int p p0 p1
  obtain ⟨f2, k2⟩ := fix_int q q0 q1
  have hd := divR_s (frQ (p : Rat)) (frQ (q : Rat)) k1 k2 (by rw [f2]; exact hq)
  rw [f1, f2, frS_frQ, frS_frQ, cap_of (by rw [Rat.div_def]; omega)] at hd
  have ip := intR_s p p0 p1
  have iq := intR_s q q0 q1
  generalize (p : Rat) / (q : Rat) = r at *
  generalize (p : Rat) = P at *
  generalize (q : Rat) = Q at *
  refine calls Tryz.func46 rfl (by rfl) (by rfl) (by kernel_rfl) ?_
  simp -dsimp -implicitDefEqProofs [Tryz.f46]
  refine eCall.of ip (by simp) ?_
  simp -dsimp -implicitDefEqProofs
  refine eCall.of iq (by simp) ?_
  simp -dsimp -implicitDefEqProofs
  refine eCall.of hd (by simp) ?_
  simp -dsimp -implicitDefEqProofs
end Go.Proofs.YtglhjjokijdagaaGreat.Sh

/- Lists of fractions: frac's all, Sum. -/
namespace Go.Proofs.YtglhjjokijdagaaGreat.Sh
open Go Go.RowKit

/-- A fraction's cells, as it is handed in. -/
@[simp] def rowFr (f : FR) : List S1 := [.bool f.neg, wS f.num, wS f.den]
/-- A fraction's cells in frac. -/
@[simp] def rowQ (q : Rat) : List S1 := [nS q.num.natAbs, nS q.den, .bool (decide (q.num < 0))]
instance : RowF 3 rowFr := ⟨fun _ => rfl, fun x s h => by simp at h; rcases h with rfl | rfl | rfl <;> rfl⟩
instance : RowF 3 rowQ := ⟨fun _ => rfl, fun x s h => by simp at h; rcases h with rfl | rfl | rfl <;> rfl⟩

@[simp] def frsS (l : List FR) : S1 := .sl true 3 (l.map rowFr)
@[simp] def ratsS (l : List Rat) : S1 := .sl true 3 (l.map rowQ)

/-- A list that is filled from the front. -/
def filled {α β : Type} (g : α → β) (l : List α) (i : Nat) : List (Option β) := (l.take i).map (fun x => some (g x)) ++ List.replicate (l.length - i) none
theorem filled_len {α β : Type} (g : α → β) (l : List α) {i : Nat} (h : i ≤ l.length) : (filled g l i).length = l.length := by simp [filled]; omega
theorem filled_zero {α β : Type} (g : α → β) (l : List α) : filled g l 0 = List.replicate l.length none := by simp [filled]
theorem filled_full {α β : Type} (g : α → β) (l : List α) : filled g l l.length = l.map (fun x => some (g x)) := by simp [filled]
theorem filled_set {α β : Type} (g : α → β) (l : List α) (i : Nat) (h : i < l.length) : (filled g l i).set i (some (g l[i])) = filled g l (i + 1) := by
  unfold filled
  obtain ⟨m, hm⟩ : ∃ m, l.length - i = m + 1 := ⟨l.length - i - 1, by omega⟩
  rw [hm, List.set_append_right _ _ (by simp; omega), List.replicate_succ]
  rw [List.take_add_one, List.getElem?_eq_getElem h]
  simp only [Option.toList, List.map_append, List.map_cons, List.map_nil, List.append_assoc]
  congr 1
  rw [List.length_map, List.length_take, Nat.min_eq_left (by omega), Nat.sub_self, List.set_cons_zero, show l.length - (i + 1) = m by omega]
  rfl

/-- A row, or none yet. -/
def optRow (z : List S1) {α : Type} (f : α → List S1) : Option α → List S1
  | none => z
  | some x => f x
instance : RowF 3 (optRow [.nils, .nils, .bool false] rowQ) := ⟨fun x => by cases x <;> rfl, fun x s h => by cases x <;> (simp [optRow] at h; rcases h with rfl | rfl | rfl <;> rfl)⟩
instance : RowF 3 (optRow [.bool false, .nils, .nils] rowFr) := ⟨fun x => by cases x <;> rfl, fun x s h => by cases x <;> (simp [optRow] at h; rcases h with rfl | rfl | rfl <;> rfl)⟩

theorem flat_rep (z : List S1) {α : Type} (f : α → List S1) (n : Nat) : (List.replicate n z).flatten = flat (optRow z f) (List.replicate n none) := by
  simp [flat, optRow]
theorem map_opt (z : List S1) {α β : Type} (f : α → List S1) (g : β → α) (l : List β) : (l.map fun x => some (g x)).map (optRow z f) = (l.map g).map f := by
  simp [optRow]

set_option maxRecDepth 20000 in
theorem all_g (fr : Bool) (l : List FR) (hl : ∀ f ∈ l, f.ok) (h1 : l.length ≤ 1099511627776) : CallsS Tryz.prog 127 [.one (.sl fr 3 (l.map rowFr))] (.v (.one (ratsS (l.map FR.fix)))) := by
  refine calls Tryz.func127 rfl (by rfl) (by rfl) (by kernel_rfl) ?_
  simp -dsimp -implicitDefEqProofs [Tryz.f127]
  refine ⟨by omega, ?_⟩
  refine sw_loop_e (fun p : {p : Nat × Nat // p.1 ≤ l.length} => SS.of [(3, .v (.one (.ms 0 0 l.length 3 true))), (9, .v (.one (.sl fr 3 (l.map rowFr)))), (10, I .i64 l.length), (11, I .i64 p.1.1)] [(0, ⟨138, flat (optRow [.nils, .nils, .bool false] rowQ) (filled FR.fix l p.1.1)⟩)] (p.1.2 + 1))
    (fun p => l.length - p.1.1) ⟨(0, 0), Nat.zero_le _⟩ (by kernel_rfl) (Le.to (by simp) (by simp [filled_zero, flat_rep _ rowQ]) (by simp)) ?_
  rintro ⟨⟨i, c⟩, hi⟩
  simp only at hi
  by_cases a1 : i < l.length
  · have wi : IntKind.i64.wrap ((i : Int) + 1) = ((i + 1 : Nat) : Int) := by rw [wrap_i64 _ (by omega) (by omega)]; rfl
    have hok : l[i].ok := hl _ (List.getElem_mem a1)
    have ml := filled_len FR.fix l hi
    have mset := filled_set FR.fix l i a1
    simp -dsimp -implicitDefEqProofs [a1, wi]
    refine eCall.of (taken_s l[i] hok) (by simp) ?_
    simp -dsimp -implicitDefEqProofs [a1, ml]
    refine ⟨by omega, ?_⟩
    have hset := set3_flat (f := optRow [.nils, .nils, .bool false] rowQ) (filled FR.fix l i) i (some l[i].fix) rfl (by omega)
    rw [mset] at hset
    exact Again.by ⟨(i + 1, c + 1), a1⟩ (Le.to (by simp [wi]) (by simp [← hset]) (by simp)) (by simp; omega)
  · have hi2 : i = l.length := by omega
    subst hi2
    simp -dsimp -implicitDefEqProofs [filled_full]
    intro a _
    rfl

theorem all_s (l : List FR) (hl : ∀ f ∈ l, f.ok) (h1 : l.length ≤ 1099511627776) : CallsS Tryz.prog 127 [.one (frsS l)] (.v (.one (ratsS (l.map FR.fix)))) := all_g true l hl h1

/-- The sum of a list. -/
def sumQ : List Rat → Rat
  | [] => 0
  | q :: l => q + sumQ l
theorem sumQ_snoc (l : List Rat) (q : Rat) : sumQ (l ++ [q]) = sumQ l + q := by
  induction l with
  | nil => simp [sumQ, Rat.add_comm]
  | cons x l ih => simp only [List.cons_append, sumQ, ih, Rat.add_assoc]
theorem sumQ_take (l : List Rat) (i : Nat) (h : i < l.length) : sumQ (l.take (i + 1)) = sumQ (l.take i) + l[i] := by
  rw [List.take_add_one, List.getElem?_eq_getElem h]
  exact sumQ_snoc _ _
theorem mz_sum (l : List Rat) (B : Nat) (h : ∀ q ∈ l, mz q ≤ B) : mz (sumQ l) ≤ l.length * (B + 1) + 1 := by
  induction l with
  | nil =>
    have : mz 0 ≤ 1 := by decide +kernel
    show mz 0 ≤ _
    omega
  | cons x l ih =>
    have h1 := h x (List.mem_cons_self ..)
    have h2 := ih (fun q hq => h q (List.mem_cons_of_mem _ hq))
    have h3 := mz_add x (sumQ l)
    simp only [sumQ, List.length_cons, Nat.add_mul, Nat.one_mul]
    omega

set_option maxRecDepth 20000 in
theorem fsum_g (fr : Bool) (l : List FR) (hl : ∀ f ∈ l, f.ok) (h1 : l.length ≤ 1048576) : CallsS Tryz.prog 81 [.one (.sl fr 3 (l.map rowFr))] (.v (fS (cap (sumQ (l.map FR.fix))))) := by
  have hz : ∀ q ∈ l.map FR.fix, mz q ≤ 4096 := by
    intro q hq
    obtain ⟨f, hf, rfl⟩ := List.mem_map.1 hq
    have := sz_fix (hl f hf)
    have := sz_mz f.fix
    omega
  have hs : ∀ i, mz (sumQ ((l.map FR.fix).take i)) ≤ 1048576 * 4097 + 1 := fun i => by
    have := mz_sum ((l.map FR.fix).take i) 4096 (fun q hq => hz q (List.mem_of_mem_take hq))
    have h2 : ((l.map FR.fix).take i).length ≤ 1048576 := by rw [List.length_take, List.length_map]; omega
    have := Nat.mul_le_mul_right (4096 + 1) h2
    omega
  refine calls Tryz.func81 rfl (by rfl) (by rfl) (by kernel_rfl) ?_
  simp -dsimp -implicitDefEqProofs [Tryz.f81]
  refine eCall.of (whole_s 0 (by decide) (by decide)) (by simp) ?_
  simp -dsimp -implicitDefEqProofs
  refine eCall.of (all_g fr l hl (by omega)) (by simp) ?_
  generalize hL : l.map FR.fix = L at *
  have hLl : L.length = l.length := by rw [← hL, List.length_map]
  simp -dsimp -implicitDefEqProofs
  refine sw_loop_e (fun p : {p : Nat × Nat // p.1 ≤ L.length} => SS.of [(2, .v (.one (.mp 0 0))), (3, .v (.one (.mp 1 0))), (8, .v (.one (ratsS L))), (9, I .i64 L.length), (10, I .i64 p.1.1)] [(0, ⟨40, [.bool false, .nils, .nils]⟩), (1, ⟨138, rowQ (sumQ (L.take p.1.1))⟩)] (p.1.2 + 2))
    (fun p => L.length - p.1.1) ⟨(0, 0), Nat.zero_le _⟩ (by kernel_rfl) (Le.to (by simp) (by simp [sumQ]) (by simp)) ?_
  rintro ⟨⟨i, c⟩, hi⟩
  simp only at hi
  by_cases a1 : i < L.length
  · have wi : IntKind.i64.wrap ((i : Int) + 1) = ((i + 1 : Nat) : Int) := by rw [wrap_i64 _ (by omega) (by omega)]; rfl
    simp -dsimp -implicitDefEqProofs [a1, wi]
    have b1 := sz_mz (sumQ (L.take i))
    have b2 := hs i
    have b3 := sz_mz L[i]
    have b4 := hz L[i] (List.getElem_mem a1)
    have hp := rplus_s (sumQ (L.take i)) L[i] (by omega)
    rw [← sumQ_take L i a1] at hp
    refine eCall.of hp (by simp) ?_
    simp -dsimp -implicitDefEqProofs
    exact Again.by ⟨(i + 1, c + 1), a1⟩ (Le.to (by simp [wi]) (by simp) (by simp)) (by simp; omega)
  · have hi2 : i = L.length := by omega
    subst hi2
    simp -dsimp -implicitDefEqProofs
    have b1 := sz_mz (sumQ L)
    have b2 := hs L.length
    rw [List.take_length] at b2
    refine eCall.of (told_s (sumQ L) (by omega)) (by simp) ?_
    simp -dsimp -implicitDefEqProofs
theorem fsum_s (l : List FR) (hl : ∀ f ∈ l, f.ok) (h1 : l.length ≤ 1048576) : CallsS Tryz.prog 81 [.one (frsS l)] (.v (fS (cap (sumQ (l.map FR.fix))))) := fsum_g true l hl h1
end Go.Proofs.YtglhjjokijdagaaGreat.Sh

/- Data of fractions. -/
namespace Go.Proofs.YtglhjjokijdagaaGreat.Sh
open Go Go.RowKit

/-- The forms of a fraction, of lists of it. -/
def shpFields : Shps := .cons 1 .bool (.cons 1 (.slice 1 (.int .u32)) (.cons 1 (.slice 1 (.int .u32)) .nil))
def shpFr : Shp := .agg shpFields

section
variable {H : Type}

theorem FR.ok_of {b : Bool} {n m : List Int} (ln : n.length ≤ 140737488351232) (lm : m.length ≤ 140737488351232) (wn : ∀ x ∈ n, (Lit.int .u32 x).wf = true) (wm : ∀ x ∈ m, (Lit.int .u32 x).wf = true) : (FR.mk b n m).ok :=
  ⟨fun x hx => wf_u32 (wn x hx), fun x hx => wf_u32 (wm x hx), by show n.length ≤ _; omega, by show m.length ≤ _; omega⟩

theorem fr_of_ok {d : DataW H} (hd : shpFr.ok d) : ∃ f : FR, shpFr.cells d = rowFr f ∧ f.ok := by
  obtain ⟨parts, rfl, d1, p1, rfl, ⟨h1, -⟩, d2, p2, rfl, ⟨h2, -⟩, d3, p3, rfl, ⟨h3, -⟩, rfl⟩ := hd
  obtain ⟨b, e1⟩ := bool_of_ok h1
  obtain ⟨n, e2, ln, wn⟩ := ints_of_ok h2
  obtain ⟨m, e3, lm, wm⟩ := ints_of_ok h3
  refine ⟨⟨b, n, m⟩, ?_, FR.ok_of ln lm wn wm⟩
  show Shp.bool.cells d1 ++ ((Shp.slice 1 (.int .u32)).cells d2 ++ ((Shp.slice 1 (.int .u32)).cells d3 ++ [])) = _
  rw [e1, e2, e3]; rfl

theorem frs_of_ok {d : DataW H} (hd : (Shp.slice 3 shpFr).ok d) : ∃ l : List FR, (Shp.slice 3 shpFr).cells d = [frsS l] ∧ l.length ≤ 140737488351232 ∧ ∀ f ∈ l, f.ok :=
  slice_of_ok (f := rowFr) (fun _ h => fr_of_ok h) hd
end
end Go.Proofs.YtglhjjokijdagaaGreat.Sh

