/- A part of the proof: R5, R6, R7, R8, R9, R10, R11, R12, R15, R16, R30, R31 -/
import Derived.Test.YtaljbebkooppiaaGreatV14
set_option linter.unusedSimpArgs false
set_option linter.unusedVariables false
set_option linter.unusedSectionVars false
namespace Go.Proofs.YtaljbebkooppiaaGreat.Sh
open Go Go.RowKit
structure FR where
  neg : Bool
  num : List Int
  den : List Int
@[simp] def frS (f : FR) : SV := .agg [.bool f.neg, wS f.num, wS f.den]
structure FR.ok (f : FR) : Prop where
  inum : InW f.num
  iden : InW f.den
  lnum : f.num.length ≤ 140737488355328
  lden : f.den.length ≤ 140737488355328
def FR.right (f : FR) : Bool :=
  if f.den.length = 0 then false
  else if 4096 < f.num.length + f.den.length then false
  else if at0 f.den (f.den.length - 1) = 0 then false
  else if f.num.length = 0 then decide (f.den = [1]) && !f.neg
  else if at0 f.num (f.num.length - 1) = 0 then false
  else decide (Nat.gcd (val f.num).toNat (val f.den).toNat = 1)
def FR.fix (f : FR) : Rat := if f.right then mkQ f.neg (val f.num).toNat (val f.den).toNat else 0
def frQ (q : Rat) : FR := ⟨ng q, toW q.num.natAbs, toW q.den⟩
theorem frQ_ok {q : Rat} (h : sz q ≤ 140737488355328) : (frQ q).ok := by
  unfold sz wl at h
  exact ⟨toW_inW _, toW_inW _, by show (toW _).length ≤ _; omega, by show (toW _).length ≤ _; omega⟩
theorem trim_of_last {l : List Int} (h : l.length ≠ 0) (h2 : at0 l (l.length - 1) ≠ 0) : Trim l := by
  rcases List.eq_nil_or_concat l with rfl | ⟨a, x, rfl⟩
  · exact Or.inl rfl
  · refine Or.inr ⟨a, x, List.concat_eq_append, ?_⟩
    simpa [at0] using h2
theorem toW_of {l : List Int} (hi : InW l) (h : l.length ≠ 0) (h2 : at0 l (l.length - 1) ≠ 0) : l = toW (val l).toNat ∧ (val l).toNat ≠ 0 := by
  have e := toW_val hi (trim_of_last h h2)
  refine ⟨e.symm, fun h0 => h ?_⟩
  rw [h0, toW_zero] at e
  rw [← e]; rfl
theorem last_toW {n : Nat} (h : n ≠ 0) : at0 (toW n) ((toW n).length - 1) ≠ 0 := by
  rcases toW_trim n with h1 | ⟨a, x, h1, hx⟩
  · exact absurd (toW_eq_nil.1 h1) h
  · rw [h1]; simpa [at0] using hx
theorem FR.right_fix {f : FR} (hi : f.ok) (h : f.right = true) : frS f = fS f.fix ∧ sz f.fix ≤ 4096 := by
  unfold FR.fix
  rw [if_pos h]
  unfold FR.right at h
  split at h
  · cases h
  · rename_i d0
    split at h
    · cases h
    · rename_i hs
      split at h
      · cases h
      · rename_i hl
        obtain ⟨ed, ed0⟩ := toW_of hi.iden d0 hl
        split at h
        · rename_i n0
          have en : f.num = [] := List.length_eq_zero_iff.1 n0
          simp only [Bool.and_eq_true, decide_eq_true_eq, Bool.not_eq_true'] at h
          have hv : (val f.num).toNat = 0 := by rw [en]; rfl
          rw [hv, mkQ_zero]
          refine ⟨?_, by decide +kernel⟩
          have e0 : toW (0 : Rat).num.natAbs = [] := toW_zero
          have e1 : toW (0 : Rat).den = [1] := toW_one
          have e2 : decide ((0 : Rat).num < 0) = false := rfl
          simp only [frS, fS, nS, wS, e0, e1, e2, en, h.1, h.2]
        · rename_i n0
          split at h
          · cases h
          · rename_i hln
            obtain ⟨en, en0⟩ := toW_of hi.inum n0 hln
            have hg : Nat.gcd (val f.num).toNat (val f.den).toNat = 1 := by simpa using h
            have q1 := mkQ_abs f.neg (val f.num).toNat (val f.den).toNat ed0
            have q2 := mkQ_den f.neg (val f.num).toNat (val f.den).toNat ed0
            have q3 := mkQ_neg f.neg (val f.num).toNat (val f.den).toNat ed0 en0
            rw [hg, Nat.div_one] at q1 q2
            refine ⟨?_, ?_⟩
            · simp only [frS, fS, nS, q1, q2, q3, ← en, ← ed]
            · unfold sz wl
              rw [q1, q2, ← en, ← ed]; omega
theorem gcd_right (q : Rat) : Nat.gcd q.num.natAbs q.den = 1 := q.reduced
theorem right_frQ {q : Rat} (h : sz q ≤ 4096) : (frQ q).right = true := by
  have hd := q.den_nz
  have dl : ¬ (toW q.den).length = 0 := mt toW_len_zero.1 hd
  unfold sz wl at h
  unfold FR.right frQ
  simp only
  rw [if_neg dl, if_neg (by omega), if_neg (last_toW hd)]
  by_cases n0 : q.num.natAbs = 0
  · rw [if_pos (toW_len_zero.2 n0)]
    have hq : q = 0 := abs_eq_zero.1 n0
    subst hq
    have e1 : toW (0 : Rat).den = [1] := toW_one
    rw [e1]; rfl
  · rw [if_neg (mt toW_len_zero.1 n0), if_neg (last_toW n0), val_toW, val_toW, Int.toNat_natCast, Int.toNat_natCast]
    exact decide_eq_true (gcd_right q)
theorem fix_frQ {q : Rat} (h : sz q ≤ 4096) : (frQ q).fix = q := by
  unfold FR.fix
  rw [if_pos (right_frQ h)]
  unfold frQ
  simp only
  rw [val_toW, val_toW, Int.toNat_natCast, Int.toNat_natCast]
  exact mkQ_self q
theorem sz_zero : sz 0 = 1 := by decide +kernel
theorem sz_fix {f : FR} (hi : f.ok) : sz f.fix ≤ 4096 := by
  by_cases h : f.right = true
  · exact (f.right_fix hi h).2
  · unfold FR.fix; rw [if_neg h, sz_zero]; omega
theorem cap_of {q : Rat} (h : sz q ≤ 4096) : cap q = q := by unfold cap; rw [if_neg (by omega)]
set_option maxRecDepth 20000 in
theorem rightF_s (f : FR) (hi : f.ok) : CallsS Tryz.prog 161 [frS f] (B f.right) := by
  obtain ⟨neg, num, den⟩ := f
  obtain ⟨i1, i2, i3, i4⟩ := hi
  simp only at i1 i2 i3 i4
  unfold FR.right
  simp only
  have w : IntKind.i64.wrap ((num.length : Int) + den.length) = (num.length : Int) + den.length := wrap_i64 _ (by omega) (by omega)
  refine calls Tryz.func161 rfl (by rfl) (by rfl) (by kernel_rfl) ?_
  by_cases d0 : den.length = 0
  · simp -dsimp -implicitDefEqProofs [Tryz.f161, d0]
  · rw [if_neg d0]
    by_cases hs : 4096 < num.length + den.length
    · have hs' : (4096 : Int) < (num.length : Int) + den.length := by omega
      simp -dsimp -implicitDefEqProofs [Tryz.f161, d0, w, hs, hs']
    · have hs' : ¬ (4096 : Int) < (num.length : Int) + den.length := by omega
      have wd : IntKind.i64.wrap ((den.length : Int) - 1) = ((den.length - 1 : Nat) : Int) := by rw [wrap_i64 _ (by omega) (by omega)]; omega
      have gd : den[den.length - 1]? = some (at0 den (den.length - 1)) := by rw [at0_lt (by omega), List.getElem?_eq_getElem]
      rw [if_neg hs]
      by_cases hl : at0 den (den.length - 1) = 0
      · simp -dsimp -implicitDefEqProofs [Tryz.f161, d0, w, hs', wd, gd, hl]
        omega
      · rw [if_neg hl]
        simp -dsimp -implicitDefEqProofs [Tryz.f161, d0, w, hs', wd, gd, hl]
        refine ⟨by omega, ?_⟩
        by_cases n0 : num.length = 0
        · have en : num = [] := List.length_eq_zero_iff.1 n0
          subst en
          simp -dsimp -implicitDefEqProofs
          refine eCall.of (wone_s den) (by simp) ?_
          cases neg
          · simp -dsimp -implicitDefEqProofs
          · simp -dsimp -implicitDefEqProofs
        · rw [if_neg n0]
          have wn : IntKind.i64.wrap ((num.length : Int) - 1) = ((num.length - 1 : Nat) : Int) := by rw [wrap_i64 _ (by omega) (by omega)]; omega
          have gn : num[num.length - 1]? = some (at0 num (num.length - 1)) := by rw [at0_lt (by omega), List.getElem?_eq_getElem]
          have en : ¬ num = [] := fun h => n0 (by rw [h]; rfl)
          by_cases hn : at0 num (num.length - 1) = 0
          · simp -dsimp -implicitDefEqProofs [n0, en, wn, gn, hn]
            omega
          · rw [if_neg hn]
            simp -dsimp -implicitDefEqProofs [n0, en, wn, gn, hn]
            refine ⟨by omega, ?_⟩
            refine eCall.of (wone_s den) (by simp) ?_
            obtain ⟨e1, v1⟩ := toW_of i1 n0 hn
            obtain ⟨e2, v2⟩ := toW_of i2 d0 hl
            generalize (val num).toNat = a at *
            generalize (val den).toNat = b at *
            subst e1 e2
            by_cases b1 : toW b = [1]
            · have b1' : b = 1 := toW_inj (by rw [b1, toW_one])
              subst b1'
              simp -dsimp -implicitDefEqProofs [b1]
            · simp -dsimp -implicitDefEqProofs [b1]
              refine eCall.of (gcd_s a b (by omega) (by omega)) (by simp) ?_
              simp -dsimp -implicitDefEqProofs
              refine eCall.of (wone_s (toW (Nat.gcd a b))) (by simp) ?_
              have hg : toW (Nat.gcd a b) = [1] ↔ Nat.gcd a b = 1 := ⟨fun h => toW_inj (by rw [h, toW_one]), fun h => by rw [h, toW_one]⟩
              simp -dsimp -implicitDefEqProofs [hg]
end Go.Proofs.YtaljbebkooppiaaGreat.Sh

namespace Go.Proofs.YtaljbebkooppiaaGreat.Sh
open Go Go.RowKit
set_option maxRecDepth 20000 in
theorem taken_s (f : FR) (hi : f.ok) : CallsS Tryz.prog 111 [frS f] (.v (ratS f.fix)) := by
  refine calls Tryz.func111 rfl (by rfl) (by rfl) (by kernel_rfl) ?_
  simp -dsimp -implicitDefEqProofs [Tryz.f111]
  refine eCall.of (rightF_s f hi) (by simp) ?_
  cases h : f.right
  · have e : f.fix = 0 := by unfold FR.fix; rw [h]; rfl
    rw [e]
    simp -dsimp -implicitDefEqProofs
    refine eCall.of (whole_s 0 (by decide) (by decide)) (by simp) ?_
    simp -dsimp -implicitDefEqProofs
  · obtain ⟨e, _⟩ := f.right_fix hi h
    simp only [frS, fS, SV.agg.injEq, List.cons.injEq, and_true, S1.bool.injEq] at e
    obtain ⟨e1, e2, e3⟩ := e
    have er : ratS f.fix = .agg [wS f.num, wS f.den, .bool f.neg] := by rw [ratS, ← e1, ← e2, ← e3]
    rw [er]
    simp -dsimp -implicitDefEqProofs
theorem sz_mul (p q : Rat) : sz (p * q) ≤ sz p + sz q := by
  rw [mul_mkQ]
  have := sz_mkQ (ng p != ng q) (p.num.natAbs * q.num.natAbs) (p.den * q.den) (Nat.mul_ne_zero p.den_nz q.den_nz)
  have h1 := wl_mul p.num.natAbs q.num.natAbs
  have h2 := wl_mul p.den q.den
  unfold sz at *
  omega
def mz (q : Rat) : Nat := max (wl q.num.natAbs) (wl q.den)
theorem sz_mz (q : Rat) : sz q ≤ 2 * mz q ∧ mz q ≤ sz q := by unfold sz mz; omega
theorem mz_mkRat (n : Int) (d : Nat) (hd : d ≠ 0) : mz (mkRat n d) ≤ max (wl n.natAbs) (wl d) := by
  have : mkRat n d = mkQ (decide (n < 0)) n.natAbs d := by
    unfold mkQ
    congr 1
    unfold sg
    by_cases h : n < 0
    · rw [decide_eq_true h, if_pos rfl]; omega
    · rw [decide_eq_false h, if_neg (by simp)]; omega
  rw [this]
  unfold mz
  rw [mkQ_abs _ _ _ hd, mkQ_den _ _ _ hd]
  have := wl_div n.natAbs (Nat.gcd n.natAbs d)
  have := wl_div d (Nat.gcd n.natAbs d)
  omega
theorem mz_add (p q : Rat) : mz (p + q) ≤ mz p + mz q + 1 := by
  rw [add_mkQ]
  have h0 := mz_mkRat (sg (ng p) (p.num.natAbs * q.den) + sg (ng q) (q.num.natAbs * p.den)) (p.den * q.den) (Nat.mul_ne_zero p.den_nz q.den_nz)
  have h1 := wl_mul p.num.natAbs q.den
  have h2 := wl_mul q.num.natAbs p.den
  have h3 := wl_mul p.den q.den
  have h4 := wl_add (p.num.natAbs * q.den) (q.num.natAbs * p.den)
  have h5 : wl (sg (ng p) (p.num.natAbs * q.den) + sg (ng q) (q.num.natAbs * p.den)).natAbs ≤ wl (p.num.natAbs * q.den + q.num.natAbs * p.den) := wl_mono (by
    have := sg_natAbs (ng p) (p.num.natAbs * q.den)
    have := sg_natAbs (ng q) (q.num.natAbs * p.den)
    omega)
  have e : mz p = max (wl p.num.natAbs) (wl p.den) := rfl
  have e2 : mz q = max (wl q.num.natAbs) (wl q.den) := rfl
  omega
theorem mz_mul (p q : Rat) : mz (p * q) ≤ mz p + mz q := by
  rw [Rat.mul_def']
  have h0 := mz_mkRat (p.num * q.num) (p.den * q.den) (Nat.mul_ne_zero p.den_nz q.den_nz)
  rw [Int.natAbs_mul] at h0
  have h1 := wl_mul p.num.natAbs q.num.natAbs
  have h3 := wl_mul p.den q.den
  have e : mz p = max (wl p.num.natAbs) (wl p.den) := rfl
  have e2 : mz q = max (wl q.num.natAbs) (wl q.den) := rfl
  omega
theorem sz_add (p q : Rat) : sz (p + q) ≤ 2 * (sz p + sz q + 1) := by
  have := mz_add p q
  have := sz_mz (p + q)
  have := sz_mz p
  have := sz_mz q
  omega
theorem sz_neg (q : Rat) : sz (-q) = sz q := by unfold sz; rw [Rat.neg_num, Rat.neg_den, Int.natAbs_neg]
theorem sz_inv (q : Rat) (h : q ≠ 0) : sz q⁻¹ = sz q := by
  obtain ⟨e1, e2, _⟩ := over_num h
  unfold sz; rw [e1, e2]; omega
theorem sz_int (n : Int) (h0 : -9223372036854775808 ≤ n) (h1 : n < 9223372036854775808) : sz (n : Rat) ≤ 3 := by
  have : wl (n : Rat).num.natAbs ≤ 2 := wl_u64 (by rw [Rat.num_intCast]; omega)
  unfold sz; rw [Rat.den_intCast, wl_one]; omega
set_option maxRecDepth 20000 in
theorem fsign_s (f : FR) (hi : f.ok) : CallsS Tryz.prog 104 [frS f] (I .i64 (sgnQ f.fix)) := by
  refine calls Tryz.func104 rfl (by rfl) (by rfl) (by kernel_rfl) ?_
  simp -dsimp -implicitDefEqProofs [Tryz.f104]
  refine eCall.of (taken_s f hi) (by simp) ?_
  simp -dsimp -implicitDefEqProofs
  refine eCall.of (sign_s f.fix) (by simp) ?_
  simp -dsimp -implicitDefEqProofs [sgnQ]
set_option maxRecDepth 20000 in
theorem fcmp_s (f g : FR) (hf : f.ok) (hg : g.ok) : CallsS Tryz.prog 46 [frS f, frS g] (I .i64 (cmpQ f.fix g.fix)) := by
  have := sz_fix hf
  have := sz_fix hg
  refine calls Tryz.func46 rfl (by rfl) (by rfl) (by kernel_rfl) ?_
  simp -dsimp -implicitDefEqProofs [Tryz.f46]
  refine eCall.of (taken_s f hf) (by simp) ?_
  simp -dsimp -implicitDefEqProofs
  refine eCall.of (taken_s g hg) (by simp) ?_
  simp -dsimp -implicitDefEqProofs
  refine eCall.of (rorder_s f.fix g.fix (by omega)) (by simp) ?_
  simp -dsimp -implicitDefEqProofs
set_option maxRecDepth 20000 in
theorem ffix_s (f : FR) (hf : f.ok) : CallsS Tryz.prog 115 [frS f] (.v (fS f.fix)) := by
  have := sz_fix hf
  have ht := told_s f.fix (by omega)
  rw [cap_of (by omega)] at ht
  refine calls Tryz.func115 rfl (by rfl) (by rfl) (by kernel_rfl) ?_
  simp -dsimp -implicitDefEqProofs [Tryz.f115]
  refine eCall.of (taken_s f hf) (by simp) ?_
  simp -dsimp -implicitDefEqProofs
  refine eCall.of ht (by simp) ?_
  simp -dsimp -implicitDefEqProofs
set_option maxRecDepth 20000 in
theorem fmake_s (p q : Int) (p0 : -9223372036854775808 ≤ p) (p1 : p < 9223372036854775808) (q0 : -9223372036854775808 ≤ q) (q1 : q < 9223372036854775808) (h0 : q ≠ 0) : CallsS Tryz.prog 165 [.one (.int .i64 p), .one (.int .i64 q)] (.tup [fS ((p : Rat) / (q : Rat)), .one (.int .i64 0)]) := by
  have hq : (q : Rat) ≠ 0 := fun h => h0 (by have := congrArg Rat.num h; simpa using this)
  have s1 := sz_int p p0 p1
  have s2 := sz_int q q0 q1
  have hi := sz_inv (q : Rat) hq
  have s3 := sz_mul (p : Rat) (q : Rat)⁻¹
  have ht := told_s ((p : Rat) * (q : Rat)⁻¹) (by omega)
  rw [cap_of (by omega)] at ht
  rw [Rat.div_def]
  have hwp := whole_s p p0 p1
  have hwq := whole_s q q0 q1
  generalize (p : Rat) = P at *
  generalize (q : Rat) = Q at *
  refine calls Tryz.func165 rfl (by rfl) (by rfl) (by kernel_rfl) ?_
  simp -dsimp -implicitDefEqProofs [Tryz.f165, h0]
  refine eCall.of hwp (by simp) ?_
  simp -dsimp -implicitDefEqProofs
  refine eCall.of hwq (by simp) ?_
  simp -dsimp -implicitDefEqProofs
  refine eCall.of (over_s Q hq) (by simp) ?_
  have hrt := rtimes_s P Q⁻¹ (by omega)
  generalize Q⁻¹ = R at *
  simp -dsimp -implicitDefEqProofs
  refine eCall.of hrt (by simp) ?_
  simp -dsimp -implicitDefEqProofs
  refine eCall.of ht (by simp) ?_
  simp -dsimp -implicitDefEqProofs
end Go.Proofs.YtaljbebkooppiaaGreat.Sh

namespace Go.Proofs.YtaljbebkooppiaaGreat.Sh
open Go Go.RowKit
set_option maxRecDepth 20000 in
theorem zeroR_s : CallsS Tryz.prog 50 [] (.v (fS 0)) := by
  refine calls Tryz.func50 rfl (by rfl) (by rfl) (by kernel_rfl) ?_
  simp -dsimp -implicitDefEqProofs [Tryz.f50]
  refine eCall.of oneR_s (by simp) ?_
  simp -dsimp -implicitDefEqProofs [toW_zero, toW_one]
theorem len_one {n : Nat} (h0 : n ≠ 0) (hl : (toW n).length = 1) : (toW n)[0]? = some (n : Int) := (one_word h0 hl).2
set_option maxRecDepth 20000 in
theorem lowest_s (neg : Bool) (a b : Nat) (hb : b ≠ 0) (h1 : wl a ≤ 17592186044416) (h2 : wl b ≤ 17592186044416) : CallsS Tryz.prog 134 [.one (.bool neg), .one (nS a), .one (nS b)] (.v (fS (cap (mkQ neg a b)))) := by
  by_cases a0 : a = 0
  · subst a0
    rw [mkQ_zero, cap_of (by rw [sz_zero]; omega)]
    refine calls Tryz.func134 rfl (by rfl) (by rfl) (by kernel_rfl) ?_
    simp -dsimp -implicitDefEqProofs [Tryz.f134, toW_zero]
    refine eCall.of zeroR_s (by simp [toW_zero, toW_one]) ?_
    simp -dsimp -implicitDefEqProofs [toW_zero, toW_one]
  · have al : ¬ (toW a).length = 0 := mt toW_len_zero.1 a0
    have al' : ¬ toW a = [] := mt toW_eq_nil.1 a0
    have bl : ¬ (toW b).length = 0 := mt toW_len_zero.1 hb
    have hg0 : Nat.gcd a b ≠ 0 := by intro h; exact hb (Nat.eq_zero_of_gcd_eq_zero_right h)
    have hgl : wl (Nat.gcd a b) ≤ 17592186044416 := Nat.le_trans (wl_mono (Nat.gcd_le_right _ (by omega))) h2
    have q1 := mkQ_abs neg a b hb
    have q2 := mkQ_den neg a b hb
    have q3 := mkQ_neg neg a b hb a0
    have hsz : sz (mkQ neg a b) = wl (a / Nat.gcd a b) + wl (b / Nat.gcd a b) := by unfold sz; rw [q1, q2]
    have d1 := wl_div a (Nat.gcd a b)
    have d2 := wl_div b (Nat.gcd a b)
    -- the end
    have w : IntKind.i64.wrap (((toW (a / Nat.gcd a b)).length : Int) + (toW (b / Nat.gcd a b)).length) = ((sz (mkQ neg a b) : Nat) : Int) := by
      rw [wl_def, wl_def, wrap_i64 _ (by omega) (by omega), hsz]; omega
    have fin : fS (cap (mkQ neg a b)) = if 4096 < sz (mkQ neg a b) then fS 0 else .agg [.bool neg, nS (a / Nat.gcd a b), nS (b / Nat.gcd a b)] := by
      unfold cap
      split
      · rfl
      · rw [fS, q1, q2, q3]
    rw [fin]
    clear fin q1 q2 q3
    by_cases hs : 4096 < sz (mkQ neg a b)
    · have hs' : (4096 : Int) < (sz (mkQ neg a b) : Nat) := by omega
      rw [if_pos hs]
      by_cases b1 : b = 1
      · subst b1
        rw [Nat.gcd_one_right, Nat.div_one, Nat.div_one, toW_one] at w
        try rw [Nat.gcd_one_right, Nat.div_one, Nat.div_one]
        have w' : IntKind.i64.wrap (((toW a).length : Int) + 1) = ((sz (mkQ neg a 1) : Nat) : Int) := w
        refine calls Tryz.func134 rfl (by rfl) (by rfl) (by kernel_rfl) ?_
        simp -dsimp -implicitDefEqProofs [Tryz.f134, al, al', toW_one, w', hs']
        refine eCall.of zeroR_s (by simp [toW_zero, toW_one]) ?_
        simp -dsimp -implicitDefEqProofs [toW_zero, toW_one]
      · refine calls Tryz.func134 rfl (by rfl) (by rfl) (by kernel_rfl) ?_
        by_cases bl1 : (toW b).length = 1
        · have b2 := len_one hb bl1
          have b3 : (toW b)[0] = (b : Int) := by rw [List.getElem_eq_iff]; exact b2
          have bl2 : ¬ (1 : Int) < (toW b).length := by omega
          have b4 : ¬ (b : Int) = 1 := by omega
          simp -dsimp -implicitDefEqProofs [Tryz.f134, al, al', bl1, bl2, b1, b2, b3, b4]
          refine eCall.of (common_s a b h1 h2) (by simp) ?_
          by_cases g1 : Nat.gcd a b = 1
          · simp only [g1, Nat.div_one] at w ⊢
            simp -dsimp -implicitDefEqProofs [w, hs', toW_one, g1, Nat.div_one]
            refine eCall.of zeroR_s (by simp [toW_zero, toW_one]) ?_
            simp -dsimp -implicitDefEqProofs [toW_zero, toW_one]
          · by_cases gl : (toW (Nat.gcd a b)).length = 1
            · have g2 := len_one hg0 gl
              have g3 : (toW (Nat.gcd a b))[0] = ((Nat.gcd a b : Nat) : Int) := by rw [List.getElem_eq_iff]; exact g2
              have gl' : ¬ (1 : Int) < (toW (Nat.gcd a b)).length := by omega
              have g4 : ¬ ((Nat.gcd a b : Nat) : Int) = 1 := by omega
              simp -dsimp -implicitDefEqProofs [gl, gl', g1, g2, g3, g4]
              refine eCall.of (parts_s a (Nat.gcd a b) hg0 h1 hgl) (by simp) ?_
              simp -dsimp -implicitDefEqProofs
              refine eCall.of (parts_s b (Nat.gcd a b) hg0 h2 hgl) (by simp) ?_
              simp -dsimp -implicitDefEqProofs [w, hs']
              refine eCall.of zeroR_s (by simp [toW_zero, toW_one]) ?_
              simp -dsimp -implicitDefEqProofs [toW_zero, toW_one]
            · have gp := mt toW_len_zero.1 hg0
              have gl' : (1 : Int) < (toW (Nat.gcd a b)).length := by omega
              simp -dsimp -implicitDefEqProofs [gl']
              refine eCall.of (parts_s a (Nat.gcd a b) hg0 h1 hgl) (by simp) ?_
              simp -dsimp -implicitDefEqProofs
              refine eCall.of (parts_s b (Nat.gcd a b) hg0 h2 hgl) (by simp) ?_
              simp -dsimp -implicitDefEqProofs [w, hs']
              refine eCall.of zeroR_s (by simp [toW_zero, toW_one]) ?_
              simp -dsimp -implicitDefEqProofs [toW_zero, toW_one]
        · have bl2 : (1 : Int) < (toW b).length := by omega
          simp -dsimp -implicitDefEqProofs [Tryz.f134, al, al', bl2]
          refine eCall.of (common_s a b h1 h2) (by simp) ?_
          by_cases g1 : Nat.gcd a b = 1
          · simp only [g1, Nat.div_one] at w ⊢
            simp -dsimp -implicitDefEqProofs [w, hs', toW_one, g1, Nat.div_one]
            refine eCall.of zeroR_s (by simp [toW_zero, toW_one]) ?_
            simp -dsimp -implicitDefEqProofs [toW_zero, toW_one]
          · by_cases gl : (toW (Nat.gcd a b)).length = 1
            · have g2 := len_one hg0 gl
              have g3 : (toW (Nat.gcd a b))[0] = ((Nat.gcd a b : Nat) : Int) := by rw [List.getElem_eq_iff]; exact g2
              have gl' : ¬ (1 : Int) < (toW (Nat.gcd a b)).length := by omega
              have g4 : ¬ ((Nat.gcd a b : Nat) : Int) = 1 := by omega
              simp -dsimp -implicitDefEqProofs [gl, gl', g1, g2, g3, g4]
              refine eCall.of (parts_s a (Nat.gcd a b) hg0 h1 hgl) (by simp) ?_
              simp -dsimp -implicitDefEqProofs
              refine eCall.of (parts_s b (Nat.gcd a b) hg0 h2 hgl) (by simp) ?_
              simp -dsimp -implicitDefEqProofs [w, hs']
              refine eCall.of zeroR_s (by simp [toW_zero, toW_one]) ?_
              simp -dsimp -implicitDefEqProofs [toW_zero, toW_one]
            · have gp := mt toW_len_zero.1 hg0
              have gl' : (1 : Int) < (toW (Nat.gcd a b)).length := by omega
              simp -dsimp -implicitDefEqProofs [gl']
              refine eCall.of (parts_s a (Nat.gcd a b) hg0 h1 hgl) (by simp) ?_
              simp -dsimp -implicitDefEqProofs
              refine eCall.of (parts_s b (Nat.gcd a b) hg0 h2 hgl) (by simp) ?_
              simp -dsimp -implicitDefEqProofs [w, hs']
              refine eCall.of zeroR_s (by simp [toW_zero, toW_one]) ?_
              simp -dsimp -implicitDefEqProofs [toW_zero, toW_one]
    · have hs' : ¬ (4096 : Int) < (sz (mkQ neg a b) : Nat) := by omega
      rw [if_neg hs]
      by_cases b1 : b = 1
      · subst b1
        rw [Nat.gcd_one_right, Nat.div_one, Nat.div_one, toW_one] at w
        try rw [Nat.gcd_one_right, Nat.div_one, Nat.div_one]
        have w' : IntKind.i64.wrap (((toW a).length : Int) + 1) = ((sz (mkQ neg a 1) : Nat) : Int) := w
        refine calls Tryz.func134 rfl (by rfl) (by rfl) (by kernel_rfl) ?_
        simp -dsimp -implicitDefEqProofs [Tryz.f134, al, al', toW_one, w', hs']
      · refine calls Tryz.func134 rfl (by rfl) (by rfl) (by kernel_rfl) ?_
        by_cases bl1 : (toW b).length = 1
        · have b2 := len_one hb bl1
          have b3 : (toW b)[0] = (b : Int) := by rw [List.getElem_eq_iff]; exact b2
          have bl2 : ¬ (1 : Int) < (toW b).length := by omega
          have b4 : ¬ (b : Int) = 1 := by omega
          simp -dsimp -implicitDefEqProofs [Tryz.f134, al, al', bl1, bl2, b1, b2, b3, b4]
          refine eCall.of (common_s a b h1 h2) (by simp) ?_
          by_cases g1 : Nat.gcd a b = 1
          · simp only [g1, Nat.div_one] at w ⊢
            simp -dsimp -implicitDefEqProofs [w, hs', toW_one, g1, Nat.div_one]
          · by_cases gl : (toW (Nat.gcd a b)).length = 1
            · have g2 := len_one hg0 gl
              have g3 : (toW (Nat.gcd a b))[0] = ((Nat.gcd a b : Nat) : Int) := by rw [List.getElem_eq_iff]; exact g2
              have gl' : ¬ (1 : Int) < (toW (Nat.gcd a b)).length := by omega
              have g4 : ¬ ((Nat.gcd a b : Nat) : Int) = 1 := by omega
              simp -dsimp -implicitDefEqProofs [gl, gl', g1, g2, g3, g4]
              refine eCall.of (parts_s a (Nat.gcd a b) hg0 h1 hgl) (by simp) ?_
              simp -dsimp -implicitDefEqProofs
              refine eCall.of (parts_s b (Nat.gcd a b) hg0 h2 hgl) (by simp) ?_
              simp -dsimp -implicitDefEqProofs [w, hs']
            · have gp := mt toW_len_zero.1 hg0
              have gl' : (1 : Int) < (toW (Nat.gcd a b)).length := by omega
              simp -dsimp -implicitDefEqProofs [gl']
              refine eCall.of (parts_s a (Nat.gcd a b) hg0 h1 hgl) (by simp) ?_
              simp -dsimp -implicitDefEqProofs
              refine eCall.of (parts_s b (Nat.gcd a b) hg0 h2 hgl) (by simp) ?_
              simp -dsimp -implicitDefEqProofs [w, hs']
        · have bl2 : (1 : Int) < (toW b).length := by omega
          simp -dsimp -implicitDefEqProofs [Tryz.f134, al, al', bl2]
          refine eCall.of (common_s a b h1 h2) (by simp) ?_
          by_cases g1 : Nat.gcd a b = 1
          · simp only [g1, Nat.div_one] at w ⊢
            simp -dsimp -implicitDefEqProofs [w, hs', toW_one, g1, Nat.div_one]
          · by_cases gl : (toW (Nat.gcd a b)).length = 1
            · have g2 := len_one hg0 gl
              have g3 : (toW (Nat.gcd a b))[0] = ((Nat.gcd a b : Nat) : Int) := by rw [List.getElem_eq_iff]; exact g2
              have gl' : ¬ (1 : Int) < (toW (Nat.gcd a b)).length := by omega
              have g4 : ¬ ((Nat.gcd a b : Nat) : Int) = 1 := by omega
              simp -dsimp -implicitDefEqProofs [gl, gl', g1, g2, g3, g4]
              refine eCall.of (parts_s a (Nat.gcd a b) hg0 h1 hgl) (by simp) ?_
              simp -dsimp -implicitDefEqProofs
              refine eCall.of (parts_s b (Nat.gcd a b) hg0 h2 hgl) (by simp) ?_
              simp -dsimp -implicitDefEqProofs [w, hs']
            · have gp := mt toW_len_zero.1 hg0
              have gl' : (1 : Int) < (toW (Nat.gcd a b)).length := by omega
              simp -dsimp -implicitDefEqProofs [gl']
              refine eCall.of (parts_s a (Nat.gcd a b) hg0 h1 hgl) (by simp) ?_
              simp -dsimp -implicitDefEqProofs
              refine eCall.of (parts_s b (Nat.gcd a b) hg0 h2 hgl) (by simp) ?_
              simp -dsimp -implicitDefEqProofs [w, hs']
end Go.Proofs.YtaljbebkooppiaaGreat.Sh

namespace Go.Proofs.YtaljbebkooppiaaGreat.Sh
open Go Go.RowKit
theorem mkQ_int (n : Int) : mkQ (decide (n < 0)) n.natAbs 1 = (n : Rat) := by
  have := mkQ_self (n : Rat)
  rw [Rat.num_intCast, Rat.den_intCast] at this
  exact this
set_option maxRecDepth 20000 in
theorem intR_s (n : Int) (h0 : -9223372036854775808 ≤ n) (h1 : n < 9223372036854775808) : CallsS Tryz.prog 73 [.one (.int .i64 n)] (.v (fS (n : Rat))) := by
  have hw := wl_u64 (n := n.natAbs) (by omega)
  have hl := lowest_s (decide (n < 0)) n.natAbs 1 (by decide) (by omega) (by rw [wl_one]; omega)
  rw [mkQ_int, cap_of (by have := sz_int n h0 h1; omega)] at hl
  generalize (n : Rat) = Q at *
  refine calls Tryz.func73 rfl (by rfl) (by rfl) (by kernel_rfl) ?_
  by_cases hn : n < 0
  · have w1 : IntKind.i64.wrap (n + 1) = n + 1 := wrap_i64 _ (by omega) (by omega)
    have w2 : IntKind.i64.wrap (-(n + 1)) = -(n + 1) := wrap_i64 _ (by omega) (by omega)
    have w3 : IntKind.u64.wrap (-(n + 1)) = -(n + 1) := wrap_u64_id _ (by omega) (by omega)
    have w4 : IntKind.u64.wrap (-(n + 1) + 1) = (n.natAbs : Int) := by rw [wrap_u64_id _ (by omega) (by omega)]; omega
    simp -dsimp -implicitDefEqProofs [Tryz.f73, hn, w1, w2, w3, w4]
    refine eCall.of (wide_s n.natAbs (by omega)) (by simp) ?_
    simp -dsimp -implicitDefEqProofs
    refine eCall.of oneR_s (by simp) ?_
    simp -dsimp -implicitDefEqProofs
    refine eCall.of hl (by simp [hn]) ?_
    simp -dsimp -implicitDefEqProofs
  · have w3 : IntKind.u64.wrap n = (n.natAbs : Int) := by rw [wrap_u64_id _ (by omega) (by omega)]; omega
    simp -dsimp -implicitDefEqProofs [Tryz.f73, hn, w3]
    refine eCall.of (wide_s n.natAbs (by omega)) (by simp) ?_
    simp -dsimp -implicitDefEqProofs
    refine eCall.of oneR_s (by simp) ?_
    simp -dsimp -implicitDefEqProofs
    refine eCall.of hl (by simp [Int.not_lt.1 hn]) ?_
    simp -dsimp -implicitDefEqProofs
set_option maxRecDepth 20000 in
set_option maxHeartbeats 2000000 in
theorem rightR_s (f : FR) (hi : f.ok) : CallsS Tryz.prog 117 [frS f] (B f.right) := by
  obtain ⟨neg, num, den⟩ := f
  obtain ⟨i1, i2, i3, i4⟩ := hi
  simp only at i1 i2 i3 i4
  unfold FR.right
  simp only
  have w : IntKind.i64.wrap ((num.length : Int) + den.length) = (num.length : Int) + den.length := wrap_i64 _ (by omega) (by omega)
  refine calls Tryz.func117 rfl (by rfl) (by rfl) (by kernel_rfl) ?_
  by_cases d0 : den.length = 0
  · have d0' : den = [] := List.length_eq_zero_iff.1 d0
    subst d0'
    simp -dsimp -implicitDefEqProofs [Tryz.f117]
  · have d0' : ¬ den = [] := fun h => d0 (by rw [h]; rfl)
    rw [if_neg d0]
    by_cases hs : 4096 < num.length + den.length
    · have hs' : (4096 : Int) < (num.length : Int) + den.length := by omega
      rw [if_pos hs]
      by_cases c1 : (4096 : Int) < num.length
      · simp -dsimp -implicitDefEqProofs [Tryz.f117, d0, d0', w, c1]
      · by_cases c2 : (4096 : Int) < den.length
        · simp -dsimp -implicitDefEqProofs [Tryz.f117, d0, d0', w, c1, c2]
        · simp -dsimp -implicitDefEqProofs [Tryz.f117, d0, d0', w, c1, c2, hs']
    · have hs' : ¬ (4096 : Int) < (num.length : Int) + den.length := by omega
      have c1 : ¬ (4096 : Int) < num.length := by omega
      have c2 : ¬ (4096 : Int) < den.length := by omega
      have wd : IntKind.i64.wrap ((den.length : Int) - 1) = ((den.length - 1 : Nat) : Int) := by rw [wrap_i64 _ (by omega) (by omega)]; omega
      have gd : den[den.length - 1]? = some (at0 den (den.length - 1)) := by rw [at0_lt (by omega), List.getElem?_eq_getElem]
      rw [if_neg hs]
      by_cases hl : at0 den (den.length - 1) = 0
      · simp -dsimp -implicitDefEqProofs [Tryz.f117, d0, d0', w, c1, c2, hs', wd, gd, hl]
        omega
      · rw [if_neg hl]
        simp -dsimp -implicitDefEqProofs [Tryz.f117, d0, d0', w, c1, c2, hs', wd, gd, hl]
        refine ⟨by omega, ?_⟩
        have d1 : den = [1] ↔ (den.length = 1 ∧ den[0]? = some 1) := by
          constructor
          · rintro rfl; exact ⟨rfl, rfl⟩
          · rintro ⟨h1, h2⟩
            obtain ⟨x, rfl⟩ := List.length_eq_one_iff.1 h1
            simpa using h2
        by_cases n0 : num.length = 0
        · have en : num = [] := List.length_eq_zero_iff.1 n0
          subst en
          cases neg
          · by_cases l1 : den.length = 1
            · obtain ⟨x, rfl⟩ := List.length_eq_one_iff.1 l1
              simp -dsimp -implicitDefEqProofs
              rfl
            · have l1' : ¬ (den.length : Int) = 1 := by omega
              have : ¬ den = [1] := fun h => l1 (d1.1 h).1
              simp -dsimp -implicitDefEqProofs [l1, l1', this]
          · simp -dsimp -implicitDefEqProofs
        · rw [if_neg n0]
          have wn : IntKind.i64.wrap ((num.length : Int) - 1) = ((num.length - 1 : Nat) : Int) := by rw [wrap_i64 _ (by omega) (by omega)]; omega
          have gn : num[num.length - 1]? = some (at0 num (num.length - 1)) := by rw [at0_lt (by omega), List.getElem?_eq_getElem]
          have en : ¬ num = [] := fun h => n0 (by rw [h]; rfl)
          by_cases hn : at0 num (num.length - 1) = 0
          · simp -dsimp -implicitDefEqProofs [n0, en, wn, gn, hn]
            omega
          · rw [if_neg hn]
            simp -dsimp -implicitDefEqProofs [n0, en, wn, gn, hn]
            refine ⟨by omega, ?_⟩
            obtain ⟨e1, v1⟩ := toW_of i1 n0 hn
            obtain ⟨e2, v2⟩ := toW_of i2 d0 hl
            generalize (val num).toNat = a at *
            generalize (val den).toNat = b at *
            subst e1 e2
            have hg0 : Nat.gcd a b ≠ 0 := by intro h; exact v2 (Nat.eq_zero_of_gcd_eq_zero_right h)
            by_cases b1 : b = 1
            · subst b1
              simp -dsimp -implicitDefEqProofs [toW_one]
            · by_cases bl1 : (toW b).length = 1
              · have b2 := len_one v2 bl1
                have b3 : (toW b)[0] = (b : Int) := by rw [List.getElem_eq_iff]; exact b2
                have b4 : ¬ (b : Int) = 1 := by omega
                have bl1' : ((toW b).length : Int) = 1 := by omega
                simp -dsimp -implicitDefEqProofs [bl1, bl1', b2, b3, b4]
                refine eCall.of (common_s a b (by omega) (by omega)) (by simp) ?_
                by_cases g1 : Nat.gcd a b = 1
                · simp -dsimp -implicitDefEqProofs [g1, toW_one]
                · by_cases gl : (toW (Nat.gcd a b)).length = 1
                  · have g2 := len_one hg0 gl
                    have g3 : (toW (Nat.gcd a b))[0] = ((Nat.gcd a b : Nat) : Int) := by rw [List.getElem_eq_iff]; exact g2
                    have gl' : ((toW (Nat.gcd a b)).length : Int) = 1 := by omega
                    have g4 : ¬ ((Nat.gcd a b : Nat) : Int) = 1 := by omega
                    simp -dsimp -implicitDefEqProofs [gl, gl', g1, g2, g3, g4]
                  · have gl' : ¬ ((toW (Nat.gcd a b)).length : Int) = 1 := by omega
                    simp -dsimp -implicitDefEqProofs [gl', g1]
              · have bl1' : ¬ ((toW b).length : Int) = 1 := by omega
                simp -dsimp -implicitDefEqProofs [bl1, bl1']
                refine eCall.of (common_s a b (by omega) (by omega)) (by simp) ?_
                by_cases g1 : Nat.gcd a b = 1
                · simp -dsimp -implicitDefEqProofs [g1, toW_one]
                · by_cases gl : (toW (Nat.gcd a b)).length = 1
                  · have g2 := len_one hg0 gl
                    have g3 : (toW (Nat.gcd a b))[0] = ((Nat.gcd a b : Nat) : Int) := by rw [List.getElem_eq_iff]; exact g2
                    have gl' : ((toW (Nat.gcd a b)).length : Int) = 1 := by omega
                    have g4 : ¬ ((Nat.gcd a b : Nat) : Int) = 1 := by omega
                    simp -dsimp -implicitDefEqProofs [gl, gl', g1, g2, g3, g4]
                  · have gl' : ¬ ((toW (Nat.gcd a b)).length : Int) = 1 := by omega
                    simp -dsimp -implicitDefEqProofs [gl', g1]
set_option maxRecDepth 20000 in
theorem fixR_s (f : FR) (hi : f.ok) : CallsS Tryz.prog 51 [frS f] (.v (fS f.fix)) := by
  refine calls Tryz.func51 rfl (by rfl) (by rfl) (by kernel_rfl) ?_
  simp -dsimp -implicitDefEqProofs [Tryz.f51]
  refine eCall.of (rightR_s f hi) (by simp) ?_
  cases h : f.right
  · have e : f.fix = 0 := by unfold FR.fix; rw [h]; rfl
    rw [e]
    simp -dsimp -implicitDefEqProofs
    refine eCall.of zeroR_s (by simp) ?_
    simp -dsimp -implicitDefEqProofs
  · obtain ⟨e, _⟩ := f.right_fix hi h
    rw [← e]
    simp -dsimp -implicitDefEqProofs
set_option maxRecDepth 20000 in
set_option maxHeartbeats 2000000 in
theorem sum_gen (a b d e : Nat) (np nq : Bool) (hd0 : d ≠ 0) (he0 : e ≠ 0) (h : wl a + wl b + wl d + wl e ≤ 17592186044415) :
    CallsS Tryz.prog 187 [.agg [.bool np, nS a, nS d], .agg [.bool nq, nS b, nS e]] (.v (fS (cap (if d = e then mkRat (sg np a + sg nq b) d else mkRat (sg np (a * e) + sg nq (b * d)) (d * e))))) := by
  have l1 := wl_mul a e
  have l2 := wl_mul b d
  have l3 := wl_mul d e
  have dn : d * e ≠ 0 := Nat.mul_ne_zero hd0 he0
  by_cases hd : d = e
  · subst hd
    rw [if_pos rfl]
    refine calls Tryz.func187 rfl (by rfl) (by rfl) (by kernel_rfl) ?_
    simp -dsimp -implicitDefEqProofs [Tryz.f187]
    refine eCall.of (order_s d d (by rw [wl_def]; omega) (by rw [wl_def]; omega)) (by simp) ?_
    simp -dsimp -implicitDefEqProofs [cmpN_eq (rfl : d = d)]
    have l4 := wl_add (a) (b)
    have e1 := sum_cases np nq (a) (b) (d)
    by_cases hn : np = nq
    · subst hn
      rw [if_pos rfl] at e1
      have hred := lowest_s np (a + b) (d) hd0 (by omega) (by omega)
      rw [← e1] at hred
      simp -dsimp -implicitDefEqProofs
      refine eCall.of (plusN_s (a) (b) (by omega) (by omega)) (by simp) ?_
      simp -dsimp -implicitDefEqProofs
      refine eCall.of hred (by simp) ?_
      simp -dsimp -implicitDefEqProofs
    · rw [if_neg hn] at e1
      have hnb : (np == nq) = false := by simpa using hn
      simp -dsimp -implicitDefEqProofs [hnb]
      refine eCall.of (order_s (a) (b) (by rw [wl_def]; omega) (by rw [wl_def]; omega)) (by simp) ?_
      rcases Nat.lt_trichotomy (a) (b) with hc | hc | hc
      · rw [if_neg (by omega), if_pos hc] at e1
        have lm := wl_mono (show b - (a) ≤ b by omega)
        have hred := lowest_s nq (b - (a)) (d) hd0 (by omega) (by omega)
        rw [← e1] at hred
        simp -dsimp -implicitDefEqProofs [cmpN_lt hc]
        refine eCall.of (minusN_s (b) (a) (by omega) (by omega)) (by simp) ?_
        simp -dsimp -implicitDefEqProofs
        refine eCall.of hred (by simp) ?_
        simp -dsimp -implicitDefEqProofs
      · rw [if_neg (by omega), if_neg (by omega)] at e1
        have lm := wl_mono (show a - (b) ≤ a by omega)
        have hred := lowest_s np (a - (b)) (d) hd0 (by omega) (by omega)
        rw [show a - (b) = 0 by omega, mkQ_zero, ← e1] at hred
        simp -dsimp -implicitDefEqProofs [cmpN_eq hc]
        refine eCall.of (minusN_s (a) (b) (by omega) (by omega)) (by simp) ?_
        rw [show a - (b) = 0 by omega]
        simp -dsimp -implicitDefEqProofs
        refine eCall.of hred (by simp) ?_
        simp -dsimp -implicitDefEqProofs
      · rw [if_pos hc] at e1
        have lm := wl_mono (show a - (b) ≤ a by omega)
        have hred := lowest_s np (a - (b)) (d) hd0 (by omega) (by omega)
        rw [← e1] at hred
        simp -dsimp -implicitDefEqProofs [cmpN_gt hc]
        refine eCall.of (minusN_s (a) (b) (by omega) (by omega)) (by simp) ?_
        simp -dsimp -implicitDefEqProofs
        refine eCall.of hred (by simp) ?_
        simp -dsimp -implicitDefEqProofs
  · rw [if_neg hd]
    have hc : ¬ cmpN d e = 0 := mt cmpN_eq_zero.1 hd
    refine calls Tryz.func187 rfl (by rfl) (by rfl) (by kernel_rfl) ?_
    simp -dsimp -implicitDefEqProofs [Tryz.f187]
    refine eCall.of (order_s d e (by rw [wl_def]; omega) (by rw [wl_def]; omega)) (by simp) ?_
    simp -dsimp -implicitDefEqProofs [hc]
    refine eCall.of (timesN_s a e (by omega) (by omega)) (by simp) ?_
    simp -dsimp -implicitDefEqProofs
    refine eCall.of (timesN_s b d (by omega) (by omega)) (by simp) ?_
    simp -dsimp -implicitDefEqProofs
    refine eCall.of (timesN_s d e (by omega) (by omega)) (by simp) ?_
    simp -dsimp -implicitDefEqProofs
    have l4 := wl_add (a * e) (b * d)
    have e1 := sum_cases np nq (a * e) (b * d) (d * e)
    by_cases hn : np = nq
    · subst hn
      rw [if_pos rfl] at e1
      have hred := lowest_s np (a * e + b * d) (d * e) dn (by omega) (by omega)
      rw [← e1] at hred
      simp -dsimp -implicitDefEqProofs
      refine eCall.of (plusN_s (a * e) (b * d) (by omega) (by omega)) (by simp) ?_
      simp -dsimp -implicitDefEqProofs
      refine eCall.of hred (by simp) ?_
      simp -dsimp -implicitDefEqProofs
    · rw [if_neg hn] at e1
      have hnb : (np == nq) = false := by simpa using hn
      simp -dsimp -implicitDefEqProofs [hnb]
      refine eCall.of (order_s (a * e) (b * d) (by rw [wl_def]; omega) (by rw [wl_def]; omega)) (by simp) ?_
      rcases Nat.lt_trichotomy (a * e) (b * d) with hc | hc | hc
      · rw [if_neg (by omega), if_pos hc] at e1
        have lm := wl_mono (show b * d - (a * e) ≤ b * d by omega)
        have hred := lowest_s nq (b * d - (a * e)) (d * e) dn (by omega) (by omega)
        rw [← e1] at hred
        simp -dsimp -implicitDefEqProofs [cmpN_lt hc]
        refine eCall.of (minusN_s (b * d) (a * e) (by omega) (by omega)) (by simp) ?_
        simp -dsimp -implicitDefEqProofs
        refine eCall.of hred (by simp) ?_
        simp -dsimp -implicitDefEqProofs
      · rw [if_neg (by omega), if_neg (by omega)] at e1
        have lm := wl_mono (show a * e - (b * d) ≤ a * e by omega)
        have hred := lowest_s np (a * e - (b * d)) (d * e) dn (by omega) (by omega)
        rw [show a * e - (b * d) = 0 by omega, mkQ_zero, ← e1] at hred
        simp -dsimp -implicitDefEqProofs [cmpN_eq hc]
        refine eCall.of (minusN_s (a * e) (b * d) (by omega) (by omega)) (by simp) ?_
        rw [show a * e - (b * d) = 0 by omega]
        simp -dsimp -implicitDefEqProofs
        refine eCall.of hred (by simp) ?_
        simp -dsimp -implicitDefEqProofs
      · rw [if_pos hc] at e1
        have lm := wl_mono (show a * e - (b * d) ≤ a * e by omega)
        have hred := lowest_s np (a * e - (b * d)) (d * e) dn (by omega) (by omega)
        rw [← e1] at hred
        simp -dsimp -implicitDefEqProofs [cmpN_gt hc]
        refine eCall.of (minusN_s (a * e) (b * d) (by omega) (by omega)) (by simp) ?_
        simp -dsimp -implicitDefEqProofs
        refine eCall.of hred (by simp) ?_
        simp -dsimp -implicitDefEqProofs
theorem sumR_s (p q : Rat) (h : sz p + sz q ≤ 17592186044415) : CallsS Tryz.prog 187 [fS p, fS q] (.v (fS (cap (p + q)))) := by
  unfold sz at h
  have := sum_gen p.num.natAbs q.num.natAbs p.den q.den (ng p) (ng q) p.den_nz q.den_nz (by omega)
  by_cases hd : p.den = q.den
  · rw [if_pos hd, ← add_mkQ_same p q hd] at this
    exact this
  · rw [if_neg hd, ← add_mkQ] at this
    exact this
end Go.Proofs.YtaljbebkooppiaaGreat.Sh

namespace Go.Proofs.YtaljbebkooppiaaGreat.Sh
open Go Go.RowKit
set_option maxRecDepth 20000 in
theorem negR_s (f : FR) (hf : f.ok) : CallsS Tryz.prog 188 [frS f] (.v (fS (-f.fix))) := by
  refine calls Tryz.func188 rfl (by rfl) (by rfl) (by kernel_rfl) ?_
  simp -dsimp -implicitDefEqProofs [Tryz.f188]
  refine eCall.of (fixR_s f hf) (by simp) ?_
  generalize f.fix = q
  have hn : (-q).num.natAbs = q.num.natAbs := by rw [Rat.neg_num]; omega
  have hd : (-q).den = q.den := rfl
  by_cases h0 : q = 0
  · subst h0
    simp -dsimp -implicitDefEqProofs [toW_zero]
  · have hl : ¬ (toW q.num.natAbs).length = 0 := by rw [toW_len_zero, abs_eq_zero]; exact h0
    have hl' : ¬ toW q.num.natAbs = [] := fun h => hl (by rw [h]; rfl)
    have h1 : ¬ q.num = 0 := fun h => h0 (Rat.num_eq_zero.1 h)
    by_cases h2 : q.num < 0
    · have h3 : ¬ (0 < q.num) := by omega
      simp -dsimp -implicitDefEqProofs [hl, hl', hn, hd, h2, h3]
    · have h3 : 0 < q.num := by omega
      simp -dsimp -implicitDefEqProofs [hl, hl', hn, hd, h2, h3]
set_option maxRecDepth 20000 in
theorem subR_s (f g : FR) (hf : f.ok) (hg : g.ok) : CallsS Tryz.prog 149 [frS f, frS g] (.v (fS (cap (f.fix - g.fix)))) := by
  have := sz_fix hf
  have := sz_fix hg
  have := sz_neg g.fix
  have hs := sumR_s f.fix (-g.fix) (by omega)
  have hn := negR_s g hg
  rw [← Rat.sub_eq_add_neg] at hs
  generalize -g.fix = q at *
  refine calls Tryz.func149 rfl (by rfl) (by rfl) (by kernel_rfl) ?_
  simp -dsimp -implicitDefEqProofs [Tryz.f149]
  refine eCall.of (fixR_s f hf) (by simp) ?_
  simp -dsimp -implicitDefEqProofs
  refine eCall.of hn (by simp) ?_
  simp -dsimp -implicitDefEqProofs
  refine eCall.of hs (by simp) ?_
  simp -dsimp -implicitDefEqProofs
set_option maxRecDepth 20000 in
theorem cmpR_s (f g : FR) (hf : f.ok) (hg : g.ok) : CallsS Tryz.prog 21 [frS f, frS g] (I .i64 (cmpQ f.fix g.fix)) := by
  have h1 := sz_fix hf
  have h2 := sz_fix hg
  refine calls Tryz.func21 rfl (by rfl) (by rfl) (by kernel_rfl) ?_
  simp -dsimp -implicitDefEqProofs [Tryz.f21]
  refine eCall.of (fixR_s f hf) (by simp) ?_
  simp -dsimp -implicitDefEqProofs
  refine eCall.of (fixR_s g hg) (by simp) ?_
  generalize f.fix = p at *
  generalize g.fix = q at *
  unfold sz at h1 h2
  have l1 := wl_mul p.num.natAbs q.den
  have l2 := wl_mul q.num.natAbs p.den
  have hc : ∀ x y, -1 ≤ cmpN x y ∧ cmpN x y ≤ 1 := fun x y => by unfold cmpN; split <;> (try split) <;> omega
  have w : IntKind.i64.wrap (-(cmpN (p.num.natAbs * q.den) (q.num.natAbs * p.den))) = -(cmpN (p.num.natAbs * q.den) (q.num.natAbs * p.den)) := by
    have := hc (p.num.natAbs * q.den) (q.num.natAbs * p.den)
    exact wrap_i64 _ (by omega) (by omega)
  rcases Int.lt_or_le p.num 0 with a | a <;> rcases Int.lt_or_le q.num 0 with b | b
  · have hs : ng p = ng q := by unfold ng; simp [a, b]
    rw [cmpQ_ng hs]
    simp -dsimp -implicitDefEqProofs [a, b]
    refine eCall.of (timesN_s p.num.natAbs q.den (by omega) (by omega)) (by simp) ?_
    simp -dsimp -implicitDefEqProofs
    refine eCall.of (timesN_s q.num.natAbs p.den (by omega) (by omega)) (by simp) ?_
    simp -dsimp -implicitDefEqProofs
    refine eCall.of (order_s (p.num.natAbs * q.den) (q.num.natAbs * p.den) (by rw [wl_def]; omega) (by rw [wl_def]; omega)) (by simp) ?_
    simp -dsimp -implicitDefEqProofs [a, b, ng, w]
  · have hs : ng p ≠ ng q := by unfold ng; simp [a, Int.not_lt.2 b]
    rw [cmpQ_ng_ne hs]
    simp -dsimp -implicitDefEqProofs [a, Int.not_lt.2 b, ng]
  · have hs : ng p ≠ ng q := by unfold ng; simp [Int.not_lt.2 a, b]
    rw [cmpQ_ng_ne hs]
    simp -dsimp -implicitDefEqProofs [Int.not_lt.2 a, b, ng]
  · have hs : ng p = ng q := by unfold ng; simp [Int.not_lt.2 a, Int.not_lt.2 b]
    rw [cmpQ_ng hs]
    simp -dsimp -implicitDefEqProofs [Int.not_lt.2 a, Int.not_lt.2 b]
    refine eCall.of (timesN_s p.num.natAbs q.den (by omega) (by omega)) (by simp) ?_
    simp -dsimp -implicitDefEqProofs
    refine eCall.of (timesN_s q.num.natAbs p.den (by omega) (by omega)) (by simp) ?_
    simp -dsimp -implicitDefEqProofs
    refine eCall.of (order_s (p.num.natAbs * q.den) (q.num.natAbs * p.den) (by rw [wl_def]; omega) (by rw [wl_def]; omega)) (by simp) ?_
    simp -dsimp -implicitDefEqProofs [Int.not_lt.2 a, Int.not_lt.2 b, ng, w]
theorem cmpQ_zero {p q : Rat} : cmpQ p q = 0 ↔ p = q := by
  unfold cmpQ
  split
  · rename_i h
    exact ⟨fun h => by omega, fun h' => absurd h' (Rat.ne_of_lt h)⟩
  · split
    · exact ⟨fun _ => ‹_›, fun _ => rfl⟩
    · exact ⟨fun h => by omega, fun h' => absurd h' ‹_›⟩
theorem cmpQ_neg {p q : Rat} : cmpQ p q < 0 ↔ p < q := by
  unfold cmpQ
  split
  · exact ⟨fun _ => ‹_›, fun _ => by omega⟩
  · split
    · exact ⟨fun h => by omega, fun h => absurd h ‹_›⟩
    · exact ⟨fun h => by omega, fun h => absurd h ‹_›⟩
theorem cmpQ_pos {p q : Rat} : 0 < cmpQ p q ↔ q < p := by
  unfold cmpQ
  split
  · rename_i h
    exact ⟨fun h => by omega, fun h' => absurd (Rat.le_of_lt h') (Rat.not_le.2 h)⟩
  · split
    · rename_i h; subst h
      exact ⟨fun h => by omega, fun h => absurd h Rat.lt_irrefl⟩
    · rename_i h1 h2
      exact ⟨fun _ => Rat.lt_of_le_of_ne (Rat.not_lt.1 h1) (fun h => h2 h.symm), fun _ => by omega⟩
set_option maxRecDepth 20000 in
theorem sameR_s (f g : FR) (hf : f.ok) (hg : g.ok) : CallsS Tryz.prog 90 [frS f, frS g] (B (decide (f.fix = g.fix))) := by
  have e : decide (f.fix = g.fix) = (cmpQ f.fix g.fix == 0) := by
    by_cases h : f.fix = g.fix
    · rw [decide_eq_true h, cmpQ_zero.2 h]; rfl
    · rw [decide_eq_false h]
      have := mt cmpQ_zero.1 h
      simp [this]
  rw [e]
  refine calls Tryz.func90 rfl (by rfl) (by rfl) (by kernel_rfl) ?_
  simp -dsimp -implicitDefEqProofs [Tryz.f90]
  refine eCall.of (cmpR_s f g hf hg) (by simp) ?_
  simp -dsimp -implicitDefEqProofs
set_option maxRecDepth 20000 in
theorem signR_s (f : FR) (hf : f.ok) : CallsS Tryz.prog 20 [frS f] (I .i64 (sgnQ f.fix)) := by
  refine calls Tryz.func20 rfl (by rfl) (by rfl) (by kernel_rfl) ?_
  simp -dsimp -implicitDefEqProofs [Tryz.f20]
  refine eCall.of (fixR_s f hf) (by simp) ?_
  rw [sgnQ_num]
  generalize f.fix = q
  by_cases h0 : q.num = 0
  · simp -dsimp -implicitDefEqProofs [h0, toW_zero]
  · have hl : ¬ (toW q.num.natAbs).length = 0 := by rw [toW_len_zero]; omega
    have hl' : ¬ toW q.num.natAbs = [] := fun h => hl (by rw [h]; rfl)
    by_cases h1 : q.num < 0
    · simp -dsimp -implicitDefEqProofs [h0, h1, hl, hl']
    · simp -dsimp -implicitDefEqProofs [h0, h1, hl, hl']
theorem fix_int (n : Int) (h0 : -9223372036854775808 ≤ n) (h1 : n < 9223372036854775808) : (frQ (n : Rat)).fix = (n : Rat) ∧ (frQ (n : Rat)).ok :=
  ⟨fix_frQ (by have := sz_int n h0 h1; omega), frQ_ok (by have := sz_int n h0 h1; omega)⟩
end Go.Proofs.YtaljbebkooppiaaGreat.Sh

namespace Go.Proofs.YtaljbebkooppiaaGreat.Sh
open Go Go.RowKit
@[simp] def rowFr (f : FR) : List S1 := [.bool f.neg, wS f.num, wS f.den]
@[simp] def rowQ (q : Rat) : List S1 := [nS q.num.natAbs, nS q.den, .bool (decide (q.num < 0))]
instance : RowF 3 rowFr := ⟨fun _ => rfl, fun x s h => by simp at h; rcases h with rfl | rfl | rfl <;> rfl⟩
instance : RowF 3 rowQ := ⟨fun _ => rfl, fun x s h => by simp at h; rcases h with rfl | rfl | rfl <;> rfl⟩
@[simp] def frsS (l : List FR) : S1 := .sl true 3 (l.map rowFr)
@[simp] def ratsS (l : List Rat) : S1 := .sl true 3 (l.map rowQ)
def filled {α β : Type} (g : α → β) (l : List α) (i : Nat) : List (Option β) := (l.take i).map (fun x => some (g x)) ++ List.replicate (l.length - i) none
theorem filled_len {α β : Type} (g : α → β) (l : List α) {i : Nat} (h : i ≤ l.length) : (filled g l i).length = l.length := by simp [filled]; omega
theorem filled_zero {α β : Type} (g : α → β) (l : List α) : filled g l 0 = List.replicate l.length none := by simp [filled]
theorem filled_full {α β : Type} (g : α → β) (l : List α) : filled g l l.length = l.map (fun x => some (g x)) := by simp [filled]
theorem filled_set {α β : Type} (g : α → β) (l : List α) (i : Nat) (h : i < l.length) : (filled g l i).set i (some (g l[i])) = filled g l (i + 1) := by
  unfold filled
  obtain ⟨m, hm⟩ : ∃ m, l.length - i = m + 1 := ⟨l.length - i - 1, by omega⟩
  rw [hm, List.set_append_right _ _ (by simp; omega), List.replicate_succ]
  rw [List.take_add_one, List.getElem?_eq_getElem h]
  simp only [Option.toList, List.map_append, List.map_cons, List.map_nil, List.append_assoc]
  congr 1
  rw [List.length_map, List.length_take, Nat.min_eq_left (by omega), Nat.sub_self, List.set_cons_zero, show l.length - (i + 1) = m by omega]
  rfl
def optRow (z : List S1) {α : Type} (f : α → List S1) : Option α → List S1
  | none => z
  | some x => f x
instance : RowF 3 (optRow [.nils, .nils, .bool false] rowQ) := ⟨fun x => by cases x <;> rfl, fun x s h => by cases x <;> (simp [optRow] at h; rcases h with rfl | rfl | rfl <;> rfl)⟩
instance : RowF 3 (optRow [.bool false, .nils, .nils] rowFr) := ⟨fun x => by cases x <;> rfl, fun x s h => by cases x <;> (simp [optRow] at h; rcases h with rfl | rfl | rfl <;> rfl)⟩
theorem flat_rep (z : List S1) {α : Type} (f : α → List S1) (n : Nat) : (List.replicate n z).flatten = flat (optRow z f) (List.replicate n none) := by
  simp [flat, optRow]
def sumQ : List Rat → Rat
  | [] => 0
  | q :: l => q + sumQ l
theorem mz_sum (l : List Rat) (B : Nat) (h : ∀ q ∈ l, mz q ≤ B) : mz (sumQ l) ≤ l.length * (B + 1) + 1 := by
  induction l with
  | nil =>
    have : mz 0 ≤ 1 := by decide +kernel
    show mz 0 ≤ _
    omega
  | cons x l ih =>
    have h1 := h x (List.mem_cons_self ..)
    have h2 := ih (fun q hq => h q (List.mem_cons_of_mem _ hq))
    have h3 := mz_add x (sumQ l)
    simp only [sumQ, List.length_cons, Nat.add_mul, Nat.one_mul]
    omega
end Go.Proofs.YtaljbebkooppiaaGreat.Sh

namespace Go.Proofs.YtaljbebkooppiaaGreat.Sh
open Go Go.RowKit
def isLot (l : List FR) : Prop := (∀ f ∈ l, 0 ≤ f.fix) ∧ cap (sumQ (l.map FR.fix)) = 1
def drawQ (t : Rat) : Rat → Nat → List Rat → Option Nat
  | _, _, [] => none
  | s, i, q :: l => if t < cap (s + q) then some i else drawQ t (cap (s + q)) (i + 1) l
def drawR : Option Nat → Int × Int
  | some i => (i, 0)
  | none => (0, 41)
def isDraw (l : List FR) (t : Rat) (r : Int × Int) : Prop :=
  (¬ isLot l ∧ r = (0, 41)) ∨ (isLot l ∧ (t < 0 ∨ 1 ≤ t) ∧ r = (0, 40)) ∨ (isLot l ∧ 0 ≤ t ∧ t < 1 ∧ r = drawR (drawQ t 0 0 (l.map FR.fix)))
end Go.Proofs.YtaljbebkooppiaaGreat.Sh

namespace Go.Proofs.YtaljbebkooppiaaGreat.Sh
open Go Go.RowKit
@[simp] def intsS (l : List Int) : S1 := .sl true 1 (l.map fun x => [.int .i64 x])
@[simp] def oI (l : List Int) : SObj := ⟨3, l.map fun x => .int .i64 x⟩
def InI (l : List Int) : Prop := ∀ x ∈ l, -9223372036854775808 ≤ x ∧ x < 9223372036854775808
set_option maxRecDepth 20000 in
theorem sameInts_s (a b : List Int) (ha : a.length ≤ 140737488355328) (hb : b.length ≤ 140737488355328) : CallsS Tryz.prog 32 [.one (intsS a), .one (intsS b)] (B (decide (a = b))) := by
  refine calls Tryz.func32 rfl (by rfl) (by rfl) (by kernel_rfl) ?_
  by_cases hl : a.length = b.length
  · have hl' : (a.length : Int) = b.length := by omega
    simp -dsimp -implicitDefEqProofs [Tryz.f32, hl]
    refine sw_loop_e (fun p : {p : Nat // p ≤ b.length ∧ a.take p = b.take p} => SS.of [(0, .v (.one (intsS a))), (1, .v (.one (intsS b))), (5, I .i64 p.1)] [] 0)
      (fun p => b.length - p.1) ⟨0, Nat.zero_le _, by simp⟩ (by kernel_rfl) (Le.to (by simp) (by simp) (by simp)) ?_
    rintro ⟨i, hi, ht⟩
    by_cases a1 : i < b.length
    · have a2 : i < a.length := by omega
      have wi : IntKind.i64.wrap ((i : Int) + 1) = ((i + 1 : Nat) : Int) := by rw [wrap_i64 _ (by omega) (by omega)]; rfl
      simp -dsimp -implicitDefEqProofs [a1, a2, hl, wi]
      refine ⟨fun he => ?_, fun he => ?_⟩
      · refine Again.by ⟨i + 1, a1, ?_⟩ (Le.to (by simp [wi]) (by simp) (by simp)) (by simp; omega)
        rw [List.take_add_one, List.take_add_one, ht, List.getElem?_eq_getElem a1, List.getElem?_eq_getElem a2, he]
      · intro hab; subst hab; exact he rfl
    · have hi2 : i = b.length := by omega
      subst hi2
      rw [List.take_length, ← hl, List.take_length] at ht
      subst ht
      simp -dsimp -implicitDefEqProofs
  · have hab : a ≠ b := fun h => hl (by rw [h])
    have hl' : ¬ (a.length : Int) = b.length := by omega
    simp -dsimp -implicitDefEqProofs [Tryz.f32, hl, hl', hab]
end Go.Proofs.YtaljbebkooppiaaGreat.Sh

namespace Go.Proofs.YtaljbebkooppiaaGreat.Sh
open Go Go.RowKit
def FR.big (f : FR) : Nat := f.num.length + f.den.length
def wideF (m : Int) (l : List FR) : Bool := l.any fun f => decide (m < (f.big : Int))
set_option maxRecDepth 20000 in
theorem big_s (f : FR) (hf : f.ok) : CallsS Tryz.prog 136 [frS f] (I .i64 (f.big : Int)) := by
  obtain ⟨h1, h2, h3, h4⟩ := hf
  have wi : IntKind.i64.wrap ((f.num.length : Int) + (f.den.length : Int)) = ((f.num.length + f.den.length : Nat) : Int) := by rw [wrap_i64 _ (by omega) (by omega)]; omega
  refine calls Tryz.func136 rfl (by rfl) (by rfl) (by kernel_rfl) ?_
  simp -dsimp -implicitDefEqProofs [Tryz.f136, FR.big, wi]
def mostF (l : List Rat) : Nat → Int
  | 0 => -1
  | i + 1 => if mostF l i < 0 then i else if l.getD (mostF l i).toNat 0 < l.getD i 0 then i else mostF l i
end Go.Proofs.YtaljbebkooppiaaGreat.Sh

namespace Go.Proofs.YtaljbebkooppiaaGreat.Sh
open Go Go.RowKit
structure Small (l : List FR) (B : Nat) : Prop where
  ok : ∀ f ∈ l, f.ok
  mz : ∀ q ∈ l.map FR.fix, mz q ≤ B
  all : l.length * (B + 1) + 1 ≤ 2048
theorem Small.len {l : List FR} {B : Nat} (h : Small l B) : l.length ≤ 2048 := by
  have := h.all
  have := Nat.le_mul_of_pos_right l.length (show 0 < B + 1 by omega)
  omega
def dotQ : List Rat → List Rat → Rat
  | p :: l, q :: m => p * q + dotQ l m
  | _, _ => 0
def dotL (a b : List FR) : List Rat := List.zipWith (fun f g => f.fix * g.fix) a b
set_option maxRecDepth 20000 in
theorem sameNumbers_s (a b : List FR) (ha : ∀ f ∈ a, f.ok) (hb : ∀ f ∈ b, f.ok) (h1 : a.length ≤ 1048576) (h : a.map FR.fix = b.map FR.fix) :
    CallsS Tryz.prog 85 [.one (frsS a), .one (frsS b)] (B true) := by
  have hab : a.length = b.length := by have := congrArg List.length h; simpa using this
  refine calls Tryz.func85 rfl (by rfl) (by rfl) (by kernel_rfl) ?_
  simp -dsimp -implicitDefEqProofs [Tryz.f85, hab]
  refine sw_loop_e (fun p : {p : Nat // p ≤ a.length} => SS.of [(0, .v (.one (frsS a))), (1, .v (.one (frsS b))), (5, I .i64 p.1)] [] 0)
    (fun p => a.length - p.1) ⟨0, Nat.zero_le _⟩ (by kernel_rfl) (Le.to (by simp) (by simp) (by simp)) ?_
  rintro ⟨i, hi⟩
  by_cases a1 : i < a.length
  · have wi : IntKind.i64.wrap ((i : Int) + 1) = ((i + 1 : Nat) : Int) := by rw [wrap_i64 _ (by omega) (by omega)]; rfl
    have a2 : i < b.length := by omega
    have hs := sameR_s a[i] b[i] (ha _ (List.getElem_mem a1)) (hb _ (List.getElem_mem a2))
    have he : a[i].fix = b[i].fix := by
      have h2 : (a.map FR.fix)[i]'(by simpa using a1) = (b.map FR.fix)[i]'(by simpa using a2) := by simp only [h]
      simpa using h2
    rw [decide_eq_true he] at hs
    simp -dsimp -implicitDefEqProofs [a1, a2, wi]
    refine eCall.of hs (by simp) ?_
    simp -dsimp -implicitDefEqProofs
    exact Again.by ⟨i + 1, a1⟩ (Le.to (by simp [wi]) (by simp) (by simp)) (by simp; omega)
  · have hi2 : i = a.length := by omega
    simp -dsimp -implicitDefEqProofs [hi2, hab]
end Go.Proofs.YtaljbebkooppiaaGreat.Sh

namespace Go.Proofs.YtaljbebkooppiaaGreat.Sh
open Go Go.RowKit
structure Kd where
  name : ByteArray
  weight : FR
  alone : FR
  worth : List FR
structure Ag where
  name : ByteArray
  kinds : List Kd
structure Nd where
  kind : Int
  agent : Int
  other : Int
  bound : FR
  outs : List Int
  swap : List Int
structure Gm where
  agents : List Ag
  outs : List ByteArray
  pay : Bool
  lots : Bool
  aim : Int
  needs : List Nd
structure Ce where
  lot : List FR
  pay : List FR
@[simp] def strsS (l : List ByteArray) : S1 := .sl true 1 (l.map fun s => [.str s])
@[simp] def rowKd (k : Kd) : List S1 := .str k.name :: (rowFr k.weight ++ rowFr k.alone ++ [frsS k.worth])
@[simp] def kdsS (l : List Kd) : S1 := .sl true 8 (l.map rowKd)
@[simp] def rowAg (a : Ag) : List S1 := [.str a.name, kdsS a.kinds]
@[simp] def agsS (l : List Ag) : S1 := .sl true 2 (l.map rowAg)
@[simp] def rowNd (n : Nd) : List S1 := .int .i64 n.kind :: .int .i64 n.agent :: .int .i64 n.other :: (rowFr n.bound ++ [intsS n.outs, intsS n.swap])
@[simp] def ndsS (l : List Nd) : S1 := .sl true 8 (l.map rowNd)
@[simp] def rowGm (g : Gm) : List S1 := [agsS g.agents, strsS g.outs, .bool g.pay, .bool g.lots, .int .i64 g.aim, ndsS g.needs]
@[simp] def rowCe (c : Ce) : List S1 := [frsS c.lot, frsS c.pay]
@[simp] def cesS (l : List Ce) : S1 := .sl true 2 (l.map rowCe)
@[simp] def gmS (g : Gm) : SV := .agg (rowGm g)
@[simp] def ruS (r : List Ce) : SV := .agg [cesS r]
@[simp] def ceS (c : Ce) : SV := .agg (rowCe c)
@[simp] def agS (a : Ag) : SV := .agg (rowAg a)
@[simp] def ndS (n : Nd) : SV := .agg (rowNd n)
def lenOk {α : Type} (l : List α) : Prop := l.length ≤ 140737488355328
def Kd.ok (k : Kd) : Prop := k.name.size ≤ 140737488355328 ∧ k.weight.ok ∧ k.alone.ok ∧ lenOk k.worth ∧ ∀ f ∈ k.worth, f.ok
def Ag.ok (a : Ag) : Prop := a.name.size ≤ 140737488355328 ∧ lenOk a.kinds ∧ ∀ k ∈ a.kinds, k.ok
def In64 (x : Int) : Prop := -9223372036854775808 ≤ x ∧ x < 9223372036854775808
def Nd.ok (n : Nd) : Prop := In64 n.kind ∧ In64 n.agent ∧ In64 n.other ∧ n.bound.ok ∧ lenOk n.outs ∧ lenOk n.swap ∧ InI n.outs ∧ InI n.swap
structure Gm.ok (g : Gm) : Prop where
  la : lenOk g.agents
  lo : lenOk g.outs
  ln : lenOk g.needs
  a : ∀ a ∈ g.agents, a.ok
  o : ∀ s ∈ g.outs, s.size ≤ 140737488355328
  n : ∀ n ∈ g.needs, n.ok
  aim : In64 g.aim
def Ce.ok (c : Ce) : Prop := lenOk c.lot ∧ lenOk c.pay ∧ (∀ f ∈ c.lot, f.ok) ∧ ∀ f ∈ c.pay, f.ok
theorem foldl_take {α β : Type} (f : β → α → β) (z : β) (l : List α) (i : Nat) (h : i < l.length) : (l.take (i + 1)).foldl f z = f ((l.take i).foldl f z) l[i] := by
  rw [List.take_add_one, List.getElem?_eq_getElem h, List.foldl_append]; rfl
abbrev W64 (x : Int) : Int := IntKind.i64.wrap x
def bigsW (l : List FR) : Int := l.foldl (fun n f => W64 (n + (f.big : Int))) 0
set_option maxRecDepth 20000 in
theorem bigs_s (l : List FR) (hl : ∀ f ∈ l, f.ok) (h1 : lenOk l) : CallsS Tryz.prog 137 [.one (frsS l)] (I .i64 (bigsW l)) := by
  unfold lenOk at h1
  refine calls Tryz.func137 rfl (by rfl) (by rfl) (by kernel_rfl) ?_
  simp -dsimp -implicitDefEqProofs [Tryz.f137]
  refine sw_loop_e (fun p : {p : Nat // p ≤ l.length} => SS.of [(0, .v (.one (frsS l))), (3, I .i64 (bigsW (l.take p.1))), (4, I .i64 p.1)] [] 0)
    (fun p => l.length - p.1) ⟨0, Nat.zero_le _⟩ (by kernel_rfl) (Le.to (by simp [bigsW]) (by simp) (by simp)) ?_
  rintro ⟨i, hi⟩
  by_cases a1 : i < l.length
  · have wi : IntKind.i64.wrap ((i : Int) + 1) = ((i + 1 : Nat) : Int) := by rw [wrap_i64 _ (by omega) (by omega)]; rfl
    have ht : bigsW (l.take (i + 1)) = W64 (bigsW (l.take i) + (l[i].big : Int)) := foldl_take _ _ l i a1
    simp -dsimp -implicitDefEqProofs [a1, wi]
    refine eCall.of (big_s l[i] (hl _ (List.getElem_mem a1))) (by simp) ?_
    simp -dsimp -implicitDefEqProofs
    exact Again.by ⟨i + 1, a1⟩ (Le.to (by simp [wi, ht]) (by simp) (by simp)) (by simp; omega)
  · have hi2 : i = l.length := by omega
    subst hi2
    simp -dsimp -implicitDefEqProofs
def beyO (g : Gm) : Int := g.outs.foldl (fun n s => W64 (n + (s.size : Int))) 0
def beyK (n : Int) (k : Kd) : Int := W64 (W64 (W64 (W64 (W64 (n + (k.name.size : Int)) + (k.worth.length : Int)) + (k.weight.big : Int)) + (k.alone.big : Int)) + bigsW k.worth)
def beyN (n : Int) (a : Ag) : Int := W64 (W64 (n + (a.name.size : Int)) + (a.kinds.length : Int))
def beyA (n : Int) (a : Ag) : Int := a.kinds.foldl beyK (beyN n a)
def beyD (n : Int) (d : Nd) : Int := W64 (W64 (W64 (n + (d.outs.length : Int)) + (d.swap.length : Int)) + (d.bound.big : Int))
def beyond (g : Gm) : Bool :=
  decide (100 < g.agents.length) || decide (100 < g.outs.length) || decide (100 < g.needs.length) ||
  g.agents.any (fun a => decide (100 < a.kinds.length)) || decide (20000 < g.needs.foldl beyD (g.agents.foldl beyA (beyO g)))
theorem beyond_len {g : Gm} (h : beyond g = false) : g.agents.length ≤ 100 ∧ g.outs.length ≤ 100 ∧ g.needs.length ≤ 100 ∧ ∀ a ∈ g.agents, a.kinds.length ≤ 100 := by
  unfold beyond at h
  simp only [Bool.or_eq_false_iff, decide_eq_false_iff_not, List.any_eq_false, decide_eq_true_eq] at h
  obtain ⟨⟨⟨⟨h1, h2⟩, h3⟩, h4⟩, -⟩ := h
  exact ⟨by omega, by omega, by omega, fun a ha => by have := h4 a ha; omega⟩
set_option maxRecDepth 20000 in
theorem beyond_s (g : Gm) (hg : g.ok) : CallsS Tryz.prog 74 [gmS g] (B (beyond g)) := by
  obtain ⟨ga, go, gn, hA, hO, hN, -⟩ := hg
  refine calls Tryz.func74 rfl (by rfl) (by rfl) (by kernel_rfl) ?_
  by_cases l1 : (100 : Int) < (g.agents.length : Int)
  · have hb : beyond g = true := by unfold beyond; rw [decide_eq_true (show 100 < g.agents.length by omega)]; simp
    simp -dsimp -implicitDefEqProofs [Tryz.f74, l1, hb]
  by_cases l2 : (100 : Int) < (g.outs.length : Int)
  · have hb : beyond g = true := by unfold beyond; rw [decide_eq_true (show 100 < g.outs.length by omega)]; simp
    simp -dsimp -implicitDefEqProofs [Tryz.f74, l1, l2, hb]
  by_cases l3 : (100 : Int) < (g.needs.length : Int)
  · have hb : beyond g = true := by unfold beyond; rw [decide_eq_true (show 100 < g.needs.length by omega)]; simp
    simp -dsimp -implicitDefEqProofs [Tryz.f74, l1, l2, l3, hb]
  simp -dsimp -implicitDefEqProofs [Tryz.f74, l1, l2, l3]
  refine sw_loop_e (fun p : {p : Nat // p ≤ g.outs.length} => SS.of [(1, .v (.one (.mp 0 0))), (3, I .i64 ((g.outs.take p.1).foldl (fun n s => W64 (n + (s.size : Int))) 0)), (4, I .i64 p.1)] [(0, ⟨31, rowGm g⟩)] 1)
    (fun p => g.outs.length - p.1) ⟨0, Nat.zero_le _⟩ (by kernel_rfl) (Le.to (by simp) (by simp) (by simp)) ?_
  rintro ⟨i, hi⟩
  by_cases a1 : i < g.outs.length
  · have wi : IntKind.i64.wrap ((i : Int) + 1) = ((i + 1 : Nat) : Int) := by rw [wrap_i64 _ (by omega) (by omega)]; rfl
    have ht := foldl_take (fun n (s : ByteArray) => W64 (n + (s.size : Int))) 0 g.outs i a1
    simp -dsimp -implicitDefEqProofs [a1, wi]
    exact Again.by ⟨i + 1, a1⟩ (Le.to (by simp [wi, ht]) (by simp) (by simp)) (by simp; omega)
  have hi2 : i = g.outs.length := by omega
  subst hi2
  rw [List.take_length]
  simp -dsimp -implicitDefEqProofs
  refine sw_loop_e (fun p : {p : Nat × Nat // p.1 ≤ g.agents.length ∧ ∀ a ∈ g.agents.take p.1, ¬ 100 < a.kinds.length} => SS.of [(1, .v (.one (.mp 0 0))), (3, I .i64 ((g.agents.take p.1.1).foldl beyA (beyO g))), (5, I .i64 p.1.1)] [(0, ⟨31, rowGm g⟩)] (p.1.2 + 1))
    (fun p => g.agents.length - p.1.1) ⟨(0, 0), Nat.zero_le _, by simp⟩ (by kernel_rfl) (Le.to (by simp [beyO]) (by simp) (by simp)) ?_
  rintro ⟨⟨j, c⟩, hj, hp⟩
  simp only at hj hp
  by_cases a2 : j < g.agents.length
  · have wi : IntKind.i64.wrap ((j : Int) + 1) = ((j + 1 : Nat) : Int) := by rw [wrap_i64 _ (by omega) (by omega)]; rfl
    have ht := foldl_take beyA (beyO g) g.agents j a2
    have oa := hA _ (List.getElem_mem a2)
    by_cases l4 : (100 : Int) < (g.agents[j].kinds.length : Int)
    · have hb : beyond g = true := by
        unfold beyond
        simp only [Bool.or_eq_true]
        exact Or.inl (Or.inr (List.any_eq_true.2 ⟨_, List.getElem_mem a2, decide_eq_true (by omega)⟩))
      simp -dsimp -implicitDefEqProofs [a2, wi, l4, hb]
    simp -dsimp -implicitDefEqProofs [a2, wi, l4]
    refine sw_loop_e (fun p : {p : Nat × Nat // p.1 ≤ g.agents[j].kinds.length} => SS.of [(1, .v (.one (.mp 0 0))), (3, I .i64 ((g.agents[j].kinds.take p.1.1).foldl beyK (beyN ((g.agents.take j).foldl beyA (beyO g)) g.agents[j]))), (5, I .i64 j), (6, I .i64 p.1.1)] [(0, ⟨31, rowGm g⟩)] (p.1.2 + 1))
      (fun p => g.agents[j].kinds.length - p.1.1) ⟨(0, c), Nat.zero_le _⟩ (by kernel_rfl) (Le.to (by simp [beyN]) (by simp) (by simp)) ?_
    rintro ⟨⟨k, d⟩, hk⟩
    simp only at hk
    by_cases a3 : k < g.agents[j].kinds.length
    · have wk : IntKind.i64.wrap ((k : Int) + 1) = ((k + 1 : Nat) : Int) := by rw [wrap_i64 _ (by omega) (by omega)]; rfl
      have ht := foldl_take beyK (beyN ((g.agents.take j).foldl beyA (beyO g)) g.agents[j]) g.agents[j].kinds k a3
      obtain ⟨k1, k2, k3, k4, k5⟩ := oa.2.2 _ (List.getElem_mem a3)
      simp -dsimp -implicitDefEqProofs [a2, a3, wk]
      refine eCall.of (big_s g.agents[j].kinds[k].weight k2) (by simp) ?_
      simp -dsimp -implicitDefEqProofs
      refine eCall.of (big_s g.agents[j].kinds[k].alone k3) (by simp) ?_
      simp -dsimp -implicitDefEqProofs
      refine eCall.of (bigs_s g.agents[j].kinds[k].worth k5 k4) (by simp) ?_
      simp -dsimp -implicitDefEqProofs
      exact Again.by ⟨(k + 1, d + 1), a3⟩ (Le.to (by simp [wk, ht, beyK]) (by simp) (by simp)) (by simp; omega)
    have hk2 : k = g.agents[j].kinds.length := by omega
    subst hk2
    simp -dsimp -implicitDefEqProofs [a2]
    refine Again.by ⟨(j + 1, d), a2, ?_⟩ (Le.to (by simp [wi, ht, beyA]) (by simp) (by simp)) (by simp; omega)
    intro a ha
    rw [List.take_add_one, List.getElem?_eq_getElem a2] at ha
    rcases List.mem_append.1 ha with ha | ha
    · exact hp a ha
    · simp at ha; subst ha; omega
  have hj2 : j = g.agents.length := by omega
  subst hj2
  rw [List.take_length] at hp
  simp -dsimp -implicitDefEqProofs
  refine sw_loop_e (fun p : {p : Nat // p ≤ g.needs.length} => SS.of [(1, .v (.one (.mp 0 0))), (3, I .i64 ((g.needs.take p.1).foldl beyD (g.agents.foldl beyA (beyO g)))), (8, I .i64 p.1)] [(0, ⟨31, rowGm g⟩)] (c + 1))
    (fun p => g.needs.length - p.1) ⟨0, Nat.zero_le _⟩ (by kernel_rfl) (Le.to (by simp) (by simp) (by simp)) ?_
  rintro ⟨i, hi⟩
  by_cases a1 : i < g.needs.length
  · have wi : IntKind.i64.wrap ((i : Int) + 1) = ((i + 1 : Nat) : Int) := by rw [wrap_i64 _ (by omega) (by omega)]; rfl
    have ht := foldl_take beyD (g.agents.foldl beyA (beyO g)) g.needs i a1
    obtain ⟨-, -, -, n1, n2, n3, -, -⟩ := hN _ (List.getElem_mem a1)
    simp -dsimp -implicitDefEqProofs [a1, wi]
    refine eCall.of (big_s g.needs[i].bound n1) (by simp) ?_
    simp -dsimp -implicitDefEqProofs
    exact Again.by ⟨i + 1, a1⟩ (Le.to (by simp [wi, ht, beyD]) (by simp) (by simp)) (by simp; omega)
  have hi2 : i = g.needs.length := by omega
  subst hi2
  have hb : beyond g = decide (20000 < g.needs.foldl beyD (g.agents.foldl beyA (beyO g))) := by
    unfold beyond
    rw [decide_eq_false (show ¬ 100 < g.agents.length by omega), decide_eq_false (show ¬ 100 < g.outs.length by omega), decide_eq_false (show ¬ 100 < g.needs.length by omega), List.any_eq_false.2 (fun a ha => by simpa using hp a ha)]
    rfl
  simp -dsimp -implicitDefEqProofs [hb]
end Go.Proofs.YtaljbebkooppiaaGreat.Sh

namespace Go.Proofs.YtaljbebkooppiaaGreat.Sh
open Go Go.RowKit
def farK (k : Kd) : Bool := decide ((3 : Int) < k.weight.big) || decide ((3 : Int) < k.alone.big) || wideF 3 k.worth
def farA (a : Ag) : Bool := a.kinds.any farK
def far (g : Gm) : Bool := beyond g || g.agents.any farA || g.needs.any fun n => decide ((3 : Int) < n.bound.big)
def bruN (n : Int) (c : Ce) : Int := W64 (W64 (n + (c.lot.length : Int)) + (c.pay.length : Int))
def bruW (c : Ce) : Bool := wideF 6 c.lot || wideF 6 c.pay
def beyondRule (r : List Ce) : Bool := r.any bruW || decide (100 < r.length) || decide (20000 < r.foldl bruN 0)
end Go.Proofs.YtaljbebkooppiaaGreat.Sh

