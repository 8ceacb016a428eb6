/- A part of the proof: W22, W23, R1, R2, R3, R4 -/
import Derived.Test.YtaljbebkooppiaaGreatV13
set_option linter.unusedSimpArgs false
set_option linter.unusedVariables false
set_option linter.unusedSectionVars false
namespace Go.Proofs.YtaljbebkooppiaaGreat.Sh
open Go Go.RowKit
theorem rowsOf_append (k : IntKind) (l : List Int) (r : List S1) (n : Nat) (h : n = l.length) : rowsOf (List.map (fun x => S1.int k x) l ++ r) 0 1 n = l.map fun x => [S1.int k x] := by
  subst h
  unfold rowsOf
  apply List.ext_getElem
  · simp
  · intro i h1 h2
    simp at h1
    simp only [List.getElem_map, List.getElem_range, Nat.zero_add, Nat.mul_one]
    rw [List.drop_eq_getElem_cons (by simp; omega), List.getElem_append_left (by simpa using h1)]
    simp
theorem top_bit (z : Int) (h0 : 0 ≤ z) (h1 : z < 4294967296) : bitsOf .and .u32 z 2147483648 = if 2147483648 ≤ z then 2147483648 else 0 := by
  obtain ⟨n, rfl⟩ := Int.eq_ofNat_of_zero_le h0
  have e : (BitVec.ofInt 32 (n : Int) &&& BitVec.ofInt 32 2147483648).toNat = if 2147483648 ≤ n then 2147483648 else 0 := by
    rw [BitVec.toNat_and, BitVec.toNat_ofInt, BitVec.toNat_ofInt]
    have : ((n : Int) % ((2 ^ 32 : Nat) : Int)).toNat = n := by omega
    rw [this]
    have e2 : ((2147483648 : Int) % ((2 ^ 32 : Nat) : Int)).toNat = 2 ^ 31 := by decide
    rw [e2]
    apply Nat.eq_of_testBit_eq
    intro i
    rw [Nat.testBit_and, Nat.testBit_two_pow]
    by_cases hi : 31 = i
    · subst hi
      rw [decide_eq_true (rfl : 31 = 31), Bool.and_true, Nat.testBit_eq_decide_div_mod_eq]
      split
      · rename_i h; rw [show n / 2 ^ 31 = 1 by omega]; decide
      · rename_i h; rw [show n / 2 ^ 31 = 0 by omega]; decide
    · rw [decide_eq_false hi, Bool.and_false]
      split
      · show false = (2 ^ 31 : Nat).testBit i
        rw [Nat.testBit_two_pow, decide_eq_false hi]
      · simp
  show IntKind.u32.wrap (BitVec.ofInt 32 (n : Int) &&& BitVec.ofInt 32 2147483648).toNat = _
  rw [e]
  by_cases h : 2147483648 ≤ n
  · rw [if_pos h, if_pos (by omega)]; decide
  · rw [if_neg h, if_neg (by omega)]; decide
theorem top_shift {t s k : Nat} (ht : t ≠ 0) (hs : bitLen t + s = 32) (hk : k ≤ s) : (t : Int) * 2 ^ k < 4294967296 ∧ (2147483648 ≤ (t : Int) * 2 ^ k ↔ k = s) := by
  obtain ⟨l1, l2⟩ := bitLen_spec ht
  have hbl : 1 ≤ bitLen t := by unfold bitLen; rw [if_neg ht]; omega
  have cast : (t : Int) * 2 ^ k = ((t * 2 ^ k : Nat) : Int) := by simp
  rw [cast]
  have u1 : t * 2 ^ k < 2 ^ (bitLen t + k) := by rw [Nat.pow_add]; exact Nat.mul_lt_mul_of_pos_right l2 (Nat.two_pow_pos k)
  have u2 : 2 ^ (bitLen t + k) ≤ 2 ^ 32 := Nat.pow_le_pow_right (by decide) (by omega)
  refine ⟨by omega, fun h => ?_, fun h => ?_⟩
  · rcases Nat.lt_or_ge k s with hc | hc
    · have u3 : 2 ^ (bitLen t + k) ≤ 2 ^ 31 := Nat.pow_le_pow_right (by decide) (by omega)
      omega
    · omega
  · subst h
    have u4 : 2 ^ (bitLen t - 1) * 2 ^ k ≤ t * 2 ^ k := Nat.mul_le_mul_right _ l1
    rw [← Nat.pow_add, show bitLen t - 1 + k = 31 by omega] at u4
    omega
set_option maxRecDepth 20000 in
set_option maxHeartbeats 4000000 in
theorem parts_s (a b : Nat) (hb : b ≠ 0) (h1 : (toW a).length ≤ 17592186044416) (h2' : (toW b).length ≤ 17592186044416) : CallsS Tryz.prog 178 [.one (nS a), .one (nS b)] (.v (.agg [nS (a / b), nS (a % b)])) := by
  by_cases hab : a < b
  · rw [Nat.div_eq_of_lt hab, Nat.mod_eq_of_lt hab]
    refine calls Tryz.func178 rfl (by rfl) (by rfl) (by kernel_rfl) ?_
    simp -dsimp -implicitDefEqProofs [Tryz.f178]
    refine eCall.of (order_s a b (by omega) (by omega)) (by simp) ?_
    simp -dsimp -implicitDefEqProofs [cmpN_lt hab, toW_zero]
  have h2 : (toW b).length ≤ (toW a).length := len_mono (by omega)
  have hc : ¬ cmpN a b < 0 := by unfold cmpN; rw [if_neg hab]; split <;> decide
  refine calls Tryz.func178 rfl (by rfl) (by rfl) (by kernel_rfl) ?_
  simp -dsimp -implicitDefEqProofs [Tryz.f178]
  refine eCall.of (order_s a b (by omega) (by omega)) (by simp) ?_
  simp -dsimp -implicitDefEqProofs [hc]
  by_cases hb1 : (toW b).length = 1
  · obtain ⟨b1, b2⟩ := one_word hb hb1
    have b3 : (toW b)[0] = (b : Int) := by rw [List.getElem_eq_iff]; exact b2
    have hb1' : ((toW b).length : Int) = 1 := by omega
    simp -dsimp -implicitDefEqProofs [hb1, hb1', b2, b3]
    refine eCall.of (halves_s (toW a) b (toW_inW a) (by omega) (by omega) (by omega)) (by simp) ?_
    have e1 : (val (toW a) / (b : Int)).toNat = a / b := by rw [val_toW]; exact Int.toNat_natCast (a / b)
    have e2 : val (toW a) % (b : Int) = ((a % b : Nat) : Int) := by rw [val_toW]; rfl
    have e3 : a % b < b := Nat.mod_lt _ (by omega)
    rw [e1, e2]
    simp -dsimp -implicitDefEqProofs [slots, rowsOf]
    have ht := trimR_s [(a : Int) % b] (by rw [show (a : Int) % b = ((a % b : Nat) : Int) from rfl]; exact InW.cons (by omega) (by omega) InW.nil) (by simp)
    rw [show (val [(a : Int) % b]).toNat = a % b by rw [val_cons, val_nil, Int.mul_zero, Int.add_zero]; exact Int.toNat_natCast (a % b)] at ht
    refine eCall.of ht (by simp) ?_
    simp -dsimp -implicitDefEqProofs
  · have hb0 : (toW b).length ≠ 0 := by intro h; exact hb (toW_eq_nil.1 (List.length_eq_zero_iff.1 h))
    have hb1' : ¬ ((toW b).length : Int) = 1 := by omega
    generalize hn : (toW b).length = n at *
    have w1 : IntKind.i64.wrap ((n : Int) - 1) = ((n - 1 : Nat) : Int) := by rw [wrap_i64 _ (by omega) (by omega)]; omega
    have w2 : IntKind.i64.wrap ((n : Int) - 2) = ((n - 2 : Nat) : Int) := by rw [wrap_i64 _ (by omega) (by omega)]; omega
    have g1 : (toW b)[n - 1]? = some (at0 (toW b) (n - 1)) := by rw [at0_lt (by omega), List.getElem?_eq_getElem]
    have aw := at0_W (toW_inW b) (n - 1)
    obtain ⟨t, ht⟩ := Int.eq_ofNat_of_zero_le aw.1
    have ht' : at0 (toW b) (n - 1) = (t : Int) := ht
    clear ht
    rw [ht'] at g1 aw
    obtain ⟨s, hs⟩ : ∃ s, bitLen t + s = 32 := ⟨32 - bitLen t, by have := bitLen_le (n := t) (k := 32) (by omega); omega⟩
    obtain ⟨hs32, hv⟩ := norm_of (s := s) hn (by omega) (by rw [ht']; exact hs)
    have ht0 : t ≠ 0 := by rintro rfl; simp [bitLen] at hs; omega
    simp -dsimp -implicitDefEqProofs [hb1', hn]
    refine sw_loop_e (fun p : {p : Nat // p ≤ s} => SS.of [(0, .v (.one (nS a))), (1, .v (.one (nS b))), (4, .v (.one (.mp 0 0))), (7, I .u64 p.1)] [(0, ⟨234, [.nils, .nils]⟩)] 1)
      (fun p => s - p.1) ⟨0, Nat.zero_le _⟩ (by kernel_rfl) (Le.to (by simp) (by simp) (by simp)) ?_
    rintro ⟨k, hk⟩
    obtain ⟨tl, ti⟩ := top_shift ht0 hs hk
    have hmin : min k IntKind.u32.bits = k := by simp [IntKind.bits]; omega
    have tw : IntKind.u32.wrap ((t : Int) * 2 ^ k) = (t : Int) * 2 ^ k := wrap_u32_id _ (Int.mul_nonneg (by omega) (Int.le_of_lt (two_pos k))) tl
    have tb := top_bit ((t : Int) * 2 ^ k) (Int.mul_nonneg (by omega) (Int.le_of_lt (two_pos k))) tl
    have wk : IntKind.u64.wrap ((k : Int) + 1) = (k : Int) + 1 := wrap_u64_id _ (by omega) (by omega)
    by_cases hks : k = s
    · rw [if_pos (ti.2 hks)] at tb
      subst hks
      simp -dsimp -implicitDefEqProofs [hn, w1, g1, hmin, tw, tb]
      refine ⟨by omega, ?_⟩
      clear tb tw ti tl hk wk hmin
      -- the divisor, shifted
      have hbs : ((b : Int) * 2 ^ k) = ((b * 2 ^ k : Nat) : Int) := by simp
      have hlt := toW_lt (b * 2 ^ k)
      rw [hv.len] at hlt
      have hvb : toW (b * 2 ^ k) ++ [0] = padW (n + 1) (val (toW b) * 2 ^ k) := by
        rw [val_toW, hbs]
        refine padW_eq ((toW_inW _).append (InW.cons (by omega) (by omega) InW.nil)) (by simp [hv.len]) ?_
        rw [val_snoc, val_toW, Int.mul_zero, Int.add_zero]
      have hsb := shift_s (toW b) k hs32 (toW_inW b) (by omega)
      rw [hn, ← hvb] at hsb
      refine eCall.lend [] hsb (by simp) (by simp) (by simp) ?_
      simp -dsimp -implicitDefEqProofs
      refine ⟨by omega, ?_⟩
      have hsa := shift_s (toW a) k hs32 (toW_inW a) (by omega)
      rw [val_toW] at hsa
      obtain ⟨m, hm⟩ : ∃ m, (toW a).length + 1 = m + n := ⟨(toW a).length + 1 - n, by omega⟩
      have st := LongInv.start (a := a) hn hs32 hv (by omega)
      rw [show (toW a).length + 1 - n = m by omega] at st
      generalize padW ((toW a).length + 1) ((a : Int) * 2 ^ k) = u0 at st hsa
      refine eCall.lend [] hsa (by simp) (by simp) (by simp) ?_
      have wm0 : IntKind.i64.wrap (((toW a).length : Int) - n) = (m : Int) - 1 := by rw [wrap_i64 _ (by omega) (by omega)]; omega
      have wm : IntKind.i64.wrap (m : Int) = (m : Int) := wrap_i64 _ (by omega) (by omega)
      simp -dsimp -implicitDefEqProofs [wm0, wm]
      refine ⟨by omega, ?_⟩
      generalize hvg : toW (b * 2 ^ k) = v at *
      have hvlen := hv.len
      refine sw_loop_e (fun p : {p : Nat × List Int × List Int // LongInv ((a : Int) * 2 ^ k) (val v) n p.1 p.2.1 p.2.2 ∧ p.2.2.length = m} => SS.of [(4, .v (.one (.mp 0 0))), (7, I .u64 k), (8, I .i64 n), (9, .v (.one (wS v))), (10, .v (.one (.ms 2 0 ((toW a).length + 1) 1 true))), (11, .v (.one (.ms 3 0 m 1 true))), (12, I .i64 ((p.1.1 : Int) - 1))] [(0, ⟨234, [.nils, .nils]⟩), (2, oS p.1.2.1), (3, oS p.1.2.2)] 4)
        (fun p => p.1.1) ⟨(m, _, _), st, by simp⟩ (by kernel_rfl) (Le.fzF [1] (Le.to (by simp [rowsOf_append, hvlen]) (by simp) (by simp))) ?_
      rintro ⟨⟨j, l, q⟩, hj, hq⟩
      simp only at hj hq
      have hul := hj.lu
      have hkq := hj.hk
      have hul2 : l.length = (toW a).length + 1 := by omega
      by_cases j0 : j = 0
      · subst j0
        simp -dsimp -implicitDefEqProofs [hq]
        obtain ⟨r1, r2, r3⟩ := long_res (a := a) (b := b) (s := k) hb rfl (V := val v) (by rw [← hvg]; exact val_toW _)
        obtain ⟨d1, d2⟩ := hj.done r3
        have t1 := trimR_s q hj.iq (by omega)
        rw [d1, r1, Int.toNat_natCast] at t1
        refine eCall.of t1 (by simp) ?_
        simp -dsimp -implicitDefEqProofs [hul2]
        have t2 := back_s l k hs32 hj.iu (by omega)
        rw [d2, r2, Int.toNat_natCast] at t2
        refine eCall.of t2 (by simp) ?_
        simp -dsimp -implicitDefEqProofs
      · obtain ⟨j, rfl⟩ : ∃ i, j = i + 1 := ⟨j - 1, by omega⟩
        have ej : (((j + 1 : Nat) : Int) - 1) = (j : Int) := by omega
        obtain ⟨h, w2', w3⟩ := hj.win hv
        have n2 := h.n2
        have hfit := h.fit
        have a1 := at0_W h.inv (n - 1)
        have a2 := at0_W h.inv (n - 2)
        have a3 := at0_W h.inl (j + n)
        have a4 := at0_W h.inl (j + (n - 1))
        have a5 := at0_W h.inl (j + (n - 2))
        have x1 : IntKind.i64.wrap ((j : Int) + n) = (j : Int) + n := wrap_i64 _ (by omega) (by omega)
        have x2 : IntKind.i64.wrap ((j : Int) + n - 1) = (j : Int) + n - 1 := wrap_i64 _ (by omega) (by omega)
        have x3 : IntKind.i64.wrap ((j : Int) + n - 2) = (j : Int) + n - 2 := wrap_i64 _ (by omega) (by omega)
        have z1 : ((j : Int) + n).toNat = j + n := by omega
        have z2 : ((j : Int) + n - 1).toNat = j + (n - 1) := by omega
        have z3 : ((j : Int) + n - 2).toNat = j + (n - 2) := by omega
        have g1 : l[j + n]? = some (at0 l (j + n)) := by rw [at0_lt (by omega), List.getElem?_eq_getElem]
        have g2 : l[j + (n - 1)]? = some (at0 l (j + (n - 1))) := by rw [at0_lt (by omega), List.getElem?_eq_getElem]
        have g3 : l[j + (n - 2)]? = some (at0 l (j + (n - 2))) := by rw [at0_lt (by omega), List.getElem?_eq_getElem]
        have g4 : v[n - 1]? = some (at0 v (n - 1)) := by rw [at0_lt (by omega), List.getElem?_eq_getElem]
        have g5 : v[n - 2]? = some (at0 v (n - 2)) := by rw [at0_lt (by omega), List.getElem?_eq_getElem]
        have hwv : IntKind.u64.wrap (at0 v (n - 1)) = at0 v (n - 1) := wrap_u64_id _ (by omega) (by omega)
        have htop := h.top
        simp -dsimp -implicitDefEqProofs [ej, w1, x1, x2, z1, z2, g1, g2, g4, hul2, hvlen, hwv]
        refine ⟨by omega, by omega, by omega, by omega, by omega, by omega, ?_⟩
        refine sw_cut (fun g : {g : Int // (0 ≤ g ∧ g < 4294967296) ∧ (g - 1) * val v ≤ wv l j (n + 1) ∧ wv l j (n + 1) < (g + 1) * val v} => SS.of [(4, .v (.one (.mp 0 0))), (7, I .u64 k), (8, I .i64 n), (9, .v (.one (wS v))), (10, .v (.one (.ms 2 0 ((toW a).length + 1) 1 true))), (11, .v (.one (.ms 3 0 m 1 true))), (12, I .i64 j), (14, I .u64 g.1)] [(0, ⟨234, [.nils, .nils]⟩), (2, oS l), (3, oS q)] 4) ?_ ?_
        · refine sw_loop_e (fun p : {p : Int × Int // Guess v l j n p.1 p.2 ∧ p.2 < 4294967296} => SS.of [(4, .v (.one (.mp 0 0))), (7, I .u64 k), (8, I .i64 n), (9, .v (.one (wS v))), (10, .v (.one (.ms 2 0 ((toW a).length + 1) 1 true))), (11, .v (.one (.ms 3 0 m 1 true))), (12, I .i64 j), (14, I .u64 p.1.1), (15, I .u64 p.1.2)] [(0, ⟨234, [.nils, .nils]⟩), (2, oS l), (3, oS q)] 4)
            (fun p => p.1.1.toNat) ⟨(_, _), Guess.start h rfl⟩ (by kernel_rfl) (Le.to ?_ (by simp) (by simp)) ?_
          · have c1 : IntKind.u64.wrap (at0 l (j + n)) = at0 l (j + n) := wrap_u64_id _ (by omega) (by omega)
            have c2 : IntKind.u64.wrap (at0 l (j + (n - 1))) = at0 l (j + (n - 1)) := wrap_u64_id _ (by omega) (by omega)
            have c3 := shl32 (at0 l (j + n)) a3.1 a3.2
            have c4 := or_word (at0 l (j + n)) (at0 l (j + (n - 1))) a3.1 a3.2 a4.1 a4.2
            have gs := (Guess.start h rfl).1
            have c5 : (at0 l (j + n) * 4294967296 + at0 l (j + (n - 1))).tdiv (at0 v (n - 1)) = (at0 l (j + n) * 4294967296 + at0 l (j + (n - 1))) / at0 v (n - 1) := Int.tdiv_eq_ediv_of_nonneg (by omega)
            have c6 : (at0 l (j + n) * 4294967296 + at0 l (j + (n - 1))).tmod (at0 v (n - 1)) = (at0 l (j + n) * 4294967296 + at0 l (j + (n - 1))) % at0 v (n - 1) := Int.tmod_eq_emod_of_nonneg (by omega)
            have c7 : IntKind.u64.wrap ((at0 l (j + n) * 4294967296 + at0 l (j + (n - 1))) / at0 v (n - 1)) = (at0 l (j + n) * 4294967296 + at0 l (j + (n - 1))) / at0 v (n - 1) := wrap_u64_id _ gs.g0.1 (by have := gs.g0.2; omega)
            simp [c1, c2, c3, c4, hwv, c5, c6, c7, hul2, g1, g2, g4]
          rintro ⟨⟨g, r⟩, hg, hr⟩
          simp only at hg hr
          have k0 := hg.g0
          have k1 := hg.r0
          have k3 : IntKind.u64.wrap (at0 v (n - 2)) = at0 v (n - 2) := wrap_u64_id _ (by omega) (by omega)
          have k4 : IntKind.u64.wrap (at0 l (j + (n - 2))) = at0 l (j + (n - 2)) := wrap_u64_id _ (by omega) (by omega)
          have k5 : IntKind.u64.wrap (r * 2 ^ min 32 IntKind.u64.bits) = r * 4294967296 := shl32 r k1 hr
          have k6 : bitsOf .or .u64 (r * 4294967296) (at0 l (j + (n - 2))) = r * 4294967296 + at0 l (j + (n - 2)) := or_word _ _ k1 hr a5.1 a5.2
          have k7 : IntKind.u64.wrap (r + at0 v (n - 1)) = r + at0 v (n - 1) := wrap_u64_id _ (by omega) (by omega)
          by_cases hB : 4294967295 < g
          · obtain ⟨d1, d2⟩ := hg.down h (Or.inl (by omega))
            have k8 : IntKind.u64.wrap (g - 1) = g - 1 := wrap_u64_id _ (by omega) (by omega)
            simp -dsimp -implicitDefEqProofs [hvlen, w1, w2, x1, x3, z3, hul2, g3, g4, g5, hB, hwv, k3, k4, k5, k6, k7, k8]
            refine ⟨by omega, fun hs => ?_, fun hs => ?_⟩
            · obtain ⟨s1, s2⟩ := d1.stop h (by omega)
              exact Cut.by ⟨g - 1, ⟨by omega, by omega⟩, s2, d1.hi⟩ (Le.to (by simp) (by simp) (by simp))
            · exact Again.by ⟨(g - 1, r + at0 v (n - 1)), d1, by omega⟩ (Le.to (by simp) (by simp) (by simp)) (by simp; omega)
          · have k9 : IntKind.u64.wrap (g * at0 v (n - 2)) = g * at0 v (n - 2) := by
              have := prod_lt ⟨k0.1, by omega⟩ a2
              exact wrap_u64_id _ (by omega) (by omega)
            simp -dsimp -implicitDefEqProofs [hvlen, w1, w2, x1, x3, z3, hul2, g3, g4, g5, hB, hwv, k3, k4, k5, k6, k7, k9]
            refine ⟨by omega, by omega, fun hc => ⟨by omega, fun hs => ?_, fun hs => ?_⟩, fun hc => ?_⟩
            · obtain ⟨d1, d2⟩ := hg.down h (Or.inr hc)
              obtain ⟨s1, s2⟩ := d1.stop h (by omega)
              have k8 : IntKind.u64.wrap (g - 1) = g - 1 := wrap_u64_id _ (by omega) (by omega)
              exact Cut.by ⟨g - 1, ⟨by omega, by omega⟩, s2, d1.hi⟩ (Le.to (by simp [k8]) (by simp) (by simp))
            · obtain ⟨d1, d2⟩ := hg.down h (Or.inr hc)
              have k8 : IntKind.u64.wrap (g - 1) = g - 1 := wrap_u64_id _ (by omega) (by omega)
              exact Again.by ⟨(g - 1, r + at0 v (n - 1)), d1, by omega⟩ (Le.to (by simp [k8]) (by simp) (by simp)) (by simp; omega)
            · exact Cut.by ⟨g, ⟨k0.1, by omega⟩, hg.near h (by omega) hc, hg.hi⟩ (Le.to (by simp) (by simp) (by simp))
        · rintro ⟨g, hg, hg1, hg2⟩
          simp -dsimp -implicitDefEqProofs
          refine sw_loop_e (fun p : {p : Nat × List Int × Int × Int // SubInv l v j n g p.1 p.2.1 p.2.2.1 p.2.2.2 ∧ (p.1 = n + 1 → p.2.2.1 = 0)} => SS.of [(4, .v (.one (.mp 0 0))), (7, I .u64 k), (8, I .i64 n), (9, .v (.one (wS v))), (10, .v (.one (.ms 2 0 ((toW a).length + 1) 1 true))), (11, .v (.one (.ms 3 0 m 1 true))), (12, I .i64 j), (14, I .u64 g), (16, I .u64 p.1.2.2.1), (17, I .u64 p.1.2.2.2), (18, I .i64 p.1.1)] [(0, ⟨234, [.nils, .nils]⟩), (2, oS p.1.2.1), (3, oS q)] 4)
            (fun p => n + 1 - p.1.1) ⟨(0, l, 0, 0), SubInv.start h.inl j n g, fun _ => rfl⟩ (by kernel_rfl) (Le.to (by simp) (by simp) (by simp)) ?_
          rintro ⟨⟨i, u, c, bo⟩, hi, hin⟩
          simp only at hi hin
          obtain ⟨f1, f2, f3, f4, f5⟩ := hi.facts h.inv hg
          have hml : u.length = l.length := hi.w.len
          have hile := hi.hi
          by_cases a6 : i < n + 1
          · have q1 : u[j + i]? = some (at0 u (j + i)) := by rw [at0_lt (by omega), List.getElem?_eq_getElem]
            have wi : IntKind.i64.wrap ((i : Int) + 1) = ((i + 1 : Nat) : Int) := by rw [wrap_i64 _ (by omega) (by omega)]; rfl
            have wji : IntKind.i64.wrap ((j : Int) + i) = (j : Int) + i := wrap_i64 _ (by omega) (by omega)
            have tji : ((j : Int) + i).toNat = j + i := by omega
            have k6 : IntKind.u64.wrap (at0 u (j + i)) = at0 u (j + i) := wrap_u64_id _ (by omega) (by omega)
            have k7 : IntKind.u64.wrap (at0 u (j + i) + 4294967296) = at0 u (j + i) + 4294967296 := wrap_u64_id _ (by omega) (by omega)
            have a6' : i ≤ n := by omega
            by_cases a7 : i < n
            · have q2 : v[i]? = some (at0 v i) := by rw [at0_lt (by omega), List.getElem?_eq_getElem]
              have q3 : v[i] = at0 v i := (at0_lt (by omega)).symm
              have k1 : IntKind.u64.wrap (at0 v i) = at0 v i := wrap_u64_id _ (by omega) (by omega)
              have k2 : IntKind.u64.wrap (g * at0 v i) = g * at0 v i := wrap_u64_id _ (by omega) (by omega)
              have k3 : IntKind.u64.wrap (c + g * at0 v i) = c + g * at0 v i := wrap_u64_id _ (by omega) (by omega)
              have k4 : bitsOf .and .u64 (c + g * at0 v i) 4294967295 = (c + g * at0 v i) % 4294967296 := and_mask _ (by omega) (by omega)
              have k5 : IntKind.u64.wrap ((c + g * at0 v i) % 4294967296 + bo) = (c + g * at0 v i) % 4294967296 + bo := wrap_u64_id _ (by omega) (by omega)
              simp -dsimp -implicitDefEqProofs [hvlen, a6', a7, wi, wji, tji, hul2, hml, q1, q2, q3, k1, k2, k3, k4, k5, k6, k7, shr32]
              refine ⟨by omega, fun hc => ⟨by omega, by omega, ?_⟩, fun hc => ⟨by omega, by omega, ?_⟩⟩
              · have y1 : IntKind.u64.wrap (at0 u (j + i) + 4294967296 - ((c + g * at0 v i) % 4294967296 + bo)) = at0 u (j + i) + 4294967296 - ((c + g * at0 v i) % 4294967296 + bo) := wrap_u64_id _ (by omega) (by omega)
                have y2 := word_id (at0 u (j + i) + 4294967296 - ((c + g * at0 v i) % 4294967296 + bo)) (by omega) (by omega)
                exact Again.by ⟨(i + 1, _, _, 1), hi.step h.inv hg a6' hfit rfl rfl rfl (b' := 1) (Or.inr ⟨rfl, hc⟩) (y := at0 u (j + i) + 4294967296 - ((c + g * at0 v i) % 4294967296 + bo)) (by omega), by simp only; omega⟩ (Le.to (by simp) (by simp [y1, y2, tji]) (by simp)) (by simp; omega)
              · have y1 : IntKind.u64.wrap (at0 u (j + i) - ((c + g * at0 v i) % 4294967296 + bo)) = at0 u (j + i) - ((c + g * at0 v i) % 4294967296 + bo) := wrap_u64_id _ (by omega) (by omega)
                have y2 := word_id (at0 u (j + i) - ((c + g * at0 v i) % 4294967296 + bo)) (by omega) (by omega)
                exact Again.by ⟨(i + 1, _, _, 0), hi.step h.inv hg a6' hfit rfl rfl rfl (b' := 0) (Or.inl ⟨rfl, hc⟩) (y := at0 u (j + i) - ((c + g * at0 v i) % 4294967296 + bo)) (by omega), by simp only; omega⟩ (Le.to (by simp) (by simp [y1, y2, tji]) (by simp)) (by simp; omega)
            · have z0 : at0 v i = 0 := at0_ge (by omega)
              have k4 : bitsOf .and .u64 c 4294967295 = c := by rw [and_mask _ (by omega) (by omega)]; omega
              have k5 : IntKind.u64.wrap (c + bo) = c + bo := wrap_u64_id _ (by omega) (by omega)
              have k8 : c / 4294967296 = 0 := by omega
              simp -dsimp -implicitDefEqProofs [hvlen, a6', a7, wi, wji, tji, hul2, hml, q1, k4, k5, k6, k7, shr32, k8]
              refine ⟨by omega, fun hc => ⟨by omega, by omega, ?_⟩, fun hc => ⟨by omega, by omega, ?_⟩⟩
              · have y1 : IntKind.u64.wrap (at0 u (j + i) + 4294967296 - (c + bo)) = at0 u (j + i) + 4294967296 - (c + bo) := wrap_u64_id _ (by omega) (by omega)
                have y2 := word_id (at0 u (j + i) + 4294967296 - (c + bo)) (by omega) (by omega)
                exact Again.by ⟨(i + 1, _, 0, 1), hi.step h.inv hg a6' hfit (p := c) (t := c + bo) (c' := 0) (by rw [z0]; simp) (by omega) (by omega) (b' := 1) (Or.inr ⟨rfl, hc⟩) (y := at0 u (j + i) + 4294967296 - (c + bo)) (by omega), fun _ => rfl⟩ (Le.to (by simp) (by simp [y1, y2, tji]) (by simp)) (by simp; omega)
              · have y1 : IntKind.u64.wrap (at0 u (j + i) - (c + bo)) = at0 u (j + i) - (c + bo) := wrap_u64_id _ (by omega) (by omega)
                have y2 := word_id (at0 u (j + i) - (c + bo)) (by omega) (by omega)
                exact Again.by ⟨(i + 1, _, 0, 0), hi.step h.inv hg a6' hfit (p := c) (t := c + bo) (c' := 0) (by rw [z0]; simp) (by omega) (by omega) (b' := 0) (Or.inl ⟨rfl, hc⟩) (y := at0 u (j + i) - (c + bo)) (by omega), fun _ => rfl⟩ (Le.to (by simp) (by simp [y1, y2, tji]) (by simp)) (by simp; omega)
          · have hin' : i = n + 1 := by omega
            subst hin'
            have c0 := hin rfl
            subst c0
            have a6' : ¬ n + 1 ≤ n := by omega
            have a6'' : ¬ ((n : Int) + 1 ≤ n) := by omega
            have wj6 : IntKind.i64.wrap ((j : Int) - 1) = (j : Int) - 1 := wrap_i64 _ (by omega) (by omega)
            have qlt : j < q.length := by omega
            have lst := hj.step hv
            rcases hi.b0 with rfl | rfl
            · obtain ⟨r1, r2⟩ := hi.right (by omega) h.pos hg2
              have r3 := hi.w.done (by omega) r2
              rw [r1, ← r3] at lst
              have k8 : IntKind.u32.wrap g = g := wrap_u32_id _ (by omega) (by omega)
              simp -dsimp -implicitDefEqProofs [a6', a6'', hq]
              refine ⟨by omega, by omega, ?_⟩
              exact Again.by ⟨(j, u, _), lst, by simp [hq]⟩ (Le.to (by simp [wj6]) (by simp [k8]) (by simp)) (by simp)
            · simp -dsimp -implicitDefEqProofs [a6', a6'']
              refine sw_loop_e (fun p : {p : Nat × List Int × Int // AddInv u v j n p.1 p.2.1 p.2.2} => SS.of [(4, .v (.one (.mp 0 0))), (7, I .u64 k), (8, I .i64 n), (9, .v (.one (wS v))), (10, .v (.one (.ms 2 0 ((toW a).length + 1) 1 true))), (11, .v (.one (.ms 3 0 m 1 true))), (12, I .i64 j), (14, I .u64 (IntKind.u64.wrap (g - 1))), (22, I .u64 p.1.2.2), (23, I .i64 p.1.1)] [(0, ⟨234, [.nils, .nils]⟩), (2, oS p.1.2.1), (3, oS q)] 4)
                (fun p => n + 1 - p.1.1) ⟨(0, u, 0), AddInv.start hi.w.inw j n⟩ (by kernel_rfl) (Le.to (by simp) (by simp) (by simp)) ?_
              rintro ⟨⟨i, m2, d⟩, ha⟩
              simp only at ha
              have e1 := at0_W ha.w.inw (j + i)
              have e2 := at0_W h.inv i
              have e3 := ha.c0
              have hm2 : m2.length = u.length := ha.w.len
              have hile := ha.hi
              by_cases b1 : i < n + 1
              · have q5 : m2[j + i]? = some (at0 m2 (j + i)) := by rw [at0_lt (by omega), List.getElem?_eq_getElem]
                have wi : IntKind.i64.wrap ((i : Int) + 1) = ((i + 1 : Nat) : Int) := by rw [wrap_i64 _ (by omega) (by omega)]; rfl
                have wji : IntKind.i64.wrap ((j : Int) + i) = (j : Int) + i := wrap_i64 _ (by omega) (by omega)
                have tji : ((j : Int) + i).toNat = j + i := by omega
                have p2 : IntKind.u64.wrap (at0 m2 (j + i)) = at0 m2 (j + i) := wrap_u64_id _ (by omega) (by omega)
                have p3 : IntKind.u64.wrap (at0 m2 (j + i) + d) = at0 m2 (j + i) + d := wrap_u64_id _ (by omega) (by omega)
                have b1' : i ≤ n := by omega
                have hm3 : m2.length = (toW a).length + 1 := by omega
                by_cases b2 : i < n
                · have q2 : v[i]? = some (at0 v i) := by rw [at0_lt (by omega), List.getElem?_eq_getElem]
                  have q3 : v[i] = at0 v i := (at0_lt (by omega)).symm
                  have p1 : IntKind.u64.wrap (at0 v i) = at0 v i := wrap_u64_id _ (by omega) (by omega)
                  have p4 : IntKind.u64.wrap (at0 m2 (j + i) + d + at0 v i) = at0 m2 (j + i) + at0 v i + d := by rw [wrap_u64_id _ (by omega) (by omega)]; omega
                  have p5 := word_of (at0 m2 (j + i) + at0 v i + d) (by omega) (by omega)
                  simp -dsimp -implicitDefEqProofs [hvlen, b1', b2, wi, wji, tji, hm3, q5, q2, q3, p1, p2, p3, p4, shr32]
                  repeat refine And.intro (by omega) ?_
                  exact Again.by ⟨(i + 1, _, _), ha.step h.inv b1' (by omega) rfl rfl rfl⟩ (Le.to (by simp) (by simp [p5, tji]) (by simp)) (by simp; omega)
                · have z0 : at0 v i = 0 := at0_ge (by omega)
                  have p5 := word_of (at0 m2 (j + i) + d) (by omega) (by omega)
                  simp -dsimp -implicitDefEqProofs [hvlen, b1', b2, wi, wji, tji, hm3, q5, p2, p3, shr32]
                  repeat refine And.intro (by omega) ?_
                  exact Again.by ⟨(i + 1, _, _), ha.step h.inv b1' (by omega) (s := at0 m2 (j + i) + d) (by rw [z0]; omega) rfl rfl⟩ (Le.to (by simp) (by simp [p5, tji]) (by simp)) (by simp; omega)
              · have hii : i = n + 1 := by omega
                subst hii
                obtain ⟨r1, r2⟩ := hi.high ha h.inv (by omega) (by omega) h.pos hg1
                have st2 : WinS l m2 j (n + 1) := ⟨by omega, ha.w.inw, by rw [ha.w.tk, hi.w.tk], by rw [ha.w.dr, hi.w.dr]⟩
                have r3 := st2.done (by omega) r2
                rw [r1, ← r3] at lst
                have hg1' : 1 ≤ g := by
                  have hq0 := Int.ediv_nonneg (wv_nonneg h.inl j (n + 1)) (Int.le_of_lt h.pos)
                  omega
                have y3 : IntKind.u64.wrap (g - 1) = g - 1 := wrap_u64_id _ (by omega) (by omega)
                have k8 : IntKind.u32.wrap (g - 1) = g - 1 := wrap_u32_id _ (by omega) (by omega)
                simp -dsimp -implicitDefEqProofs [a6', a6'', hq, y3]
                refine ⟨by omega, by omega, ?_⟩
                exact Again.by ⟨(j, m2, _), lst, by simp [hq]⟩ (Le.to (by simp [wj6]) (by simp [k8]) (by simp)) (by simp)
    · rw [if_neg (fun h => hks (ti.1 h))] at tb
      simp -dsimp -implicitDefEqProofs [hn, w1, g1, hmin, tw, tb]
      refine ⟨by omega, ?_⟩
      exact Again.by ⟨k + 1, by omega⟩ (Le.to (by simp [wk]) (by simp) (by simp)) (by simp; omega)
end Go.Proofs.YtaljbebkooppiaaGreat.Sh

namespace Go.Proofs.YtaljbebkooppiaaGreat.Sh
open Go Go.RowKit
theorem toW_len_zero {b : Nat} : (toW b).length = 0 ↔ b = 0 := by rw [List.length_eq_zero_iff, toW_eq_nil]
set_option maxRecDepth 20000 in
theorem common_s (a b : Nat) (h1 : (toW a).length ≤ 17592186044416) (h2 : (toW b).length ≤ 17592186044416) : CallsS Tryz.prog 167 [.one (nS a), .one (nS b)] (.v (.one (nS (Nat.gcd a b)))) := by
  refine calls Tryz.func167 rfl (by rfl) (by rfl) (by kernel_rfl) ?_
  simp -dsimp -implicitDefEqProofs [Tryz.f167]
  refine sw_loop_e (fun p : {p : Nat × Nat × Nat // Nat.gcd p.1 p.2.1 = Nat.gcd a b ∧ (toW p.1).length ≤ 17592186044416 ∧ (toW p.2.1).length ≤ 17592186044416} => SS.of [(0, .v (.one (nS p.1.1))), (1, .v (.one (nS p.1.2.1)))] [] p.1.2.2)
    (fun p => p.1.2.1) ⟨(a, b, 0), rfl, h1, h2⟩ (by kernel_rfl) (Le.to (by simp) (by simp) (by simp)) ?_
  rintro ⟨⟨x, y, c⟩, hg, hx, hy⟩
  simp only at hg hx hy
  have again : y ≠ 0 → ∀ σ : SS, (σ.t 0).sub (.v (.one (nS y))) → (σ.t 1).sub (.v (.one (nS (x % y)))) → σ.n ≤ c + 1 → Again (fun p : {p : Nat × Nat × Nat // Nat.gcd p.1 p.2.1 = Nat.gcd a b ∧ (toW p.1).length ≤ 17592186044416 ∧ (toW p.2.1).length ≤ 17592186044416} => SS.of [(0, .v (.one (nS p.1.1))), (1, .v (.one (nS p.1.2.1)))] [] p.1.2.2) (fun p => p.1.2.1) y σ := fun y0 σ h0 h1 hn =>
    Again.by ⟨(y, x % y, c + 1), by simp only; rw [Nat.gcd_comm, ← Nat.gcd_rec, Nat.gcd_comm]; exact hg, hy, Nat.le_trans (len_mono (Nat.le_of_lt (Nat.mod_lt x (by omega)))) hy⟩ (Le.to (by simpa using ⟨h0, h1⟩) (by simp) hn) (Nat.mod_lt x (by omega))
  rcases Nat.lt_or_ge 2 (toW y).length with c1 | c1
  · have y0 : y ≠ 0 := by intro h; rw [← toW_len_zero] at h; omega
    have c1' : (2 : Int) < (toW y).length := by omega
    simp -dsimp -implicitDefEqProofs [c1']
    refine eCall.of (parts_s x y y0 hx hy) (by simp) ?_
    simp -dsimp -implicitDefEqProofs
    exact again y0 _ (by simp) (by simp) (by simp)
  · have c1' : ¬ ((2 : Int) < (toW y).length) := by omega
    by_cases y0 : y = 0
    · subst y0
      rw [Nat.gcd_zero_right] at hg
      rcases Nat.lt_or_ge 2 (toW x).length with c2 | c2
      · have c2' : (2 : Int) < (toW x).length := by omega
        simp -dsimp -implicitDefEqProofs [c2', toW_zero, hg]
      · have c2' : ¬ ((2 : Int) < (toW x).length) := by omega
        simp -dsimp -implicitDefEqProofs [c2', toW_zero, hg]
    · have c3 : 0 < (toW y).length := by have := mt toW_len_zero.1 y0; omega
      have c3' : (0 : Int) < (toW y).length := by omega
      rcases Nat.lt_or_ge 2 (toW x).length with c2 | c2
      · have c2' : (2 : Int) < (toW x).length := by omega
        simp -dsimp -implicitDefEqProofs [c1', c2', c3', c3]
        refine eCall.of (parts_s x y y0 hx hy) (by simp) ?_
        simp -dsimp -implicitDefEqProofs
        exact again y0 _ (by simp) (by simp) (by simp)
      · have c2' : ¬ ((2 : Int) < (toW x).length) := by omega
        have x64 := two_words c2
        have y64 := two_words c1
        have c4 : ¬ (toW y).length = 0 := by omega
        simp -dsimp -implicitDefEqProofs [c1', c2', c3', c3, c4]
        refine eCall.of (smallR_s (toW x) (toW_inW x) c2) (by simp) ?_
        simp -dsimp -implicitDefEqProofs [val_toW]
        refine eCall.of (smallR_s (toW y) (toW_inW y) c1) (by simp) ?_
        simp -dsimp -implicitDefEqProofs [val_toW]
        refine sw_loop_e (fun p : {p : Nat × Nat // Nat.gcd p.1 p.2 = Nat.gcd a b ∧ p.1 < 18446744073709551616 ∧ p.2 < 18446744073709551616} => SS.of [(6, I .u64 p.1.1), (7, I .u64 p.1.2)] [] c)
          (fun p => p.1.2) ⟨(x, y), hg, x64, y64⟩ (by kernel_rfl) (Le.to (by simp) (by simp) (by simp)) ?_
        rintro ⟨⟨u, v⟩, hg2, hu, hv⟩
        simp only at hg2 hu hv
        by_cases v0 : v = 0
        · subst v0
          rw [Nat.gcd_zero_right] at hg2
          simp -dsimp -implicitDefEqProofs
          refine eCall.of (wide_s u hu) (by simp) ?_
          simp -dsimp -implicitDefEqProofs [hg2]
        · have v1 : (0 : Int) < v := by omega
          have v2 : 0 < v := by omega
          have d2 : (u : Int).tmod v = ((u % v : Nat) : Int) := by rw [Int.tmod_eq_emod_of_nonneg (by omega)]; rfl
          have lt := Nat.mod_lt u v2
          simp -dsimp -implicitDefEqProofs [v0, v1, v2]
          exact Again.by ⟨(v, u % v), by simp only; rw [Nat.gcd_comm, ← Nat.gcd_rec, Nat.gcd_comm]; exact hg2, hv, by simp only; omega⟩ (Le.to (by simp [d2]) (by simp) (by simp)) lt
set_option maxRecDepth 20000 in
theorem gcd_s (a b : Nat) (h1 : (toW a).length ≤ 17592186044416) (h2 : (toW b).length ≤ 17592186044416) : CallsS Tryz.prog 199 [.one (nS a), .one (nS b)] (.v (.one (nS (Nat.gcd a b)))) := by
  refine calls Tryz.func199 rfl (by rfl) (by rfl) (by kernel_rfl) ?_
  simp -dsimp -implicitDefEqProofs [Tryz.f199]
  refine sw_loop_e (fun p : {p : Nat × Nat // Nat.gcd p.1 p.2 = Nat.gcd a b ∧ (toW p.1).length ≤ 17592186044416 ∧ (toW p.2).length ≤ 17592186044416} => SS.of [(0, .v (.one (nS p.1.1))), (1, .v (.one (nS p.1.2)))] [] 0)
    (fun p => p.1.2) ⟨(a, b), rfl, h1, h2⟩ (by kernel_rfl) (Le.to (by simp) (by simp) (by simp)) ?_
  rintro ⟨⟨x, y⟩, hg, hx, hy⟩
  simp only at hg hx hy
  by_cases y0 : y = 0
  · subst y0
    rw [Nat.gcd_zero_right] at hg
    simp -dsimp -implicitDefEqProofs [toW_zero, hg]
  · have c3 : 0 < (toW y).length := by have := mt toW_len_zero.1 y0; omega
    have c3' : (0 : Int) < (toW y).length := by omega
    have again : ∀ σ : SS, (σ.t 0).sub (.v (.one (nS y))) → (σ.t 1).sub (.v (.one (nS (x % y)))) → σ.n ≤ 0 → Again (fun p : {p : Nat × Nat // Nat.gcd p.1 p.2 = Nat.gcd a b ∧ (toW p.1).length ≤ 17592186044416 ∧ (toW p.2).length ≤ 17592186044416} => SS.of [(0, .v (.one (nS p.1.1))), (1, .v (.one (nS p.1.2)))] [] 0) (fun p => p.1.2) y σ := fun σ h0 h1 hn =>
      Again.by ⟨(y, x % y), by simp only; rw [Nat.gcd_comm, ← Nat.gcd_rec, Nat.gcd_comm]; exact hg, hy, Nat.le_trans (len_mono (Nat.le_of_lt (Nat.mod_lt x (by omega)))) hy⟩ (Le.to (by simpa using ⟨h0, h1⟩) (by simp) hn) (Nat.mod_lt x (by omega))
    simp -dsimp -implicitDefEqProofs [c3, c3']
    refine eCall.of (wsmall_s (toW x) (toW_inW x)) (by simp) ?_
    rw [smallL_toW]
    have tail : ∀ r, CallsS Tryz.prog 218 [.one (nS x), .one (nS y)] r → CallsS Tryz.prog 218 [.one (nS x), .one (nS y)] r := fun r h => h
    have hdiv := div_s x y y0 hx hy
    by_cases c2 : (toW x).length ≤ 2
    · rw [if_pos c2]
      simp -dsimp -implicitDefEqProofs
      refine eCall.of (wsmall_s (toW y) (toW_inW y)) (by simp) ?_
      rw [smallL_toW]
      by_cases c1 : (toW y).length ≤ 2
      · rw [if_pos c1]
        have x64 := two_words c2
        have y64 := two_words c1
        simp -dsimp -implicitDefEqProofs
        refine sw_loop_e (fun p : {p : Nat × Nat // Nat.gcd p.1 p.2 = Nat.gcd a b ∧ p.1 < 18446744073709551616 ∧ p.2 < 18446744073709551616} => SS.of [(5, I .u64 p.1.1), (7, I .u64 p.1.2)] [] 0)
          (fun p => p.1.2) ⟨(x, y), hg, x64, y64⟩ (by kernel_rfl) (Le.to (by simp) (by simp) (by simp)) ?_
        rintro ⟨⟨u, v⟩, hg2, hu, hv⟩
        simp only at hg2 hu hv
        by_cases v0 : v = 0
        · subst v0
          rw [Nat.gcd_zero_right] at hg2
          simp -dsimp -implicitDefEqProofs
          refine eCall.of (of_s u hu) (by simp) ?_
          simp -dsimp -implicitDefEqProofs [hg2]
        · have v1 : ¬ (v : Int) = 0 := by omega
          have v2 : 0 < v := by omega
          have d2 : (u : Int).tmod v = ((u % v : Nat) : Int) := by rw [Int.tmod_eq_emod_of_nonneg (by omega)]; rfl
          have lt := Nat.mod_lt u v2
          simp -dsimp -implicitDefEqProofs [v0, v1]
          exact Again.by ⟨(v, u % v), by simp only; rw [Nat.gcd_comm, ← Nat.gcd_rec, Nat.gcd_comm]; exact hg2, hv, by simp only; omega⟩ (Le.to (by simp [d2]) (by simp) (by simp)) lt
      · rw [if_neg c1]
        simp -dsimp -implicitDefEqProofs
        refine eCall.of hdiv (by simp) ?_
        simp -dsimp -implicitDefEqProofs
        exact again _ (by simp) (by simp) (by simp)
    · rw [if_neg c2]
      simp -dsimp -implicitDefEqProofs
      refine eCall.of hdiv (by simp) ?_
      simp -dsimp -implicitDefEqProofs
      exact again _ (by simp) (by simp) (by simp)
end Go.Proofs.YtaljbebkooppiaaGreat.Sh

namespace Go.Proofs.YtaljbebkooppiaaGreat.Sh
open Go Go.RowKit
def wl (n : Nat) : Nat := (toW n).length
theorem wl_def (n : Nat) : (toW n).length = wl n := rfl
theorem wl_mono {a b : Nat} (h : a ≤ b) : wl a ≤ wl b := len_mono h
theorem wl_mul (a b : Nat) : wl (a * b) ≤ wl a + wl b := by
  refine toW_len_lt ?_
  rw [Nat.pow_add]
  exact Nat.mul_lt_mul'' (toW_lt a) (toW_lt b)
theorem wl_add (a b : Nat) : wl (a + b) ≤ max (wl a) (wl b) + 1 := by
  refine toW_len_lt ?_
  have h1 := toW_lt a
  have h2 := toW_lt b
  have h3 := Nat.pow_le_pow_right (show 0 < 4294967296 by decide) (show (toW a).length ≤ max (wl a) (wl b) from Nat.le_max_left _ _)
  have h4 := Nat.pow_le_pow_right (show 0 < 4294967296 by decide) (show (toW b).length ≤ max (wl a) (wl b) from Nat.le_max_right _ _)
  rw [Nat.pow_succ]
  omega
theorem wl_div (a b : Nat) : wl (a / b) ≤ wl a := wl_mono (Nat.div_le_self a b)
theorem wl_one : wl 1 = 1 := by rw [wl, toW_one]; rfl
theorem wl_u64 {n : Nat} (h : n < 18446744073709551616) : wl n ≤ 2 := toW_len_lt (k := 2) (by omega)
def sz (q : Rat) : Nat := wl q.num.natAbs + wl q.den
@[simp] def ratS (q : Rat) : SV := .agg [nS q.num.natAbs, nS q.den, .bool (decide (q.num < 0))]
@[simp] def fS (q : Rat) : SV := .agg [.bool (decide (q.num < 0)), nS q.num.natAbs, nS q.den]
def sg (neg : Bool) (a : Nat) : Int := if neg then -(a : Int) else a
def mkQ (neg : Bool) (a b : Nat) : Rat := mkRat (sg neg a) b
theorem sg_natAbs (neg : Bool) (a : Nat) : (sg neg a).natAbs = a := by unfold sg; split <;> omega
theorem mkQ_zero (neg : Bool) (b : Nat) : mkQ neg 0 b = 0 := by
  unfold mkQ sg; split <;> simp
theorem mkQ_num (neg : Bool) (a b : Nat) (hb : b ≠ 0) : (mkQ neg a b).num = sg neg (a / Nat.gcd a b) := by
  unfold mkQ
  rw [Rat.num_mkRat, if_neg hb, sg_natAbs, Nat.gcd_comm]
  have hg : Nat.gcd a b ≠ 0 := by intro h; exact hb (Nat.eq_zero_of_gcd_eq_zero_right h)
  obtain ⟨c, hc⟩ := Nat.gcd_dvd_left a b
  unfold sg
  split
  · generalize Nat.gcd a b = g at *
    subst hc
    rw [Nat.mul_div_cancel_left _ (by omega)]
    have : -((g * c : Nat) : Int) = (g : Int) * -(c : Int) := by rw [Int.natCast_mul, Int.mul_neg]
    rw [this, Int.mul_ediv_cancel_left _ (by omega)]
  · rfl
theorem mkQ_abs (neg : Bool) (a b : Nat) (hb : b ≠ 0) : (mkQ neg a b).num.natAbs = a / Nat.gcd a b := by rw [mkQ_num _ _ _ hb, sg_natAbs]
theorem mkQ_den (neg : Bool) (a b : Nat) (hb : b ≠ 0) : (mkQ neg a b).den = b / Nat.gcd a b := by
  unfold mkQ
  rw [Rat.den_mkRat, if_neg hb, sg_natAbs, Nat.gcd_comm]
theorem mkQ_neg (neg : Bool) (a b : Nat) (hb : b ≠ 0) (ha : a ≠ 0) : decide ((mkQ neg a b).num < 0) = neg := by
  rw [mkQ_num _ _ _ hb]
  have : 0 < a / Nat.gcd a b := Nat.div_pos (Nat.le_of_dvd (by omega) (Nat.gcd_dvd_left a b)) (Nat.pos_of_ne_zero (fun h => hb (Nat.eq_zero_of_gcd_eq_zero_right h)))
  unfold sg
  cases neg
  · simp; exact Int.natCast_nonneg (a / Nat.gcd a b)
  · simp; omega
theorem mkQ_self (q : Rat) : mkQ (decide (q.num < 0)) q.num.natAbs q.den = q := by
  unfold mkQ
  have : sg (decide (q.num < 0)) q.num.natAbs = q.num := by
    unfold sg
    by_cases h : q.num < 0
    · rw [decide_eq_true h, if_pos rfl]; omega
    · rw [decide_eq_false h, if_neg (by simp)]; omega
  rw [this, Rat.mkRat_self]
theorem zero_abs : (0 : Rat).num.natAbs = 0 := rfl
theorem sz_mkQ (neg : Bool) (a b : Nat) (hb : b ≠ 0) : sz (mkQ neg a b) ≤ wl a + wl b := by
  unfold sz
  rw [mkQ_abs _ _ _ hb, mkQ_den _ _ _ hb]
  have := wl_div a (Nat.gcd a b)
  have := wl_div b (Nat.gcd a b)
  omega
set_option maxRecDepth 20000 in
theorem reduced_s (a b : Nat) (neg : Bool) (hb : b ≠ 0) (h1 : wl a ≤ 17592186044416) (h2 : wl b ≤ 17592186044416) : CallsS Tryz.prog 214 [.one (nS a), .one (nS b), .one (.bool neg)] (.v (ratS (mkQ neg a b))) := by
  unfold wl at h1 h2
  by_cases a0 : a = 0
  · subst a0
    rw [mkQ_zero]
    refine calls Tryz.func214 rfl (by rfl) (by rfl) (by kernel_rfl) ?_
    simp -dsimp -implicitDefEqProofs [Tryz.f214, toW_zero, toW_one, slots, rowsOf]
  · have hl : ¬ (toW a).length = 0 := mt toW_len_zero.1 a0
    have hg0 : Nat.gcd a b ≠ 0 := by intro h; exact hb (Nat.eq_zero_of_gcd_eq_zero_right h)
    have hgl : (toW (Nat.gcd a b)).length ≤ 17592186044416 := Nat.le_trans (len_mono (Nat.gcd_le_right _ (by omega))) h2
    have ratE : ratS (mkQ neg a b) = .agg [nS (a / Nat.gcd a b), nS (b / Nat.gcd a b), .bool neg] := by
      rw [ratS, mkQ_abs _ _ _ hb, mkQ_den _ _ _ hb, mkQ_neg _ _ _ hb a0]
    rw [ratE]
    refine calls Tryz.func214 rfl (by rfl) (by rfl) (by kernel_rfl) ?_
    simp -dsimp -implicitDefEqProofs [Tryz.f214, hl]
    refine eCall.of (gcd_s a b h1 h2) (by simp) ?_
    simp -dsimp -implicitDefEqProofs
    refine eCall.of (wone_s (toW (Nat.gcd a b))) (by simp) ?_
    by_cases g1 : Nat.gcd a b = 1
    · rw [g1, toW_one]
      simp -dsimp -implicitDefEqProofs
    · have : ¬ toW (Nat.gcd a b) = [1] := by rw [← toW_one]; exact fun h => g1 (toW_inj h)
      simp -dsimp -implicitDefEqProofs [this]
      refine eCall.of (div_s a (Nat.gcd a b) hg0 h1 hgl) (by simp) ?_
      simp -dsimp -implicitDefEqProofs
      refine eCall.of (div_s b (Nat.gcd a b) hg0 h2 hgl) (by simp) ?_
      simp -dsimp -implicitDefEqProofs
end Go.Proofs.YtaljbebkooppiaaGreat.Sh

namespace Go.Proofs.YtaljbebkooppiaaGreat.Sh
open Go Go.RowKit
theorem ratS_int (n : Int) : ratS (n : Rat) = .agg [nS n.natAbs, nS 1, .bool (decide (n < 0))] := rfl
set_option maxRecDepth 20000 in
theorem whole_s (n : Int) (h0 : -9223372036854775808 ≤ n) (h1 : n < 9223372036854775808) : CallsS Tryz.prog 162 [.one (.int .i64 n)] (.v (ratS (n : Rat))) := by
  rw [ratS_int]
  refine calls Tryz.func162 rfl (by rfl) (by rfl) (by kernel_rfl) ?_
  by_cases hn : n < 0
  · have w1 : IntKind.i64.wrap (n + 1) = n + 1 := wrap_i64 _ (by omega) (by omega)
    have w2 : IntKind.i64.wrap (-(n + 1)) = -(n + 1) := wrap_i64 _ (by omega) (by omega)
    have w3 : IntKind.u64.wrap (-(n + 1)) = -(n + 1) := wrap_u64_id _ (by omega) (by omega)
    have w4 : IntKind.u64.wrap (-(n + 1) + 1) = (n.natAbs : Int) := by rw [wrap_u64_id _ (by omega) (by omega)]; omega
    simp -dsimp -implicitDefEqProofs [Tryz.f162, hn, w1, w2, w3, w4]
    refine eCall.of (of_s n.natAbs (by omega)) (by simp) ?_
    simp -dsimp -implicitDefEqProofs [slots, rowsOf, toW_one, hn]
  · have w3 : IntKind.u64.wrap n = (n.natAbs : Int) := by rw [wrap_u64_id _ (by omega) (by omega)]; omega
    simp -dsimp -implicitDefEqProofs [Tryz.f162, hn, w3]
    refine eCall.of (of_s n.natAbs (by omega)) (by simp) ?_
    simp -dsimp -implicitDefEqProofs [slots, rowsOf, toW_one, hn, Int.not_lt.1 hn]
set_option maxRecDepth 20000 in
theorem sign_s (q : Rat) : CallsS Tryz.prog 156 [ratS q] (I .i64 (if q = 0 then 0 else if q < 0 then -1 else 1)) := by
  refine calls Tryz.func156 rfl (by rfl) (by rfl) (by kernel_rfl) ?_
  by_cases h0 : q = 0
  · subst h0
    simp -dsimp -implicitDefEqProofs [Tryz.f156, toW_zero, zero_abs]
  · have hl : ¬ (toW q.num.natAbs).length = 0 := by
      intro h; rw [toW_len_zero] at h
      exact h0 (Rat.num_eq_zero.1 (by omega))
    have hlt : q < 0 ↔ q.num < 0 := by rw [Rat.lt_iff]; simp
    by_cases h1 : q.num < 0
    · simp -dsimp -implicitDefEqProofs [Tryz.f156, hl, h0, h1, hlt]
    · simp -dsimp -implicitDefEqProofs [Tryz.f156, hl, h0, h1, hlt]
theorem over_num {q : Rat} (h : q ≠ 0) : (q⁻¹).num.natAbs = q.den ∧ (q⁻¹).den = q.num.natAbs ∧ ((q⁻¹).num < 0 ↔ q.num < 0) := by
  have h0 : q.num ≠ 0 := fun h1 => h (Rat.num_eq_zero.1 h1)
  have hd := q.den_nz
  refine ⟨?_, ?_, ?_⟩
  · rw [Rat.num_inv, Int.natAbs_mul, Int.natAbs_sign_of_ne_zero h0]; simp
  · rw [Rat.den_inv, if_neg h0]
  · rw [Rat.num_inv]
    rcases Int.lt_or_lt_of_ne h0 with h1 | h1
    · rw [Int.sign_eq_neg_one_of_neg h1]; constructor
      · intro _; exact h1
      · intro _; omega
    · rw [Int.sign_eq_one_of_pos h1]; constructor
      · intro h2; omega
      · intro h2; omega
set_option maxRecDepth 20000 in
theorem over_s (q : Rat) (h : q ≠ 0) : CallsS Tryz.prog 204 [ratS q] (.v (ratS q⁻¹)) := by
  obtain ⟨e1, e2, e3⟩ := over_num h
  have e : ratS q⁻¹ = .agg [nS q.den, nS q.num.natAbs, .bool (decide (q.num < 0))] := by rw [ratS, e1, e2, decide_eq_decide.2 e3]
  rw [e]
  refine calls Tryz.func204 rfl (by rfl) (by rfl) (by kernel_rfl) ?_
  simp -dsimp -implicitDefEqProofs [Tryz.f204]
set_option maxRecDepth 20000 in
theorem rminus_s (q : Rat) : CallsS Tryz.prog 193 [ratS q] (.v (ratS (-q))) := by
  refine calls Tryz.func193 rfl (by rfl) (by rfl) (by kernel_rfl) ?_
  have hn : (-q).num.natAbs = q.num.natAbs := by rw [Rat.neg_num]; omega
  have hd : (-q).den = q.den := rfl
  by_cases h0 : q.num = 0
  · have e : toW q.num.natAbs = [] := by rw [h0]; exact toW_zero
    simp -dsimp -implicitDefEqProofs [Tryz.f193, hn, hd, h0, toW_zero]
  · have hl : 0 < (toW q.num.natAbs).length := by
      have := mt (toW_len_zero (b := q.num.natAbs)).1 (by omega); omega
    have hl' : (0 : Int) < (toW q.num.natAbs).length := by omega
    by_cases h1 : q.num < 0
    · have h2 : ¬ (0 < q.num) := by omega
      simp -dsimp -implicitDefEqProofs [Tryz.f193, hn, hd, h1, h2]
    · have h2 : 0 < q.num := by omega
      simp -dsimp -implicitDefEqProofs [Tryz.f193, hn, hd, h1, h2, hl, hl']
end Go.Proofs.YtaljbebkooppiaaGreat.Sh

namespace Go.Proofs.YtaljbebkooppiaaGreat.Sh
open Go Go.RowKit
theorem mulN_s (a b : Nat) (h1 : wl a ≤ 17592186044416) (h2 : wl b ≤ 17592186044416) : CallsS Tryz.prog 163 [.one (nS a), .one (nS b)] (.v (.one (nS (a * b)))) := by
  have := mul_s (toW a) (toW b) (toW_inW a) (toW_inW b) (toW_trim a) (toW_trim b) h1 h2
  rwa [val_toW, val_toW, ← Int.natCast_mul, Int.toNat_natCast] at this
theorem addN_s (a b : Nat) (h1 : wl a ≤ 35184372088832) (h2 : wl b ≤ 35184372088832) : CallsS Tryz.prog 215 [.one (nS a), .one (nS b)] (.v (.one (nS (a + b)))) := by
  have := add_s (toW a) (toW b) (toW_inW a) (toW_inW b) h1 h2
  rwa [val_toW, val_toW, ← Int.natCast_add, Int.toNat_natCast] at this
theorem subN_s (a b : Nat) (h1 : wl a ≤ 35184372088832) (h2 : b ≤ a) : CallsS Tryz.prog 216 [.one (nS a), .one (nS b)] (.v (.one (nS (a - b)))) := by
  have := sub_s (toW a) (toW b) (toW_inW a) (toW_inW b) h1 (len_mono h2) (by rw [val_toW, val_toW]; omega)
  rw [val_toW, val_toW] at this
  rwa [show ((a : Int) - (b : Int)).toNat = a - b by omega] at this
theorem timesN_s (a b : Nat) (h1 : wl a ≤ 17592186044416) (h2 : wl b ≤ 17592186044416) : CallsS Tryz.prog 72 [.one (nS a), .one (nS b)] (.v (.one (nS (a * b)))) := by
  have := times_s (toW a) (toW b) (toW_inW a) (toW_inW b) h1 h2
  rwa [val_toW, val_toW, ← Int.natCast_mul, Int.toNat_natCast] at this
theorem plusN_s (a b : Nat) (h1 : wl a ≤ 35184372088832) (h2 : wl b ≤ 35184372088832) : CallsS Tryz.prog 211 [.one (nS a), .one (nS b)] (.v (.one (nS (a + b)))) := by
  have := plus_s (toW a) (toW b) (toW_inW a) (toW_inW b) h1 h2
  rwa [val_toW, val_toW, ← Int.natCast_add, Int.toNat_natCast] at this
theorem minusN_s (a b : Nat) (h1 : wl a ≤ 35184372088832) (h2 : b ≤ a) : CallsS Tryz.prog 212 [.one (nS a), .one (nS b)] (.v (.one (nS (a - b)))) := by
  have := minus_s (toW a) (toW b) (toW_inW a) (toW_inW b) h1 (len_mono h2) (by rw [val_toW, val_toW]; omega)
  rw [val_toW, val_toW] at this
  rwa [show ((a : Int) - (b : Int)).toNat = a - b by omega] at this
def ng (q : Rat) : Bool := decide (q.num < 0)
theorem sg_self (q : Rat) : sg (ng q) q.num.natAbs = q.num := by
  unfold sg ng
  by_cases h : q.num < 0
  · rw [decide_eq_true h, if_pos rfl]; omega
  · rw [decide_eq_false h, if_neg (by simp)]; omega
theorem abs_eq_zero {q : Rat} : q.num.natAbs = 0 ↔ q = 0 := by rw [Int.natAbs_eq_zero, Rat.num_eq_zero]
theorem mul_mkQ (p q : Rat) : p * q = mkQ (ng p != ng q) (p.num.natAbs * q.num.natAbs) (p.den * q.den) := by
  rw [Rat.mul_def', mkQ]
  congr 1
  rw [← sg_self p, ← sg_self q]
  rw [sg_natAbs, sg_natAbs]
  generalize p.num.natAbs = a
  generalize q.num.natAbs = b
  have : ng p = (ng p) := rfl
  cases ng p <;> cases ng q <;> simp [sg, Int.mul_neg, Int.neg_mul]
theorem sg_add (x y : Bool) (a b : Nat) : sg x a + sg y b = if x = y then sg x (a + b) else if b < a then sg x (a - b) else if a < b then sg y (b - a) else 0 := by
  cases x <;> cases y <;> simp [sg] <;> (try split) <;> (try split) <;> omega
theorem add_mkQ (p q : Rat) : p + q = mkRat (sg (ng p) (p.num.natAbs * q.den) + sg (ng q) (q.num.natAbs * p.den)) (p.den * q.den) := by
  rw [Rat.add_def']
  congr 1
  have h1 : sg (ng p) (p.num.natAbs * q.den) = p.num * q.den := by
    rw [← sg_self p, sg_natAbs]
    generalize p.num.natAbs = a
    cases ng p <;> simp [sg, Int.neg_mul]
  have h2 : sg (ng q) (q.num.natAbs * p.den) = q.num * p.den := by
    rw [← sg_self q, sg_natAbs]
    generalize q.num.natAbs = a
    cases ng q <;> simp [sg, Int.neg_mul]
  rw [h1, h2]
theorem add_mkQ_same (p q : Rat) (h : p.den = q.den) : p + q = mkRat (sg (ng p) p.num.natAbs + sg (ng q) q.num.natAbs) p.den := by
  rw [Rat.add_def', sg_self, sg_self, ← h, ← Int.add_mul, Rat.mkRat_mul_right p.den_nz]
theorem sum_cases (x y : Bool) (a b d : Nat) : mkRat (sg x a + sg y b) d = if x = y then mkQ x (a + b) d else if b < a then mkQ x (a - b) d else if a < b then mkQ y (b - a) d else 0 := by
  rw [sg_add]
  split
  · rfl
  · split
    · rfl
    · split
      · rfl
      · simp
set_option maxRecDepth 20000 in
theorem rtimes_s (p q : Rat) (h : sz p + sz q ≤ 17592186044416) : CallsS Tryz.prog 203 [ratS p, ratS q] (.v (ratS (p * q))) := by
  unfold sz at h
  have l1 := wl_mul p.num.natAbs q.num.natAbs
  have l2 := wl_mul p.den q.den
  have dn : p.den * q.den ≠ 0 := Nat.mul_ne_zero p.den_nz q.den_nz
  refine calls Tryz.func203 rfl (by rfl) (by rfl) (by kernel_rfl) ?_
  by_cases p0 : p = 0
  · subst p0
    rw [Rat.zero_mul]
    simp -dsimp -implicitDefEqProofs [Tryz.f203, toW_zero]
    refine eCall.of (whole_s 0 (by decide) (by decide)) (by simp) ?_
    simp -dsimp -implicitDefEqProofs
  · have hp : ¬ (toW p.num.natAbs).length = 0 := by rw [toW_len_zero, abs_eq_zero]; exact p0
    by_cases q0 : q = 0
    · subst q0
      rw [Rat.mul_zero]
      simp -dsimp -implicitDefEqProofs [Tryz.f203, toW_zero, hp]
      refine eCall.of (whole_s 0 (by decide) (by decide)) (by simp) ?_
      simp -dsimp -implicitDefEqProofs
    · have hq : ¬ (toW q.num.natAbs).length = 0 := by rw [toW_len_zero, abs_eq_zero]; exact q0
      have hred := reduced_s (p.num.natAbs * q.num.natAbs) (p.den * q.den) (ng p != ng q) dn (by omega) (by omega)
      rw [← mul_mkQ] at hred
      simp -dsimp -implicitDefEqProofs [Tryz.f203, hp, hq]
      refine eCall.of (mulN_s p.num.natAbs q.num.natAbs (by omega) (by omega)) (by simp) ?_
      simp -dsimp -implicitDefEqProofs
      refine eCall.of (mulN_s p.den q.den (by omega) (by omega)) (by simp) ?_
      simp -dsimp -implicitDefEqProofs
      refine eCall.of hred (by simp [ng, bne]) ?_
      simp -dsimp -implicitDefEqProofs
theorem cmpN_eq_zero {a b : Nat} : cmpN a b = 0 ↔ a = b := by
  unfold cmpN
  split
  · constructor
    · intro h; omega
    · intro h; omega
  · split
    · constructor
      · intro _; assumption
      · intro _; rfl
    · constructor
      · intro h; omega
      · intro h; contradiction
set_option maxRecDepth 20000 in
theorem plus_gen (a b d e : Nat) (np nq : Bool) (hd0 : d ≠ 0) (he0 : e ≠ 0) (h : wl a + wl b + wl d + wl e ≤ 17592186044415) :
    CallsS Tryz.prog 192 [.agg [nS a, nS d, .bool np], .agg [nS b, nS e, .bool nq]] (.v (ratS (if d = e then mkRat (sg np a + sg nq b) d else mkRat (sg np (a * e) + sg nq (b * d)) (d * e)))) := by
  have l1 := wl_mul a e
  have l2 := wl_mul b d
  have l3 := wl_mul d e
  have dn : d * e ≠ 0 := Nat.mul_ne_zero hd0 he0
  by_cases hd : d = e
  · subst hd
    rw [if_pos rfl]
    refine calls Tryz.func192 rfl (by rfl) (by rfl) (by kernel_rfl) ?_
    simp -dsimp -implicitDefEqProofs [Tryz.f192]
    refine eCall.of (cmp_s d d (by rw [wl_def]; omega) (by rw [wl_def]; omega)) (by simp) ?_
    simp -dsimp -implicitDefEqProofs [cmpN_eq (rfl : d = d)]
    have l4 := wl_add a b
    have e1 := sum_cases np nq a b (d)
    by_cases hn : np = nq
    · subst hn
      rw [if_pos rfl] at e1
      have hred := reduced_s (a + b) (d) np hd0 (by omega) (by omega)
      rw [← e1] at hred
      simp -dsimp -implicitDefEqProofs
      refine eCall.of (addN_s (a) (b) (by omega) (by omega)) (by simp) ?_
      simp -dsimp -implicitDefEqProofs
      refine eCall.of hred (by simp) ?_
      simp -dsimp -implicitDefEqProofs
    · rw [if_neg hn] at e1
      have hnb : (np == nq) = false := by simpa using hn
      simp -dsimp -implicitDefEqProofs [hnb]
      refine eCall.of (cmp_s (a) (b) (by rw [wl_def]; omega) (by rw [wl_def]; omega)) (by simp) ?_
      rcases Nat.lt_trichotomy (a) (b) with hc | hc | hc
      · rw [if_neg (by omega), if_pos hc] at e1
        have lm := wl_mono (show b - (a) ≤ b by omega)
        have hred := reduced_s (b - (a)) (d) nq hd0 (by omega) (by omega)
        rw [← e1] at hred
        simp -dsimp -implicitDefEqProofs [cmpN_lt hc]
        refine eCall.of (subN_s (b) (a) (by omega) (by omega)) (by simp) ?_
        simp -dsimp -implicitDefEqProofs
        refine eCall.of hred (by simp) ?_
        simp -dsimp -implicitDefEqProofs
      · rw [if_neg (by omega), if_neg (by omega)] at e1
        rw [e1]
        simp -dsimp -implicitDefEqProofs [cmpN_eq hc]
        refine eCall.of (whole_s 0 (by decide) (by decide)) (by simp) ?_
        simp -dsimp -implicitDefEqProofs
      · rw [if_pos hc] at e1
        have lm := wl_mono (show a - (b) ≤ a by omega)
        have hred := reduced_s (a - (b)) (d) np hd0 (by omega) (by omega)
        rw [← e1] at hred
        simp -dsimp -implicitDefEqProofs [cmpN_gt hc]
        refine eCall.of (subN_s (a) (b) (by omega) (by omega)) (by simp) ?_
        simp -dsimp -implicitDefEqProofs
        refine eCall.of hred (by simp) ?_
        simp -dsimp -implicitDefEqProofs
  · rw [if_neg hd]
    have hc : ¬ cmpN d e = 0 := mt cmpN_eq_zero.1 hd
    refine calls Tryz.func192 rfl (by rfl) (by rfl) (by kernel_rfl) ?_
    simp -dsimp -implicitDefEqProofs [Tryz.f192]
    refine eCall.of (cmp_s d e (by rw [wl_def]; omega) (by rw [wl_def]; omega)) (by simp) ?_
    simp -dsimp -implicitDefEqProofs [hc]
    refine eCall.of (mulN_s a e (by omega) (by omega)) (by simp) ?_
    simp -dsimp -implicitDefEqProofs
    refine eCall.of (mulN_s b d (by omega) (by omega)) (by simp) ?_
    simp -dsimp -implicitDefEqProofs
    refine eCall.of (mulN_s d e (by omega) (by omega)) (by simp) ?_
    simp -dsimp -implicitDefEqProofs
    have l4 := wl_add (a * e) (b * d)
    have e1 := sum_cases np nq (a * e) (b * d) (d * e)
    by_cases hn : np = nq
    · subst hn
      rw [if_pos rfl] at e1
      have hred := reduced_s (a * e + b * d) (d * e) np dn (by omega) (by omega)
      rw [← e1] at hred
      simp -dsimp -implicitDefEqProofs
      refine eCall.of (addN_s (a * e) (b * d) (by omega) (by omega)) (by simp) ?_
      simp -dsimp -implicitDefEqProofs
      refine eCall.of hred (by simp) ?_
      simp -dsimp -implicitDefEqProofs
    · rw [if_neg hn] at e1
      have hnb : (np == nq) = false := by simpa using hn
      simp -dsimp -implicitDefEqProofs [hnb]
      refine eCall.of (cmp_s (a * e) (b * d) (by rw [wl_def]; omega) (by rw [wl_def]; omega)) (by simp) ?_
      rcases Nat.lt_trichotomy (a * e) (b * d) with hc | hc | hc
      · rw [if_neg (by omega), if_pos hc] at e1
        have lm := wl_mono (show b * d - (a * e) ≤ b * d by omega)
        have hred := reduced_s (b * d - (a * e)) (d * e) nq dn (by omega) (by omega)
        rw [← e1] at hred
        simp -dsimp -implicitDefEqProofs [cmpN_lt hc]
        refine eCall.of (subN_s (b * d) (a * e) (by omega) (by omega)) (by simp) ?_
        simp -dsimp -implicitDefEqProofs
        refine eCall.of hred (by simp) ?_
        simp -dsimp -implicitDefEqProofs
      · rw [if_neg (by omega), if_neg (by omega)] at e1
        rw [e1]
        simp -dsimp -implicitDefEqProofs [cmpN_eq hc]
        refine eCall.of (whole_s 0 (by decide) (by decide)) (by simp) ?_
        simp -dsimp -implicitDefEqProofs
      · rw [if_pos hc] at e1
        have lm := wl_mono (show a * e - (b * d) ≤ a * e by omega)
        have hred := reduced_s (a * e - (b * d)) (d * e) np dn (by omega) (by omega)
        rw [← e1] at hred
        simp -dsimp -implicitDefEqProofs [cmpN_gt hc]
        refine eCall.of (subN_s (a * e) (b * d) (by omega) (by omega)) (by simp) ?_
        simp -dsimp -implicitDefEqProofs
        refine eCall.of hred (by simp) ?_
        simp -dsimp -implicitDefEqProofs
theorem rplus_s (p q : Rat) (h : sz p + sz q ≤ 17592186044415) : CallsS Tryz.prog 192 [ratS p, ratS q] (.v (ratS (p + q))) := by
  unfold sz at h
  have := plus_gen p.num.natAbs q.num.natAbs p.den q.den (ng p) (ng q) p.den_nz q.den_nz (by omega)
  by_cases hd : p.den = q.den
  · rw [if_pos hd, ← add_mkQ_same p q hd] at this
    exact this
  · rw [if_neg hd, ← add_mkQ] at this
    exact this
end Go.Proofs.YtaljbebkooppiaaGreat.Sh

namespace Go.Proofs.YtaljbebkooppiaaGreat.Sh
open Go Go.RowKit
def cmpQ (p q : Rat) : Int := if p < q then -1 else if p = q then 0 else 1
def sgnQ (q : Rat) : Int := if q = 0 then 0 else if q < 0 then -1 else 1
theorem sgnQ_num (q : Rat) : sgnQ q = if q.num = 0 then 0 else if q.num < 0 then -1 else 1 := by
  unfold sgnQ
  have h1 : q = 0 ↔ q.num = 0 := Rat.num_eq_zero.symm
  have h2 : q < 0 ↔ q.num < 0 := by rw [Rat.lt_iff]; simp
  simp only [h1, h2]
theorem cmpQ_num (p q : Rat) : cmpQ p q = if p.num * q.den < q.num * p.den then -1 else if p.num * q.den = q.num * p.den then 0 else 1 := by
  unfold cmpQ
  simp only [Rat.lt_iff, Rat.eq_iff_mul_eq_mul]
theorem cmpQ_sgn {p q : Rat} (h : sgnQ p ≠ sgnQ q) : cmpQ p q = if sgnQ p < sgnQ q then -1 else 1 := by
  rw [sgnQ_num, sgnQ_num] at *
  rw [cmpQ_num]
  have d1 : (0 : Int) < p.den := by have := p.den_nz; omega
  have d2 : (0 : Int) < q.den := by have := q.den_nz; omega
  have pz : ∀ {x d : Int}, 0 < d → 0 < x → 0 < x * d := fun hd hx => Int.mul_pos hx hd
  have nz : ∀ {x d : Int}, 0 < d → x < 0 → x * d < 0 := fun hd hx => Int.mul_neg_of_neg_of_pos hx hd
  rcases Int.lt_trichotomy p.num 0 with a | a | a <;> rcases Int.lt_trichotomy q.num 0 with b | b | b
  · exfalso; simp [a, b, Int.ne_of_lt] at h
  · have := nz d2 a; rw [b] at *; simp [a, Int.ne_of_lt a, this]
  · have := nz d2 a; have := pz d1 b
    rw [if_pos (by omega)]; simp [a, Int.ne_of_lt a, Int.ne_of_gt b, Int.not_lt.2 (Int.le_of_lt b)]
  · have := nz d1 b; rw [a] at *; simp [b, Int.ne_of_lt b]; omega
  · exfalso; simp [a, b] at h
  · have := pz d1 b; rw [a] at *; simp [this, Int.ne_of_gt b, Int.not_lt.2 (Int.le_of_lt b)]
  · have := pz d2 a; have := nz d1 b
    rw [if_neg (by omega), if_neg (by omega)]; simp [b, Int.ne_of_lt b, Int.ne_of_gt a, Int.not_lt.2 (Int.le_of_lt a)]
  · have := pz d2 a; rw [b] at *; simp [Int.ne_of_gt a, Int.not_lt.2 (Int.le_of_lt a)]; omega
  · exfalso; simp [Int.ne_of_gt a, Int.ne_of_gt b, Int.not_lt.2 (Int.le_of_lt a), Int.not_lt.2 (Int.le_of_lt b)] at h
theorem cmpQ_ng {p q : Rat} (h : ng p = ng q) : cmpQ p q = if ng p then -(cmpN (p.num.natAbs * q.den) (q.num.natAbs * p.den)) else cmpN (p.num.natAbs * q.den) (q.num.natAbs * p.den) := by
  rw [cmpQ_num]
  have key : ∀ (x y : Nat) , (ng p = true → p.num * q.den = -(x : Int) ∧ q.num * p.den = -(y : Int)) → (ng p = false → p.num * q.den = (x : Int) ∧ q.num * p.den = (y : Int)) → (if p.num * q.den < q.num * p.den then -1 else if p.num * q.den = q.num * p.den then (0 : Int) else 1) = if ng p then -(cmpN x y) else cmpN x y := by
    intro x y h1 h2
    cases hn : ng p
    · obtain ⟨e1, e2⟩ := h2 hn
      rw [e1, e2]
      simp only [Bool.false_eq_true, if_false, cmpN]
      rcases Nat.lt_trichotomy x y with c | c | c
      · rw [if_pos (by omega), if_pos c]
      · rw [if_neg (by omega), if_pos (by omega), if_neg (by omega), if_pos c]
      · rw [if_neg (by omega), if_neg (by omega), if_neg (by omega), if_neg (by omega)]
    · obtain ⟨e1, e2⟩ := h1 hn
      rw [e1, e2]
      simp only [if_true, cmpN]
      rcases Nat.lt_trichotomy x y with c | c | c
      · rw [if_neg (by omega), if_neg (by omega), if_pos c]; rfl
      · rw [if_neg (by omega), if_pos (by omega), if_neg (by omega), if_pos c]; rfl
      · rw [if_pos (by omega), if_neg (by omega), if_neg (by omega)]
  refine key _ _ (fun hn => ?_) (fun hn => ?_)
  · have hq0 := hn
    rw [h] at hq0
    have hp : p.num < 0 := by simpa [ng] using hn
    have hq : q.num < 0 := by simpa [ng] using hq0
    rw [Int.natCast_mul, Int.natCast_mul, ← Int.neg_mul, ← Int.neg_mul, Int.ofNat_natAbs_of_nonpos (by omega), Int.ofNat_natAbs_of_nonpos (by omega), Int.neg_neg, Int.neg_neg]
    exact ⟨rfl, rfl⟩
  · have hq0 := hn
    rw [h] at hq0
    have hp : ¬ p.num < 0 := by simpa [ng] using hn
    have hq : ¬ q.num < 0 := by simpa [ng] using hq0
    rw [Int.natCast_mul, Int.natCast_mul, Int.natAbs_of_nonneg (by omega), Int.natAbs_of_nonneg (by omega)]
    exact ⟨rfl, rfl⟩
theorem ng_of_sgn {p q : Rat} (h : sgnQ p = sgnQ q) : ng p = ng q := by
  rw [sgnQ_num, sgnQ_num] at h
  unfold ng
  apply decide_eq_decide.2
  constructor
  · intro hp
    rw [if_neg (show ¬ p.num = 0 by omega), if_pos hp] at h
    split at h
    · omega
    · split at h
      · assumption
      · omega
  · intro hq
    rw [if_neg (show ¬ q.num = 0 by omega), if_pos hq] at h
    split at h
    · omega
    · split at h
      · assumption
      · omega
theorem cmpQ_abs {p q : Rat} (h : sgnQ p = sgnQ q) : cmpQ p q = if ng p then -(cmpN (p.num.natAbs * q.den) (q.num.natAbs * p.den)) else cmpN (p.num.natAbs * q.den) (q.num.natAbs * p.den) := cmpQ_ng (ng_of_sgn h)
theorem cmpQ_ng_ne {p q : Rat} (h : ng p ≠ ng q) : cmpQ p q = if ng p then -1 else 1 := by
  have d1 : (0 : Int) < p.den := by have := p.den_nz; omega
  have d2 : (0 : Int) < q.den := by have := q.den_nz; omega
  rw [cmpQ_num]
  cases hp : ng p <;> cases hq : ng q
  · rw [hp, hq] at h; exact absurd rfl h
  · have a : ¬ p.num < 0 := by simpa [ng] using hp
    have b : q.num < 0 := by simpa [ng] using hq
    have e1 : 0 ≤ p.num * q.den := Int.mul_nonneg (by omega) (by omega)
    have e2 : q.num * p.den < 0 := Int.mul_neg_of_neg_of_pos b d1
    rw [if_neg (by omega), if_neg (by omega)]; rfl
  · have a : p.num < 0 := by simpa [ng] using hp
    have b : ¬ q.num < 0 := by simpa [ng] using hq
    have e1 : 0 ≤ q.num * p.den := Int.mul_nonneg (by omega) (by omega)
    have e2 : p.num * q.den < 0 := Int.mul_neg_of_neg_of_pos a d2
    rw [if_pos (by omega)]; rfl
  · rw [hp, hq] at h; exact absurd rfl h
set_option maxRecDepth 20000 in
theorem rorder_s (p q : Rat) (h : sz p + sz q ≤ 17592186044415) : CallsS Tryz.prog 112 [ratS p, ratS q] (I .i64 (cmpQ p q)) := by
  unfold sz at h
  have l1 := wl_mul p.num.natAbs q.den
  have l2 := wl_mul q.num.natAbs p.den
  have hp := sign_s p
  have hq := sign_s q
  rw [show (if p = 0 then 0 else if p < 0 then -1 else 1) = sgnQ p from rfl] at hp
  rw [show (if q = 0 then 0 else if q < 0 then -1 else 1) = sgnQ q from rfl] at hq
  refine calls Tryz.func112 rfl (by rfl) (by rfl) (by kernel_rfl) ?_
  simp -dsimp -implicitDefEqProofs [Tryz.f112]
  refine eCall.of hp (by simp) ?_
  simp -dsimp -implicitDefEqProofs
  refine eCall.of hq (by simp) ?_
  by_cases hs : sgnQ p = sgnQ q
  · rw [cmpQ_abs hs]
    have hc : ∀ x y, -1 ≤ cmpN x y ∧ cmpN x y ≤ 1 := fun x y => by unfold cmpN; split <;> (try split) <;> omega
    have w : IntKind.i64.wrap (-(cmpN (p.num.natAbs * q.den) (q.num.natAbs * p.den))) = -(cmpN (p.num.natAbs * q.den) (q.num.natAbs * p.den)) := by
      have := hc (p.num.natAbs * q.den) (q.num.natAbs * p.den)
      exact wrap_i64 _ (by omega) (by omega)
    simp -dsimp -implicitDefEqProofs [hs]
    refine eCall.of (mulN_s p.num.natAbs q.den (by omega) (by omega)) (by simp) ?_
    simp -dsimp -implicitDefEqProofs
    refine eCall.of (mulN_s q.num.natAbs p.den (by omega) (by omega)) (by simp) ?_
    simp -dsimp -implicitDefEqProofs
    refine eCall.of (cmp_s (p.num.natAbs * q.den) (q.num.natAbs * p.den) (by rw [wl_def]; omega) (by rw [wl_def]; omega)) (by simp) ?_
    by_cases hn : p.num < 0
    · simp -dsimp -implicitDefEqProofs [hn, ng, w]
    · simp -dsimp -implicitDefEqProofs [hn, ng]
  · rw [cmpQ_sgn hs]
    by_cases hlt : sgnQ p < sgnQ q
    · simp -dsimp -implicitDefEqProofs [hs, hlt]
    · simp -dsimp -implicitDefEqProofs [hs, hlt]
def cap (q : Rat) : Rat := if 4096 < sz q then 0 else q
set_option maxRecDepth 20000 in
theorem told_s (q : Rat) (h : sz q ≤ 35184372088832) : CallsS Tryz.prog 166 [ratS q] (.v (fS (cap q))) := by
  unfold sz at h
  have hsz : sz q = wl q.num.natAbs + wl q.den := rfl
  have w : IntKind.i64.wrap (((toW q.num.natAbs).length : Int) + (toW q.den).length) = ((sz q : Nat) : Int) := by
    rw [wl_def, wl_def, wrap_i64 _ (by omega) (by omega), hsz]; omega
  refine calls Tryz.func166 rfl (by rfl) (by rfl) (by kernel_rfl) ?_
  unfold cap
  by_cases hc : 4096 < sz q
  · have hc' : (4096 : Int) < (sz q : Nat) := by omega
    rw [if_pos hc]
    simp -dsimp -implicitDefEqProofs [Tryz.f166, w, hc', slots, rowsOf, toW_zero, toW_one]
  · have hc' : ¬ (4096 : Int) < (sz q : Nat) := by omega
    rw [if_neg hc]
    simp -dsimp -implicitDefEqProofs [Tryz.f166, w, hc']
    refine eCall.of (own_s (toW q.num.natAbs) (by rw [wl_def]; omega)) (by simp) ?_
    simp -dsimp -implicitDefEqProofs
    refine eCall.of (own_s (toW q.den) (by rw [wl_def]; omega)) (by simp) ?_
    simp -dsimp -implicitDefEqProofs
end Go.Proofs.YtaljbebkooppiaaGreat.Sh

