/- A part of the proof: W8, W9, W10, W11, W12, W13, W14, W15, Knuth, W16 -/
import Derived.Test.YtaljbebkooppiaaGreatV11
set_option linter.unusedSimpArgs false
set_option linter.unusedVariables false
set_option linter.unusedSectionVars false
namespace Go.Proofs.YtaljbebkooppiaaGreat.Sh
open Go Go.RowKit
set_option maxRecDepth 20000 in
theorem mul_s (x y : List Int) (hx : InW x) (hy : InW y) (tx : Trim x) (ty : Trim y) (h1 : x.length ≤ 17592186044416) (h2 : y.length ≤ 17592186044416) : CallsS Tryz.prog 163 [.one (wS x), .one (wS y)] (.v (.one (nS (val x * val y).toNat))) := by
  refine calls Tryz.func163 rfl (by rfl) (by rfl) (by kernel_rfl) ?_
  by_cases x0 : x = []
  · subst x0
    simp -dsimp -implicitDefEqProofs [Tryz.f163, val, toW_zero]
  have x0' : ¬ x.length = 0 := by simpa using x0
  by_cases y0 : y = []
  · subst y0
    simp -dsimp -implicitDefEqProofs [Tryz.f163, x0, x0', val, toW_zero]
  have y0' : ¬ y.length = 0 := by simpa using y0
  simp -dsimp -implicitDefEqProofs [Tryz.f163, x0, x0', y0, y0']
  refine eCall.of (wone_s x) (by simp) ?_
  by_cases x1 : x = [1]
  · have hv : nS (val x * val y).toNat = wS y := by
      have e : val x = 1 := by rw [x1]; simp [val]
      rw [e, Int.one_mul, nS, toW_val hy ty]
    rw [hv]
    simp -dsimp -implicitDefEqProofs [x1]
    refine eCall.of (own_s y (by omega)) (by simp) ?_
    simp -dsimp -implicitDefEqProofs
  simp -dsimp -implicitDefEqProofs [x1]
  refine eCall.of (wone_s y) (by simp) ?_
  by_cases y1 : y = [1]
  · have hv : nS (val x * val y).toNat = wS x := by
      have e : val y = 1 := by rw [y1]; simp [val]
      rw [e, Int.mul_one, nS, toW_val hx tx]
    rw [hv]
    simp -dsimp -implicitDefEqProofs [y1]
    refine eCall.of (own_s x (by omega)) (by simp) ?_
    simp -dsimp -implicitDefEqProofs
  have w : IntKind.i64.wrap ((x.length : Int) + y.length) = ((x.length + y.length : Nat) : Int) := by rw [wrap_i64 _ (by omega) (by omega)]; rfl
  have tn : ((x.length : Int) + y.length).toNat = x.length + y.length := by omega
  simp -dsimp -implicitDefEqProofs [y1, w]
  repeat refine And.intro (by omega) ?_
  refine sw_loop_e (fun p : {p : Nat × List Int // TimesInv x y p.1 p.2} => SS.of [(0, .v (.one (wS x))), (1, .v (.one (wS y))), (4, .v (.one .nils)), (5, .v (.one (.ms 0 0 (x.length + y.length) 1 true))), (34, .v (.one (wS x))), (35, I .i64 x.length), (36, I .i64 p.1.1)] [(0, oS p.1.2)] 1)
    (fun p => x.length - p.1.1) ⟨(0, List.replicate (x.length + y.length) 0), ⟨by simp, by simp, by intro z hz; rw [List.eq_of_mem_replicate hz]; omega, ?_⟩⟩ (by kernel_rfl) (Le.to (by simp [tn]) (by simp [tn]) (by simp)) ?_
  · simp [val_replicate, val]
  rintro ⟨⟨i, l⟩, hp⟩
  simp only at hp
  have hlen := hp.len
  by_cases a1 : i < x.length
  · have ax : 0 ≤ x[i] ∧ x[i] < 4294967296 := hx _ (List.getElem_mem a1)
    have e1 := at0_lt a1
    have wi : IntKind.i64.wrap ((i : Int) + 1) = ((i + 1 : Nat) : Int) := by rw [wrap_i64 _ (by omega) (by omega)]; rfl
    have wim : IntKind.i64.wrap ((i : Int) + y.length) = ((i + y.length : Nat) : Int) := by rw [wrap_i64 _ (by omega) (by omega)]; rfl
    have wim1 : IntKind.i64.wrap ((i : Int) + y.length + 1) = ((i + y.length + 1 : Nat) : Int) := by rw [wrap_i64 _ (by omega) (by omega)]; rfl
    have tim : ((i : Int) + y.length + 1).toNat - i = y.length + 1 := by omega
    simp -dsimp -implicitDefEqProofs (disch := omega) [a1, wim, wim1, List.getElem?_cons_zero]
    repeat refine And.intro (by omega) ?_
    refine sw_loop_e (fun p : {p : Nat × List Int × Int // RowInv x y i p.1 p.2.1 p.2.2} => SS.of [(0, .v (.one (wS x))), (1, .v (.one (wS y))), (4, .v (.one .nils)), (5, .v (.one (.ms 0 0 (x.length + y.length) 1 true))), (34, .v (.one (wS x))), (35, I .i64 x.length), (36, I .i64 i), (6, I .i64 i), (7, I .u32 x[i]), (8, I .u64 p.1.2.2), (9, .v (.one (.ms 0 i (y.length + 1) 1 false))), (54, .v (.one (wS y))), (55, I .i64 y.length), (56, I .i64 p.1.1)] [(0, oS p.1.2.1)] 1)
      (fun p => y.length - p.1.1) ⟨(0, l, 0), hp.start⟩ (by kernel_rfl) (Le.to (by simp [tim]) (by simp) (by simp)) ?_
    rintro ⟨⟨k, l, c⟩, hr⟩
    simp only at hr
    have hlen := hr.len
    have c0 := hr.c0
    have c1 := hr.c1
    by_cases a2 : k < y.length
    · have ay : 0 ≤ y[k] ∧ y[k] < 4294967296 := hy _ (List.getElem_mem a2)
      have e2 := at0_lt a2
      have a3 : i + k < l.length := by omega
      have al : 0 ≤ l[i + k] ∧ l[i + k] < 4294967296 := hr.inw _ (List.getElem_mem a3)
      have e3 := at0_lt a3
      have pr := prod_lt ax ay
      have wk : IntKind.i64.wrap ((k : Int) + 1) = ((k + 1 : Nat) : Int) := by rw [wrap_i64 _ (by omega) (by omega)]; rfl
      simp -dsimp -implicitDefEqProofs (disch := omega) [a1, a2, a3, wk, hlen, wrap_u64_id, List.getElem?_cons_zero]
      repeat refine And.intro (by omega) ?_
      refine Again.by ⟨(k + 1, l.set (i + k) ((at0 x i * at0 y k + at0 l (i + k) + c) % 4294967296), (at0 x i * at0 y k + at0 l (i + k) + c) / 4294967296), hr.step hx hy a1 a2 rfl⟩ (Le.to ?_ ?_ ?_) ?_
      all_goals simp (disch := omega) [e1, e2, e3, shr32, wrap_u64_id, wrap_u32, Int.add_comm c]
      all_goals omega
    · have hk2 : k = y.length := by have := hr.hk; omega
      subst hk2
      have wc : IntKind.u32.wrap c = c := wrap_u32_id c (by omega) (by omega)
      simp -dsimp -implicitDefEqProofs [hlen, wi]
      repeat refine And.intro (by omega) ?_
      refine Again.by ⟨(i + 1, l.set (i + y.length) c), hr.done a1⟩ (Le.to ?_ ?_ ?_) ?_
      all_goals simp [wc]
      all_goals omega
  · have hi2 : i = x.length := by have := hp.hi; omega
    subst hi2
    have hv := hp.eq
    rw [List.take_of_length_le (by omega), List.take_of_length_le (Nat.le_refl _)] at hv
    simp -dsimp -implicitDefEqProofs [hlen]
    have ht := trimF_s l hp.inw (by omega)
    rw [hv] at ht
    refine eCall.of ht (by simp [hlen]) ?_
    simp -dsimp -implicitDefEqProofs
end Go.Proofs.YtaljbebkooppiaaGreat.Sh

namespace Go.Proofs.YtaljbebkooppiaaGreat.Sh
open Go Go.RowKit
theorem shl32 (s : Int) (h0 : 0 ≤ s) (h1 : s < 4294967296) : IntKind.u64.wrap (s * 2 ^ min 32 IntKind.u64.bits) = s * 4294967296 := by
  show IntKind.u64.wrap (s * 4294967296) = _
  exact wrap_u64_id _ (by omega) (by omega)
theorem or_word (h l : Int) (h0 : 0 ≤ h) (h1 : h < 4294967296) (l0 : 0 ≤ l) (l1 : l < 4294967296) : bitsOf .or .u64 (h * 4294967296) l = h * 4294967296 + l := by
  obtain ⟨a, rfl⟩ := Int.eq_ofNat_of_zero_le h0
  obtain ⟨b, rfl⟩ := Int.eq_ofNat_of_zero_le l0
  have e : (BitVec.ofInt 64 ((a : Int) * 4294967296) ||| BitVec.ofInt 64 (b : Int)).toNat = a * 4294967296 + b := by
    rw [BitVec.toNat_or, BitVec.toNat_ofInt, BitVec.toNat_ofInt]
    have e1 : (((a : Int) * 4294967296) % ((2 ^ 64 : Nat) : Int)).toNat = 2 ^ 32 * a := by omega
    have e2 : ((b : Int) % ((2 ^ 64 : Nat) : Int)).toNat = b := by omega
    rw [e1, e2, ← Nat.two_pow_add_eq_or_of_lt (by omega)]
    omega
  show IntKind.u64.wrap (BitVec.ofInt 64 ((a : Int) * 4294967296) ||| BitVec.ofInt 64 (b : Int)).toNat = _
  rw [e, wrap_u64_id _ (by omega) (by omega)]
  omega
def smallL (x : List Int) : Int × Bool := if x.length ≤ 2 then (val x, true) else (0, false)
set_option maxRecDepth 20000 in
theorem wsmall_s (x : List Int) (hx : InW x) : CallsS Tryz.prog 217 [.one (wS x)] (.tup [.one (.int .u64 (smallL x).1), .one (.bool (smallL x).2)]) := by
  refine calls Tryz.func217 rfl (by rfl) (by rfl) (by kernel_rfl) ?_
  match x with
  | [] => simp -dsimp -implicitDefEqProofs [Tryz.f217, smallL, val]
  | [a] =>
    have h1 := hx.head
    simp -dsimp -implicitDefEqProofs [Tryz.f217, smallL, val, wrap_u64_id a h1.1 (by omega)]
  | [a, b] =>
    have h1 := hx.head
    have h2 := hx.tail.head
    simp -dsimp -implicitDefEqProofs [Tryz.f217, smallL, val, wrap_u64_id a h1.1 (by omega), wrap_u64_id b h2.1 (by omega), shl32 b h2.1 h2.2, or_word b a h2.1 h2.2 h1.1 h1.2]
    omega
  | a :: b :: c :: l =>
    have n0 : ¬ ((l.length : Int) + 1 + 1 + 1 = 0) := by omega
    have n1 : ¬ ((l.length : Int) + 1 + 1 + 1 = 1) := by omega
    have n2 : ¬ ((l.length : Int) + 1 + 1 + 1 = 2) := by omega
    simp -dsimp -implicitDefEqProofs [Tryz.f217, smallL, n0, n1, n2]
structure DivInv (x : List Int) (d : Int) (i : Nat) (l : List Int) (r : Int) : Prop where
  hi : i ≤ x.length
  len : l.length = x.length
  inw : InW l
  r0 : 0 ≤ r
  r1 : r < d
  eq : val (x.drop i) = val (l.drop i) * d + r
theorem DivInv.step {x l : List Int} {d r : Int} {n : Nat} (h : DivInv x d (n + 1) l r) (hx : InW x) (hd1 : d < 4294967296) (hn : n < x.length) :
    DivInv x d n (l.set n ((r * 4294967296 + x[n]) / d)) ((r * 4294967296 + x[n]) % d) := by
  have ax : 0 ≤ x[n] ∧ x[n] < 4294967296 := hx _ (List.getElem_mem hn)
  have r0 := h.r0
  have r1 := h.r1
  have hl : n < l.length := by rw [h.len]; exact hn
  have q0 : 0 ≤ (r * 4294967296 + x[n]) / d := Int.ediv_nonneg (by omega) (by omega)
  have q1 : (r * 4294967296 + x[n]) / d < 4294967296 := by
    apply Int.ediv_lt_of_lt_mul (by omega)
    have : (r + 1) * 4294967296 ≤ d * 4294967296 := Int.mul_le_mul_of_nonneg_right (by omega) (by omega)
    have e : (4294967296 : Int) * d = d * 4294967296 := Int.mul_comm ..
    omega
  refine ⟨by omega, by simp [h.len], ?_, Int.emod_nonneg _ (by omega), Int.emod_lt_of_pos _ (by omega), ?_⟩
  · intro z hz
    rcases List.mem_or_eq_of_mem_set hz with hz | rfl
    · exact h.inw z hz
    · exact ⟨q0, q1⟩
  · rw [List.drop_eq_getElem_cons hn, List.drop_eq_getElem_cons (l := l.set n _) (by simpa using hl), val_cons, val_cons, h.eq, List.getElem_set_self, List.drop_set_of_lt (by omega)]
    have e := Int.emod_add_mul_ediv (r * 4294967296 + x[n]) d
    generalize (r * 4294967296 + x[n]) / d = q at *
    generalize (r * 4294967296 + x[n]) % d = m at *
    generalize val (l.drop (n + 1)) = V at *
    grind
/-FUN-/
set_option maxRecDepth 20000 in
theorem halves_s (x : List Int) (d : Int) (hx : InW x) (hd0 : 0 < d) (hd1 : d < 4294967296) (h1 : x.length ≤ 35184372088832) : CallsS Tryz.prog 207 [.one (wS x), .one (.int .u32 d)] (.tup [.one (nS (val x / d).toNat), .one (.int .u32 (val x % d))]) := by
  refine calls Tryz.func207 rfl (by rfl) (by rfl) (by kernel_rfl) ?_
  have w : IntKind.i64.wrap ((x.length : Int) - 1) = x.length - 1 := wrap_i64 _ (by omega) (by omega)
  simp -dsimp -implicitDefEqProofs [Tryz.f207, w]
  repeat refine And.intro (by omega) ?_
  refine sw_loop_e (fun p : {p : Nat × List Int × Int // DivInv x d p.1 p.2.1 p.2.2} => SS.of [(0, .v (.one (wS x))), (1, I .u32 d), (4, .v (.one .nils)), (6, .v (.one (.ms 0 0 x.length 1 true))), (7, I .u64 p.1.2.2), (8, I .i64 (p.1.1 - 1))] [(0, oS p.1.2.1)] 1)
    (fun p => p.1.1) ⟨(x.length, List.replicate x.length 0, 0), ⟨by simp, by simp, by intro z hz; rw [List.eq_of_mem_replicate hz]; omega, by simp, hd0, by simp [val]⟩⟩ (by kernel_rfl) (Le.to (by simp) (by simp) (by simp)) ?_
  rintro ⟨⟨i, l, r⟩, hp⟩
  simp only at hp
  have r0 := hp.r0
  have r1 := hp.r1
  have hlen := hp.len
  cases i with
  | zero =>
    have e := hp.eq
    simp only [List.drop_zero] at e
    have v0 := val_nonneg hp.inw
    have eq1 : val x / d = val l := by
      rw [e, Int.add_comm, Int.add_mul_ediv_right _ _ (by omega), Int.ediv_eq_zero_of_lt r0 r1]; omega
    have eq2 : val x % d = r := by
      rw [e, Int.add_comm, Int.add_mul_emod_self_right, Int.emod_eq_of_lt r0 r1]
    rw [eq1, eq2]
    simp -dsimp -implicitDefEqProofs [hlen]
    refine eCall.of (trimR_s l hp.inw (by omega)) (by simp [hlen]) ?_
    simp -dsimp -implicitDefEqProofs [wrap_u32_id r r0 (by omega)]
  | succ n =>
    have hn : n < x.length := hp.hi
    have ax : 0 ≤ x[n] ∧ x[n] < 4294967296 := hx _ (List.getElem_mem hn)
    have wn : IntKind.i64.wrap ((n : Int) - 1) = n - 1 := wrap_i64 _ (by omega) (by omega)
    have q0 : 0 ≤ (r * 4294967296 + x[n]) / d := Int.ediv_nonneg (by omega) (by omega)
    have q1 : (r * 4294967296 + x[n]) / d ≤ r * 4294967296 + x[n] := Int.ediv_le_self _ (by omega)
    have td : (r * 4294967296 + x[n]).tdiv d = (r * 4294967296 + x[n]) / d := Int.tdiv_eq_ediv_of_nonneg (by omega)
    have tm : (r * 4294967296 + x[n]).tmod d = (r * 4294967296 + x[n]) % d := Int.tmod_eq_emod_of_nonneg (by omega)
    have hst := hp.step hx hd1 hn
    have q2 := hst.inw _ (List.mem_iff_getElem.2 ⟨n, by simp [hlen]; exact hn, List.getElem_set_self ..⟩)
    have hS : bitsOf .or .u64 (IntKind.u64.wrap (r * 2 ^ min 32 IntKind.u64.bits)) (IntKind.u64.wrap x[n]) = r * 4294967296 + x[n] := by rw [shl32 r r0 (by omega), wrap_u64_id x[n] ax.1 (by omega), or_word r x[n] r0 (by omega) ax.1 ax.2]
    have wq : IntKind.u64.wrap ((r * 4294967296 + x[n]) / d) = (r * 4294967296 + x[n]) / d := wrap_u64_id _ q0 (by omega)
    have wq2 : IntKind.u32.wrap ((r * 4294967296 + x[n]) / d) = (r * 4294967296 + x[n]) / d := wrap_u32_id _ q2.1 q2.2
    have dn : ¬ d = 0 := by omega
    have wd : IntKind.u64.wrap d = d := wrap_u64_id _ (by omega) (by omega)
    simp -dsimp -implicitDefEqProofs [hn, hlen, wn, wd, dn]
    repeat refine And.intro (by omega) ?_
    refine Again.by ⟨(n, l.set n ((r * 4294967296 + x[n]) / d), (r * 4294967296 + x[n]) % d), hst⟩ (Le.to ?_ ?_ ?_) ?_
    all_goals simp [hS, td, tm, wq, wq2]
set_option maxRecDepth 20000 in
theorem short_s (x : List Int) (d : Int) (hx : InW x) (hd0 : 0 < d) (hd1 : d < 4294967296) (h1 : x.length ≤ 35184372088832) : CallsS Tryz.prog 220 [.one (wS x), .one (.int .u32 d)] (.tup [.one (nS (val x / d).toNat), .one (.int .u32 (val x % d))]) := by
  refine calls Tryz.func220 rfl (by rfl) (by rfl) (by kernel_rfl) ?_
  have w : IntKind.i64.wrap ((x.length : Int) - 1) = x.length - 1 := wrap_i64 _ (by omega) (by omega)
  simp -dsimp -implicitDefEqProofs [Tryz.f220, w]
  repeat refine And.intro (by omega) ?_
  refine sw_loop_e (fun p : {p : Nat × List Int × Int // DivInv x d p.1 p.2.1 p.2.2} => SS.of [(0, .v (.one (wS x))), (1, I .u32 d), (4, .v (.one .nils)), (6, .v (.one (.ms 0 0 x.length 1 true))), (7, I .u64 p.1.2.2), (8, I .i64 (p.1.1 - 1))] [(0, oS p.1.2.1)] 1)
    (fun p => p.1.1) ⟨(x.length, List.replicate x.length 0, 0), ⟨by simp, by simp, by intro z hz; rw [List.eq_of_mem_replicate hz]; omega, by simp, hd0, by simp [val]⟩⟩ (by kernel_rfl) (Le.to (by simp) (by simp) (by simp)) ?_
  rintro ⟨⟨i, l, r⟩, hp⟩
  simp only at hp
  have r0 := hp.r0
  have r1 := hp.r1
  have hlen := hp.len
  cases i with
  | zero =>
    have e := hp.eq
    simp only [List.drop_zero] at e
    have v0 := val_nonneg hp.inw
    have eq1 : val x / d = val l := by
      rw [e, Int.add_comm, Int.add_mul_ediv_right _ _ (by omega), Int.ediv_eq_zero_of_lt r0 r1]; omega
    have eq2 : val x % d = r := by
      rw [e, Int.add_comm, Int.add_mul_emod_self_right, Int.emod_eq_of_lt r0 r1]
    rw [eq1, eq2]
    simp -dsimp -implicitDefEqProofs [hlen]
    refine eCall.of (trimF_s l hp.inw (by omega)) (by simp [hlen]) ?_
    simp -dsimp -implicitDefEqProofs [wrap_u32_id r r0 (by omega)]
  | succ n =>
    have hn : n < x.length := hp.hi
    have ax : 0 ≤ x[n] ∧ x[n] < 4294967296 := hx _ (List.getElem_mem hn)
    have wn : IntKind.i64.wrap ((n : Int) - 1) = n - 1 := wrap_i64 _ (by omega) (by omega)
    have q0 : 0 ≤ (r * 4294967296 + x[n]) / d := Int.ediv_nonneg (by omega) (by omega)
    have q1 : (r * 4294967296 + x[n]) / d ≤ r * 4294967296 + x[n] := Int.ediv_le_self _ (by omega)
    have td : (r * 4294967296 + x[n]).tdiv d = (r * 4294967296 + x[n]) / d := Int.tdiv_eq_ediv_of_nonneg (by omega)
    have tm : (r * 4294967296 + x[n]).tmod d = (r * 4294967296 + x[n]) % d := Int.tmod_eq_emod_of_nonneg (by omega)
    have hst := hp.step hx hd1 hn
    have q2 := hst.inw _ (List.mem_iff_getElem.2 ⟨n, by simp [hlen]; exact hn, List.getElem_set_self ..⟩)
    have hS : bitsOf .or .u64 (IntKind.u64.wrap (r * 2 ^ min 32 IntKind.u64.bits)) (IntKind.u64.wrap x[n]) = r * 4294967296 + x[n] := by rw [shl32 r r0 (by omega), wrap_u64_id x[n] ax.1 (by omega), or_word r x[n] r0 (by omega) ax.1 ax.2]
    have wq : IntKind.u64.wrap ((r * 4294967296 + x[n]) / d) = (r * 4294967296 + x[n]) / d := wrap_u64_id _ q0 (by omega)
    have wq2 : IntKind.u32.wrap ((r * 4294967296 + x[n]) / d) = (r * 4294967296 + x[n]) / d := wrap_u32_id _ q2.1 q2.2
    have dn : ¬ d = 0 := by omega
    have wd : IntKind.u64.wrap d = d := wrap_u64_id _ (by omega) (by omega)
    simp -dsimp -implicitDefEqProofs [hn, hlen, wn, wd, dn]
    repeat refine And.intro (by omega) ?_
    refine Again.by ⟨(n, l.set n ((r * 4294967296 + x[n]) / d), (r * 4294967296 + x[n]) % d), hst⟩ (Le.to ?_ ?_ ?_) ?_
    all_goals simp [hS, td, tm, wq, wq2]
end Go.Proofs.YtaljbebkooppiaaGreat.Sh

namespace Go.Proofs.YtaljbebkooppiaaGreat.Sh
open Go Go.RowKit
set_option maxRecDepth 20000 in
theorem smallR_s (x : List Int) (hx : InW x) (h2 : x.length ≤ 2) : CallsS Tryz.prog 205 [.one (wS x)] (I .u64 (val x)) := by
  refine calls Tryz.func205 rfl (by rfl) (by rfl) (by kernel_rfl) ?_
  have w : IntKind.i64.wrap ((x.length : Int) - 1) = x.length - 1 := wrap_i64 _ (by omega) (by omega)
  simp -dsimp -implicitDefEqProofs [Tryz.f205, w]
  refine sw_loop_e (fun n : {n : Nat // n ≤ x.length} => SS.of [(0, .v (.one (wS x))), (2, I .u64 0), (3, I .u64 (val (x.drop n.1))), (4, I .i64 (n.1 - 1))] [] 0)
    (fun n => n.1) ⟨x.length, by omega⟩ (by kernel_rfl) (Le.to (by simp [val]) (by simp) (by simp)) ?_
  rintro ⟨i, hi⟩
  cases i with
  | zero => simp -dsimp -implicitDefEqProofs
  | succ n =>
    have hn : n < x.length := hi
    have ax : 0 ≤ x[n] ∧ x[n] < 4294967296 := hx _ (List.getElem_mem hn)
    have wn : IntKind.i64.wrap ((n : Int) - 1) = n - 1 := wrap_i64 _ (by omega) (by omega)
    have d0 := val_nonneg (hx.drop (n + 1))
    have d1 := val_lt (hx.drop (n + 1))
    have d2 : (4294967296 : Int) ^ (x.drop (n + 1)).length ≤ 4294967296 ^ 1 := pow_mono_ (by rw [List.length_drop]; omega)
    have d3 : (4294967296 : Int) ^ 1 = 4294967296 := by decide
    have hS : bitsOf .or .u64 (IntKind.u64.wrap (val (x.drop (n + 1)) * 2 ^ min 32 IntKind.u64.bits)) (IntKind.u64.wrap x[n]) = val (x.drop (n + 1)) * 4294967296 + x[n] := by
      rw [shl32 _ d0 (by omega), wrap_u64_id x[n] ax.1 (by omega), or_word _ x[n] d0 (by omega) ax.1 ax.2]
    simp -dsimp -implicitDefEqProofs [hn, wn]
    refine Again.by ⟨n, by omega⟩ (Le.to ?_ ?_ ?_) ?_
    all_goals simp [hS]
    rw [List.drop_eq_getElem_cons hn, val_cons]; omega
end Go.Proofs.YtaljbebkooppiaaGreat.Sh

namespace Go.Proofs.YtaljbebkooppiaaGreat.Sh
open Go Go.RowKit
def padW : Nat → Int → List Int
  | 0, _ => []
  | n + 1, v => v % 4294967296 :: padW n (v / 4294967296)
theorem padW_val : ∀ {l : List Int}, InW l → padW l.length (val l) = l
  | [], _ => rfl
  | a :: l, h => by
    have h1 := h.head
    have ih := padW_val h.tail
    simp only [List.length_cons, padW, val_cons]
    rw [show (a + 4294967296 * val l) % 4294967296 = a by omega, show (a + 4294967296 * val l) / 4294967296 = val l by omega, ih]
theorem padW_len : ∀ (n : Nat) (v : Int), (padW n v).length = n
  | 0, _ => rfl
  | n + 1, v => by simp [padW, padW_len n]
theorem padW_inW : ∀ (n : Nat) (v : Int), InW (padW n v)
  | 0, _ => InW.nil
  | n + 1, v => InW.cons (by omega) (by omega) (padW_inW n _)
theorem val_padW : ∀ (n : Nat) (v : Int), 0 ≤ v → v < 4294967296 ^ n → val (padW n v) = v
  | 0, v, h0, h1 => by simp at h1; simp [padW, val]; omega
  | n + 1, v, h0, h1 => by
    rw [Int.pow_succ] at h1
    have ih := val_padW n (v / 4294967296) (by omega) (by omega)
    simp only [padW, val_cons, ih]; omega
theorem padW_eq {l : List Int} {n : Nat} {v : Int} (h : InW l) (hn : l.length = n) (hv : val l = v) : l = padW n v := by
  subst hn hv; rw [padW_val h]
theorem or_add (k : IntKind) (hk : k = .u32 ∨ k = .u64) (s : Nat) (a c : Int) (a0 : 0 ≤ a) (a1 : a < 2 ^ s) (c0 : 0 ≤ c) (hm : 2 ^ s * c + a < 2 ^ k.bits) : bitsOf .or k a (2 ^ s * c) = 2 ^ s * c + a := by
  obtain ⟨a, rfl⟩ := Int.eq_ofNat_of_zero_le a0
  obtain ⟨c, rfl⟩ := Int.eq_ofNat_of_zero_le c0
  have cast : ((2 ^ s * c + a : Nat) : Int) = (2 : Int) ^ s * c + a := by simp
  have cast2 : ((2 ^ s * c : Nat) : Int) = (2 : Int) ^ s * c := by simp
  have ha : a < 2 ^ s := by
    have : ((a : Nat) : Int) < ((2 ^ s : Nat) : Int) := by simpa using a1
    omega
  rw [← cast] at hm
  have hb : 2 ^ s * c + a < 2 ^ k.bits := by
    have : ((2 ^ s * c + a : Nat) : Int) < ((2 ^ k.bits : Nat) : Int) := by simpa using hm
    omega
  have e : (BitVec.ofInt k.bits (a : Int) ||| BitVec.ofInt k.bits ((2 : Int) ^ s * c)).toNat = 2 ^ s * c + a := by
    rw [← cast2, BitVec.toNat_or]
    have f : ∀ m : Nat, m < 2 ^ k.bits → (BitVec.ofInt k.bits (m : Int)).toNat = m := fun m h => by
      rw [BitVec.toNat_ofInt]
      have : ((m : Int) % ((2 ^ k.bits : Nat) : Int)) = m := Int.emod_eq_of_lt (by omega) (by exact_mod_cast h)
      rw [this]; simp
    rw [f a (by omega), f (2 ^ s * c) (by omega), Nat.or_comm, ← Nat.two_pow_add_eq_or_of_lt ha]
  show k.wrap (BitVec.ofInt k.bits (a : Int) ||| BitVec.ofInt k.bits ((2 : Int) ^ s * c)).toNat = _
  rw [e, ← cast]
  rcases hk with rfl | rfl
  · exact wrap_u32_id _ (by omega) (by simp [IntKind.bits] at hb; omega)
  · exact wrap_u64_id _ (by omega) (by simp [IntKind.bits] at hb; omega)
end Go.Proofs.YtaljbebkooppiaaGreat.Sh

namespace Go.Proofs.YtaljbebkooppiaaGreat.Sh
open Go Go.RowKit
structure ShiftInv (x : List Int) (s i : Nat) (l : List Int) : Prop where
  hi : i ≤ x.length
  len : l.length = x.length + 1
  inw : InW l
  top : at0 l i < 2 ^ s
  zero : ∀ j, i < j → at0 l j = 0
  eq : val (l.take (i + 1)) = val (x.take i) * 2 ^ s
theorem two_pos (n : Nat) : (0 : Int) < 2 ^ n := Int.pow_pos (by decide)
theorem two_mono {a b : Nat} (h : a ≤ b) : (2 : Int) ^ a ≤ 2 ^ b := by
  obtain ⟨k, rfl⟩ := Nat.exists_eq_add_of_le h
  rw [Int.pow_add]
  have h1 := two_pos a
  have h2 := two_pos k
  have h3 : (2 : Int) ^ a * 1 ≤ 2 ^ a * 2 ^ k := Int.mul_le_mul_of_nonneg_left (by omega) (by omega)
  omega
theorem two_pow_s {s : Nat} (hs : s < 32) : ∃ t : Int, (4294967296 : Int) = 2 ^ s * t ∧ 2 ≤ t ∧ (1 : Int) ≤ 2 ^ s ∧ (2 : Int) ^ s ≤ 2147483648 := by
  refine ⟨2 ^ (32 - s), ?_, ?_, ?_, ?_⟩
  · rw [← Int.pow_add, show s + (32 - s) = 32 by omega]; rfl
  · have := two_mono (show 1 ≤ 32 - s by omega)
    rw [show (2 : Int) ^ 1 = 2 by decide] at this; exact this
  · have := two_pos s; omega
  · have := two_mono (show s ≤ 31 by omega)
    rw [show (2 : Int) ^ 31 = 2147483648 by decide] at this; exact this
theorem at0_set_self {l : List Int} {i : Nat} (v : Int) (h : i < l.length) : at0 (l.set i v) i = v := by simp [at0, h]
theorem at0_set_ne {l : List Int} {i j : Nat} (v : Int) (h : i ≠ j) : at0 (l.set i v) j = at0 l j := by simp [at0, List.getElem?_set_ne h]
theorem low_bits {s : Nat} (hs : s < 32) {a z : Int} (z0 : 0 ≤ z) (a0 : 0 ≤ a) (a1 : a < 2 ^ s) :
    a + (z * 2 ^ s) % 4294967296 < 4294967296 ∧ bitsOf .or .u32 a ((z * 2 ^ s) % 4294967296) = a + (z * 2 ^ s) % 4294967296 := by
  obtain ⟨t, h1, h2, h3, h4⟩ := two_pow_s hs
  have e : (z * 2 ^ s) % 4294967296 = 2 ^ s * (z % t) := by rw [h1, Int.mul_comm, Int.mul_emod_mul_of_pos _ _ (by omega)]
  have m0 := Int.emod_nonneg z (show t ≠ 0 by omega)
  have m1 := Int.emod_lt_of_pos z (show 0 < t by omega)
  rw [e]
  have hlt : (2 : Int) ^ s * (z % t) + 2 ^ s ≤ 4294967296 := by
    have : (2 : Int) ^ s * (z % t + 1) ≤ 2 ^ s * t := Int.mul_le_mul_of_nonneg_left (by omega) (by omega)
    rw [Int.mul_add, ← h1] at this; omega
  refine ⟨by omega, ?_⟩
  rw [or_add .u32 (Or.inl rfl) s a (z % t) a0 a1 m0 (by simp only [IntKind.bits]; omega)]; omega
theorem ShiftInv.step {x l : List Int} {s i : Nat} (h : ShiftInv x s i l) (hs : s < 32) (hx : InW x) (hi : i < x.length) :
    ShiftInv x s (i + 1) ((l.set i (at0 l i + (at0 x i * 2 ^ s) % 4294967296)).set (i + 1) ((at0 x i * 2 ^ s) / 4294967296)) := by
  have ax := at0_W hx i
  have al := at0_W h.inw i
  obtain ⟨t, h1, h2, h3, h4⟩ := two_pow_s hs
  have lb := low_bits hs ax.1 al.1 h.top
  have hlen := h.len
  have y0 : 0 ≤ at0 x i * 2 ^ s := Int.mul_nonneg ax.1 (by omega)
  have y1 : at0 x i * 2 ^ s / 4294967296 < 2 ^ s := by
    apply Int.ediv_lt_of_lt_mul (by omega)
    rw [Int.mul_comm]
    exact Int.mul_lt_mul_of_pos_left ax.2 (by omega)
  have y2 : 0 ≤ at0 x i * 2 ^ s / 4294967296 := Int.ediv_nonneg y0 (by omega)
  have y3 : 0 ≤ at0 x i * 2 ^ s % 4294967296 := Int.emod_nonneg _ (by omega)
  refine ⟨by omega, by simp [h.len], ?_, ?_, ?_, ?_⟩
  · intro z hz
    rcases List.mem_or_eq_of_mem_set hz with hz | rfl
    · rcases List.mem_or_eq_of_mem_set hz with hz | rfl
      · exact h.inw z hz
      · omega
    · omega
  · rw [at0_set_self _ (by simp; omega)]; exact y1
  · intro j hj
    rw [at0_set_ne _ (by omega), at0_set_ne _ (by omega)]; exact h.zero j (by omega)
  · rw [val_take_succ _ (i + 1), at0_set_self _ (by simp; omega), List.take_set_of_le (Nat.le_refl _), val_take_succ _ i, at0_set_self _ (by omega), List.take_set_of_le (Nat.le_refl _), val_take_succ x]
    have e := h.eq
    rw [val_take_succ] at e
    have e4 := Int.emod_add_mul_ediv (at0 x i * 2 ^ s) 4294967296
    rw [Int.pow_succ]
    generalize at0 x i * 2 ^ s % 4294967296 = r at *
    generalize at0 x i * 2 ^ s / 4294967296 = q at *
    generalize (4294967296 : Int) ^ i = A at *
    generalize (2 : Int) ^ s = S at *
    generalize val (x.take i) = X at *
    generalize val (l.take i) = L at *
    grind
theorem or_zero (q : Int) (h0 : 0 ≤ q) (h1 : q < 4294967296) : bitsOf .or .u32 0 q = q := by
  have := or_add .u32 (Or.inl rfl) 0 0 q (by omega) (by decide) h0 (by simp [IntKind.bits]; omega)
  simpa using this
theorem ShiftInv.start (x : List Int) (s : Nat) : ShiftInv x s 0 (List.replicate (x.length + 1) 0) := by
  have z : ∀ j, at0 (List.replicate (x.length + 1) 0) j = 0 := fun j => by
    unfold at0
    rw [List.getElem?_replicate]
    split <;> rfl
  refine ⟨by omega, by simp, by intro z hz; rw [List.eq_of_mem_replicate hz]; omega, ?_, fun j _ => z j, ?_⟩
  · rw [z]; exact two_pos s
  · simp [List.take_replicate, val_replicate, val]
theorem ShiftInv.done {x l : List Int} {s : Nat} (h : ShiftInv x s x.length l) : l = padW (x.length + 1) (val x * 2 ^ s) := by
  have e := h.eq
  rw [List.take_of_length_le (by rw [h.len]; omega), List.take_of_length_le (Nat.le_refl _)] at e
  exact padW_eq h.inw h.len e
set_option maxRecDepth 20000 in
theorem shift_s (x : List Int) (s : Nat) (hs : s < 32) (hx : InW x) (h1 : x.length ≤ 35184372088832) : CallsX Tryz.prog 208 [.one (wS x), .one (.int .u64 s)] [] (.v (.one (.ms 0 0 (x.length + 1) 1 true))) [some (oS (padW (x.length + 1) (val x * 2 ^ s)))] := by
  refine callsX Tryz.func208 rfl (by rfl) (by rfl) (by kernel_rfl) (by simp) ?_
  have w : IntKind.i64.wrap ((x.length : Int) + 1) = ((x.length + 1 : Nat) : Int) := by rw [wrap_i64 _ (by omega) (by omega)]; rfl
  simp -dsimp -implicitDefEqProofs [Tryz.f208, w]
  repeat refine And.intro (by omega) ?_
  refine sw_loop_e (fun p : {p : Nat × List Int // ShiftInv x s p.1 p.2} => SS.of [(0, .v (.one (wS x))), (1, I .u64 s), (4, .v (.one .nils)), (5, .v (.one (.ms 0 0 (x.length + 1) 1 true))), (6, I .i64 p.1.1)] [(0, oS p.1.2)] 1)
    (fun p => x.length - p.1.1) ⟨(0, List.replicate (x.length + 1) 0), ShiftInv.start x s⟩ (by kernel_rfl) (Le.to (by simp) (by simp) (by simp)) ?_
  rintro ⟨⟨i, l⟩, hp⟩
  simp only at hp
  have hlen := hp.len
  by_cases a1 : i < x.length
  · have ax := at0_W hx i
    have e1 := at0_lt a1
    have al := at0_W hp.inw i
    have e2 := at0_lt (show i < l.length by omega)
    have e3 := at0_lt (show i + 1 < l.length by omega)
    have z3 := hp.zero (i + 1) (by omega)
    have wi : IntKind.i64.wrap ((i : Int) + 1) = ((i + 1 : Nat) : Int) := by rw [wrap_i64 _ (by omega) (by omega)]; rfl
    have g1 : l[i]? = some l[i] := List.getElem?_eq_getElem (by omega)
    have g2 : l[i + 1]? = some l[i + 1] := List.getElem?_eq_getElem (by omega)
    simp -dsimp -implicitDefEqProofs [a1, wi, hlen, g1, g2]
    repeat refine And.intro (by omega) ?_
    refine Again.by ⟨(i + 1, _), hp.step hs hx a1⟩ (Le.to ?_ ?_ ?_) ?_
    · simp
    · obtain ⟨t, h1, h2, h3, h4⟩ := two_pow_s hs
      have hmin : min s IntKind.u64.bits = s := by simp [IntKind.bits]; omega
      have y0 : 0 ≤ x[i] * 2 ^ s := Int.mul_nonneg (by omega) (by omega)
      have y1 : x[i] * 2 ^ s ≤ 4294967295 * 2147483648 := Int.mul_le_mul (by omega) (by omega) (by omega) (by omega)
      have wy : IntKind.u64.wrap (IntKind.u64.wrap x[i] * 2 ^ s) = x[i] * 2 ^ s := by rw [wrap_u64_id x[i] (by omega) (by omega), wrap_u64_id _ y0 (by omega)]
      have lb := (low_bits hs (z := x[i]) (by omega) (a := l[i]) (by omega) (by rw [← e2]; exact hp.top)).2
      have q1 : x[i] * 2 ^ s / 4294967296 < 4294967296 := by omega
      rw [e3] at z3
      simp [hmin, wy, word_of _ y0 (show _ < 18446744073709551616 by omega), lb, z3, shr32, wrap_u32_id _ (show 0 ≤ x[i] * 2 ^ s / 4294967296 by omega) q1, or_zero _ (show 0 ≤ x[i] * 2 ^ s / 4294967296 by omega) q1, e1, e2]
    · simp
    · simp; omega
  · have hi2 : i = x.length := by have := hp.hi; omega
    subst hi2
    have hv := hp.done
    simp -dsimp -implicitDefEqProofs [hlen]
    exact RetX.by [] [0] (by simp) (by simp) (by simp) (by simp [← hv])
end Go.Proofs.YtaljbebkooppiaaGreat.Sh

namespace Go.Proofs.YtaljbebkooppiaaGreat.Sh
open Go Go.RowKit
set_option maxRecDepth 20000 in
theorem shifted_s (x : List Int) (s : Nat) (hs : s < 32) (hx : InW x) (h1 : x.length ≤ 35184372088832) : CallsX Tryz.prog 222 [.one (wS x), .one (.int .i64 s)] [] (.v (.one (.ms 0 0 (x.length + 1) 1 true))) [some (oS (padW (x.length + 1) (val x * 2 ^ s)))] := by
  refine callsX Tryz.func222 rfl (by rfl) (by rfl) (by kernel_rfl) (by simp) ?_
  have w : IntKind.i64.wrap ((x.length : Int) + 1) = ((x.length + 1 : Nat) : Int) := by rw [wrap_i64 _ (by omega) (by omega)]; rfl
  simp -dsimp -implicitDefEqProofs [Tryz.f222, w]
  repeat refine And.intro (by omega) ?_
  refine sw_loop_e (fun p : {p : Nat × List Int // ShiftInv x s p.1 p.2} => SS.of [(0, .v (.one (wS x))), (1, I .i64 s), (4, .v (.one .nils)), (5, .v (.one (.ms 0 0 (x.length + 1) 1 true))), (13, .v (.one (wS x))), (14, I .i64 x.length), (15, I .i64 p.1.1)] [(0, oS p.1.2)] 1)
    (fun p => x.length - p.1.1) ⟨(0, List.replicate (x.length + 1) 0), ShiftInv.start x s⟩ (by kernel_rfl) (Le.to (by simp) (by simp) (by simp)) ?_
  rintro ⟨⟨i, l⟩, hp⟩
  simp only at hp
  have hlen := hp.len
  by_cases a1 : i < x.length
  · have ax := at0_W hx i
    have e1 := at0_lt a1
    have al := at0_W hp.inw i
    have e2 := at0_lt (show i < l.length by omega)
    have e3 := at0_lt (show i + 1 < l.length by omega)
    have z3 := hp.zero (i + 1) (by omega)
    have wi : IntKind.i64.wrap ((i : Int) + 1) = ((i + 1 : Nat) : Int) := by rw [wrap_i64 _ (by omega) (by omega)]; rfl
    have g1 : l[i]? = some l[i] := List.getElem?_eq_getElem (by omega)
    have g2 : l[i + 1]? = some l[i + 1] := List.getElem?_eq_getElem (by omega)
    simp -dsimp -implicitDefEqProofs [a1, wi, hlen, g1, g2]
    repeat refine And.intro (by omega) ?_
    refine Again.by ⟨(i + 1, _), hp.step hs hx a1⟩ (Le.to ?_ ?_ ?_) ?_
    · simp
    · obtain ⟨t, h1, h2, h3, h4⟩ := two_pow_s hs
      have hmin : min s IntKind.u64.bits = s := by simp [IntKind.bits]; omega
      have y0 : 0 ≤ x[i] * 2 ^ s := Int.mul_nonneg (by omega) (by omega)
      have y1 : x[i] * 2 ^ s ≤ 4294967295 * 2147483648 := Int.mul_le_mul (by omega) (by omega) (by omega) (by omega)
      have wy : IntKind.u64.wrap (IntKind.u64.wrap x[i] * 2 ^ s) = x[i] * 2 ^ s := by rw [wrap_u64_id x[i] (by omega) (by omega), wrap_u64_id _ y0 (by omega)]
      have lb := (low_bits hs (z := x[i]) (by omega) (a := l[i]) (by omega) (by rw [← e2]; exact hp.top)).2
      have q1 : x[i] * 2 ^ s / 4294967296 < 4294967296 := by omega
      rw [e3] at z3
      simp [hmin, wy, wrap_u32 (x[i] * 2 ^ s), lb, z3, shr32, wrap_u32_id _ (show 0 ≤ x[i] * 2 ^ s / 4294967296 by omega) q1, or_zero _ (show 0 ≤ x[i] * 2 ^ s / 4294967296 by omega) q1, e1, e2]
    · simp
    · simp; omega
  · have hi2 : i = x.length := by have := hp.hi; omega
    subst hi2
    have hv := hp.done
    simp -dsimp -implicitDefEqProofs [hlen]
    exact RetX.by [] [0] (by simp) (by simp) (by simp) (by simp [← hv])
end Go.Proofs.YtaljbebkooppiaaGreat.Sh

namespace Go.Proofs.YtaljbebkooppiaaGreat.Sh
open Go Go.RowKit
theorem emod_mul_ (a b c : Int) (hb : 0 < b) (hc : 0 < c) : a % (b * c) = a % b + b * (a / b % c) := by
  have e1 := Int.emod_add_mul_ediv a b
  have e2 := Int.emod_add_mul_ediv (a / b) c
  have m0 := Int.emod_nonneg a (show b ≠ 0 by omega)
  have m1 := Int.emod_lt_of_pos a hb
  have n0 := Int.emod_nonneg (a / b) (show c ≠ 0 by omega)
  have n1 := Int.emod_lt_of_pos (a / b) hc
  have h1 : 0 ≤ b * (a / b % c) := Int.mul_nonneg (by omega) n0
  have h2 : b * (a / b % c) + b ≤ b * c := by
    have : b * (a / b % c + 1) ≤ b * c := Int.mul_le_mul_of_nonneg_left (by omega) (by omega)
    rw [Int.mul_add] at this; omega
  have e : a = (a % b + b * (a / b % c)) + b * c * (a / b / c) := by
    generalize a / b % c = r at *
    generalize a / b / c = q at *
    generalize a % b = m at *
    grind
  have e3 : a % (b * c) = ((a % b + b * (a / b % c)) + b * c * (a / b / c)) % (b * c) := congrArg (· % (b * c)) e
  rw [e3, Int.add_mul_emod_self_left, Int.emod_eq_of_lt (by omega) (by omega)]
theorem val_from (x : List Int) (hx : InW x) (i : Nat) : val x / 4294967296 ^ i = at0 x i + 4294967296 * at0 x (i + 1) + 4294967296 * 4294967296 * (val x / 4294967296 ^ (i + 2)) := by
  have step : ∀ j, val x / 4294967296 ^ j = at0 x j + 4294967296 * (val x / 4294967296 ^ (j + 1)) := fun j => by
    have hp := pow_pos_ j
    have a := at0_W hx j
    have t : ∀ k, val (x.take k) = val x % 4294967296 ^ k ∧ val x / 4294967296 ^ k = val (x.drop k) := fun k => by
      have hk := pow_pos_ k
      have e : val x = val (x.take k) + 4294967296 ^ (x.take k).length * val (x.drop k) := by rw [← val_append, List.take_append_drop]
      by_cases h : k ≤ x.length
      · rw [List.length_take, Nat.min_eq_left h] at e
        have v0 := val_nonneg (hx.take k)
        have v1 := val_lt (hx.take k)
        rw [List.length_take, Nat.min_eq_left h] at v1
        rw [e]
        refine ⟨by rw [Int.add_mul_emod_self_left, Int.emod_eq_of_lt v0 v1], ?_⟩
        rw [Int.add_mul_ediv_left _ _ (by omega), Int.ediv_eq_zero_of_lt v0 v1]; omega
      · have v0 := val_nonneg hx
        have v1 := val_lt hx
        have v2 := pow_mono_ (show x.length ≤ k by omega)
        rw [List.take_of_length_le (by omega), List.drop_eq_nil_of_le (by omega)]
        exact ⟨(Int.emod_eq_of_lt v0 (by omega)).symm, by rw [Int.ediv_eq_zero_of_lt v0 (by omega)]; rfl⟩
    rw [(t j).2, (t (j + 1)).2]
    by_cases h : j < x.length
    · rw [at0_lt h, List.drop_eq_getElem_cons h, val_cons]
    · rw [at0_ge (by omega), List.drop_eq_nil_of_le (by omega), List.drop_eq_nil_of_le (by omega)]; rfl
  rw [step i, step (i + 1)]
  generalize val x / 4294967296 ^ (i + 1 + 1) = R
  omega
theorem back_word (x : List Int) (hx : InW x) (s i : Nat) (hs : s < 32) : val x / 2 ^ s / 4294967296 ^ i % 4294967296 = (at0 x i + 4294967296 * at0 x (i + 1)) / 2 ^ s % 4294967296 := by
  obtain ⟨t, h1, h2, h3, h4⟩ := two_pow_s hs
  have hp := pow_pos_ i
  rw [Int.ediv_ediv_of_nonneg (by omega), Int.mul_comm, ← Int.ediv_ediv_of_nonneg (by omega), val_from x hx i]
  have e : at0 x i + 4294967296 * at0 x (i + 1) + 4294967296 * 4294967296 * (val x / 4294967296 ^ (i + 2)) = at0 x i + 4294967296 * at0 x (i + 1) + 2 ^ s * (4294967296 * (t * (val x / 4294967296 ^ (i + 2)))) := by
    generalize val x / 4294967296 ^ (i + 2) = R
    generalize (2 : Int) ^ s = S at *
    grind
  rw [e, Int.add_mul_ediv_left _ _ (by omega), Int.add_mul_emod_self_left]
end Go.Proofs.YtaljbebkooppiaaGreat.Sh

namespace Go.Proofs.YtaljbebkooppiaaGreat.Sh
open Go Go.RowKit
structure BackInv (x : List Int) (s i : Nat) (l : List Int) : Prop where
  hi : i ≤ x.length
  len : l.length = x.length
  inw : InW l
  eq : val (l.take i) = val x / 2 ^ s % 4294967296 ^ i
theorem BackInv.start (x : List Int) (s : Nat) : BackInv x s 0 (List.replicate x.length 0) :=
  ⟨by omega, by simp, by intro z hz; rw [List.eq_of_mem_replicate hz]; omega, by simp [val, Int.emod_one]⟩
theorem BackInv.step {x l : List Int} {s i : Nat} (h : BackInv x s i l) (hs : s < 32) (hx : InW x) (hi : i < x.length) :
    BackInv x s (i + 1) (l.set i ((at0 x i + 4294967296 * at0 x (i + 1)) / 2 ^ s % 4294967296)) := by
  have hl : i < l.length := by rw [h.len]; exact hi
  have hp := pow_pos_ i
  refine ⟨by omega, by simp [h.len], ?_, ?_⟩
  · intro z hz
    rcases List.mem_or_eq_of_mem_set hz with hz | rfl
    · exact h.inw z hz
    · omega
  · rw [val_take_succ, at0_set_self _ hl, List.take_set_of_le (Nat.le_refl _), h.eq, Int.pow_succ, emod_mul_ _ _ _ hp (by omega), back_word x hx s i hs]
theorem BackInv.done {x l : List Int} {s : Nat} (h : BackInv x s x.length l) (hs : s < 32) (hx : InW x) : val l = val x / 2 ^ s := by
  obtain ⟨t, h1, h2, h3, h4⟩ := two_pow_s hs
  have e := h.eq
  have v0 := val_nonneg hx
  have v1 := val_lt hx
  have d0 : 0 ≤ val x / 2 ^ s := Int.ediv_nonneg v0 (by omega)
  have d1 : val x / 2 ^ s ≤ val x := Int.ediv_le_self _ v0
  rw [List.take_of_length_le (by rw [h.len]; omega), Int.emod_eq_of_lt d0 (by omega)] at e
  exact e
theorem or_word' (l h : Int) (l0 : 0 ≤ l) (l1 : l < 4294967296) (h0 : 0 ≤ h) (h1 : h < 4294967296) : bitsOf .or .u64 l (h * 4294967296) = l + 4294967296 * h := by
  have := or_add .u64 (Or.inr rfl) 32 l h l0 (by simpa using l1) h0 (by simp [IntKind.bits]; omega)
  rw [Int.mul_comm h]
  simpa [Int.add_comm] using this
set_option maxRecDepth 20000 in
theorem back_s (x : List Int) (s : Nat) (hs : s < 32) (hx : InW x) (h1 : x.length ≤ 35184372088832) : CallsS Tryz.prog 209 [.one (wS x), .one (.int .u64 s)] (.v (.one (nS (val x / 2 ^ s).toNat))) := by
  refine calls Tryz.func209 rfl (by rfl) (by rfl) (by kernel_rfl) ?_
  simp -dsimp -implicitDefEqProofs [Tryz.f209]
  repeat refine And.intro (by omega) ?_
  refine sw_loop_e (fun p : {p : Nat × List Int // BackInv x s p.1 p.2} => SS.of [(0, .v (.one (wS x))), (1, I .u64 s), (4, .v (.one .nils)), (5, .v (.one (.ms 0 0 x.length 1 true))), (6, I .i64 p.1.1)] [(0, oS p.1.2)] 1)
    (fun p => x.length - p.1.1) ⟨(0, List.replicate x.length 0), BackInv.start x s⟩ (by kernel_rfl) (Le.to (by simp) (by simp) (by simp)) ?_
  rintro ⟨⟨i, l⟩, hp⟩
  simp only at hp
  have hlen := hp.len
  by_cases a1 : i < x.length
  · have ax : 0 ≤ x[i] ∧ x[i] < 4294967296 := hx _ (List.getElem_mem a1)
    have e1 := at0_lt a1
    have hmin : min s IntKind.u64.bits = s := by simp [IntKind.bits]; omega
    have wi : IntKind.i64.wrap ((i : Int) + 1) = ((i + 1 : Nat) : Int) := by rw [wrap_i64 _ (by omega) (by omega)]; rfl
    have wx := wrap_u64_id x[i] ax.1 (by omega)
    obtain ⟨t, t1, t2, t3, t4⟩ := two_pow_s hs
    have fd : ∀ z : Int, z.fdiv (2 ^ s) = z / 2 ^ s := fun z => Int.fdiv_eq_ediv_of_nonneg z (by omega)
    by_cases a2 : i + 1 < x.length
    · have ay : 0 ≤ x[i + 1] ∧ x[i + 1] < 4294967296 := hx _ (List.getElem_mem a2)
      have e2 := at0_lt a2
      have a2' : (i : Int) + 1 < x.length := by omega
      have g1 : x[i + 1]? = some x[i + 1] := List.getElem?_eq_getElem a2
      have hS : bitsOf .or .u64 (IntKind.u64.wrap x[i]) (IntKind.u64.wrap (IntKind.u64.wrap x[i + 1] * 2 ^ min 32 IntKind.u64.bits)) = x[i] + 4294967296 * x[i + 1] := by
        rw [wx, wrap_u64_id x[i + 1] ay.1 (by omega), shl32 _ ay.1 ay.2, or_word' _ _ ax.1 ax.2 ay.1 ay.2]
      have d0 : 0 ≤ (x[i] + 4294967296 * x[i + 1]) / 2 ^ s := Int.ediv_nonneg (by omega) (by omega)
      have d1 : (x[i] + 4294967296 * x[i + 1]) / 2 ^ s ≤ x[i] + 4294967296 * x[i + 1] := Int.ediv_le_self _ (by omega)
      simp -dsimp -implicitDefEqProofs [a1, a2, a2', wi, hlen, g1]
      repeat refine And.intro (by omega) ?_
      refine Again.by ⟨(i + 1, _), hp.step hs hx a1⟩ (Le.to ?_ ?_ ?_) ?_
      · simp
      · simp [hS, hmin, fd, word_of _ d0 (show _ < 18446744073709551616 by omega), e1, e2]
      · simp
      · simp; omega
    · have e2 := at0_ge (x := x) (i := i + 1) (by omega)
      have a2' : ¬ ((i : Int) + 1 < x.length) := by omega
      have d0 : 0 ≤ x[i] / 2 ^ s := Int.ediv_nonneg (by omega) (by omega)
      have d1 : x[i] / 2 ^ s ≤ x[i] := Int.ediv_le_self _ (by omega)
      simp -dsimp -implicitDefEqProofs [a1, a2, a2', wi, hlen]
      repeat refine And.intro (by omega) ?_
      refine Again.by ⟨(i + 1, _), hp.step hs hx a1⟩ (Le.to ?_ ?_ ?_) ?_
      · simp
      · simp [wx, hmin, fd, word_of _ d0 (show _ < 18446744073709551616 by omega), e1, e2]
      · simp
      · simp; omega
  · have hi2 : i = x.length := by have := hp.hi; omega
    subst hi2
    have hv := hp.done hs hx
    simp -dsimp -implicitDefEqProofs [hlen]
    have ht := trimR_s l hp.inw (by omega)
    rw [hv] at ht
    refine eCall.of ht (by simp [hlen]) ?_
    simp -dsimp -implicitDefEqProofs
end Go.Proofs.YtaljbebkooppiaaGreat.Sh

namespace Go.Proofs.YtaljbebkooppiaaGreat.Sh
theorem guess_high {B v1 v2 P vr T u2 ur g r V U : Int} (hP : 0 < P) (hvr : 0 ≤ vr) (hur : ur < P) (hg0 : 0 ≤ g)
    (hV : V = (v1 * B + v2) * P + vr) (hU : U = (T * B + u2) * P + ur) (hT : g * v1 + r = T) (h : r * B + u2 < g * v2) : U < g * V := by
  subst hV; subst hU; subst hT
  have h1 : g * ((v1 * B + v2) * P + vr) = (g * v1 * B + g * v2) * P + g * vr := by grind
  have h2 : 0 ≤ g * vr := Int.mul_nonneg hg0 hvr
  have h3 : ((g * v1 + r) * B + u2) * P + P ≤ (g * v1 * B + g * v2) * P := by
    have h4 : (g * v1 + r) * B + u2 + 1 ≤ g * v1 * B + g * v2 := by
      have : (g * v1 + r) * B = g * v1 * B + r * B := by grind
      omega
    have h5 := Int.mul_le_mul_of_nonneg_right h4 (Int.le_of_lt hP)
    have : ((g * v1 + r) * B + u2 + 1) * P = ((g * v1 + r) * B + u2) * P + P := by grind
    omega
  omega
theorem guess_near {B v1 v2 P vr T u2 ur g r V U : Int} (hP : 0 < P) (hvr : vr < P) (hur : 0 ≤ ur) (hg0 : 0 ≤ g) (hV0 : 0 ≤ V) (hU0 : 0 ≤ U)
    (hV : V = (v1 * B + v2) * P + vr) (hU : U = (T * B + u2) * P + ur) (hT : g * v1 + r = T) (h : g * v2 ≤ r * B + u2) (hgB : g ≤ v1 * B + v2 + 1) : (g - 1) * V ≤ U := by
  by_cases h0 : g = 0
  · subst h0; omega
  · have hg1 : 0 ≤ g - 1 := by omega
    have h1 : (g - 1) * V ≤ (g - 1) * ((v1 * B + v2 + 1) * P) := by
      apply Int.mul_le_mul_of_nonneg_left _ hg1
      have : (v1 * B + v2 + 1) * P = (v1 * B + v2) * P + P := by grind
      omega
    have h2 : (g - 1) * ((v1 * B + v2 + 1) * P) = ((g * v1) * B + g * v2 + (g - (v1 * B + v2) - 1)) * P := by grind
    have h3 : ((g * v1) * B + g * v2 + (g - (v1 * B + v2) - 1)) * P ≤ (T * B + u2) * P := by
      apply Int.mul_le_mul_of_nonneg_right _ (Int.le_of_lt hP)
      have : T * B = g * v1 * B + r * B := by rw [← hT]; grind
      omega
    omega
theorem quo_of {U V q : Int} (hV : 0 < V) (h1 : q * V ≤ U) (h2 : U < (q + 1) * V) : U / V = q ∧ U % V = U - q * V := by
  have h3 : (q + 1) * V = q * V + V := by grind
  have e : U / V = q := by
    have := Int.ediv_emod_unique (a := U) (b := V) (r := U - q * V) (q := q) hV
    exact (this.2 ⟨by grind, by omega, by omega⟩).1
  refine ⟨e, ?_⟩
  have := Int.emod_def U V
  rw [this, e, Int.mul_comm]

end Go.Proofs.YtaljbebkooppiaaGreat.Sh

namespace Go.Proofs.YtaljbebkooppiaaGreat.Sh
open Go Go.RowKit
def wv (l : List Int) (off i : Nat) : Int := val ((l.drop off).take i)
theorem at0_drop (l : List Int) (off i : Nat) : at0 (l.drop off) i = at0 l (off + i) := by simp [at0]
theorem wv_zero (l : List Int) (off : Nat) : wv l off 0 = 0 := by simp [wv, val]
theorem wv_succ (l : List Int) (off i : Nat) : wv l off (i + 1) = wv l off i + 4294967296 ^ i * at0 l (off + i) := by
  unfold wv; rw [val_take_succ, at0_drop]
theorem wv_set (l : List Int) (off i j : Nat) (x : Int) (h : i ≤ j) : wv (l.set (off + j) x) off i = wv l off i := by
  unfold wv
  rw [List.drop_set, if_neg (by omega), show off + j - off = j by omega, List.take_set_of_le h]
theorem wv_nonneg {l : List Int} (h : InW l) (off i : Nat) : 0 ≤ wv l off i := val_nonneg ((h.drop off).take i)
theorem wv_lt {l : List Int} (h : InW l) (off i : Nat) (hl : off + i ≤ l.length) : wv l off i < 4294967296 ^ i := by
  have := val_lt ((h.drop off).take i)
  rwa [List.length_take, List.length_drop, Nat.min_eq_left (by omega)] at this
structure WinS (l0 l : List Int) (off k : Nat) : Prop where
  len : l.length = l0.length
  inw : InW l
  tk : l.take off = l0.take off
  dr : l.drop (off + k) = l0.drop (off + k)
theorem WinS.refl {l : List Int} (h : InW l) (off k : Nat) : WinS l l off k := ⟨rfl, h, rfl, rfl⟩
theorem WinS.set {l0 l : List Int} {off k i : Nat} (h : WinS l0 l off k) (hi : i < k) {x : Int} (hx : 0 ≤ x ∧ x < 4294967296) : WinS l0 (l.set (off + i) x) off k := by
  refine ⟨by simp [h.len], ?_, ?_, ?_⟩
  · intro z hz
    rcases List.mem_or_eq_of_mem_set hz with hz | rfl
    · exact h.inw z hz
    · exact hx
  · rw [List.take_set_of_le (by omega), h.tk]
  · rw [List.drop_set, if_pos (by omega), h.dr]
def winSet (l : List Int) (off k : Nat) (R : Int) : List Int := l.take off ++ (padW k R ++ l.drop (off + k))
theorem WinS.done {l0 l : List Int} {off k : Nat} (h : WinS l0 l off k) (hk : off + k ≤ l0.length) {R : Int} (hR : wv l off k = R) : l = winSet l0 off k R := by
  have e : l = l.take off ++ ((l.drop off).take k ++ (l.drop off).drop k) := by rw [List.take_append_drop, List.take_append_drop]
  rw [e]
  unfold winSet
  rw [h.tk, List.drop_drop, h.dr]
  congr 2
  exact padW_eq ((h.inw.drop off).take k) (by rw [List.length_take, List.length_drop, h.len]; omega) hR
theorem winSet_len (l : List Int) (off k : Nat) (R : Int) (hk : off + k ≤ l.length) : (winSet l off k R).length = l.length := by
  simp [winSet, padW_len]; omega
theorem winSet_inW {l : List Int} (h : InW l) (off k : Nat) (R : Int) : InW (winSet l off k R) := (h.take off).append ((padW_inW k R).append (h.drop _))
/-! ### The product by the guess is taken off -/
structure SubInv (l0 v : List Int) (off n : Nat) (g : Int) (i : Nat) (l : List Int) (c b : Int) : Prop where
  w : WinS l0 l off (n + 1)
  hi : i ≤ n + 1
  same : ∀ j, i ≤ j → at0 l (off + j) = at0 l0 (off + j)
  eq : wv l off i = wv l0 off i - g * val (v.take i) + 4294967296 ^ i * (c + b)
  c0 : 0 ≤ c ∧ c < 4294967296
  b0 : b = 0 ∨ b = 1
theorem SubInv.start {l0 v : List Int} (h : InW l0) (off n : Nat) (g : Int) : SubInv l0 v off n g 0 l0 0 0 :=
  ⟨WinS.refl h _ _, by omega, fun _ _ => rfl, by simp [wv_zero, val], by omega, Or.inl rfl⟩
theorem SubInv.facts {l0 v l : List Int} {off n i : Nat} {g c b : Int} (h : SubInv l0 v off n g i l c b) (hv : InW v) (hg : 0 ≤ g ∧ g < 4294967296) :
    (0 ≤ g * at0 v i ∧ g * at0 v i ≤ 18446744065119617025) ∧ (0 ≤ at0 v i ∧ at0 v i < 4294967296) ∧ (0 ≤ at0 l (off + i) ∧ at0 l (off + i) < 4294967296) ∧ (0 ≤ c ∧ c < 4294967296) ∧ (0 ≤ b ∧ b ≤ 1) :=
  ⟨prod_lt hg (at0_W hv i), at0_W hv i, at0_W h.w.inw _, h.c0, by rcases h.b0 with h | h <;> omega⟩
theorem SubInv.step {l0 v l : List Int} {off n i : Nat} {g c b : Int} (h : SubInv l0 v off n g i l c b) (hv : InW v) (hg : 0 ≤ g ∧ g < 4294967296) (hi : i ≤ n) (ho : off + n < l0.length) {p t y b' c' : Int} (hp : p = c + g * at0 v i) (ht : t = p % 4294967296 + b) (hc : c' = p / 4294967296)
    (hb : b' = 0 ∧ t ≤ at0 l (off + i) ∨ b' = 1 ∧ at0 l (off + i) < t) (hy : y = at0 l (off + i) - t + 4294967296 * b') : SubInv l0 v off n g (i + 1) (l.set (off + i) y) c' b' := by
  obtain ⟨f1, f2, f3, f4, f5⟩ := h.facts hv hg
  have hyb : 0 ≤ y ∧ y < 4294967296 := by rcases hb with ⟨rfl, hb⟩ | ⟨rfl, hb⟩ <;> omega
  refine ⟨h.w.set (by omega) hyb, by omega, fun j hj => ?_, ?_, by omega, by omega⟩
  · rw [at0_set_ne _ (by omega)]; exact h.same j (by omega)
  · have hs := h.same i (Nat.le_refl _)
    rw [wv_succ, wv_set _ _ _ _ _ (Nat.le_refl _), at0_set_self _ (by rw [h.w.len]; omega), wv_succ l0, val_take_succ, ← hs, h.eq, Int.pow_succ]
    have e4 := Int.emod_add_mul_ediv p 4294967296
    subst hc hy ht
    generalize p % 4294967296 = r at *
    generalize p / 4294967296 = q at *
    generalize (4294967296 : Int) ^ i = A at *
    generalize at0 v i = V at *
    generalize val (v.take i) = X at *
    generalize wv l0 off i = L at *
    generalize at0 l (off + i) = z at *
    clear f1 f2 f3 f4 f5 hyb hb h hs
    have : r = c + g * V - 4294967296 * q := by omega
    subst this
    grind
/-! ### The divisor is added back -/
structure AddInv (l1 v : List Int) (off n : Nat) (i : Nat) (l : List Int) (c : Int) : Prop where
  w : WinS l1 l off (n + 1)
  hi : i ≤ n + 1
  same : ∀ j, i ≤ j → at0 l (off + j) = at0 l1 (off + j)
  eq : wv l off i + 4294967296 ^ i * c = wv l1 off i + val (v.take i)
  c0 : 0 ≤ c ∧ c ≤ 1
theorem AddInv.start {l1 v : List Int} (h : InW l1) (off n : Nat) : AddInv l1 v off n 0 l1 0 :=
  ⟨WinS.refl h _ _, by omega, fun _ _ => rfl, by simp [wv_zero, val], by omega⟩
theorem AddInv.step {l1 v l : List Int} {off n i : Nat} {c : Int} (h : AddInv l1 v off n i l c) (hv : InW v) (hi : i ≤ n) (ho : off + n < l1.length) {s y c' : Int} (hs : s = at0 l (off + i) + at0 v i + c) (hy : y = s % 4294967296) (hc : c' = s / 4294967296) :
    AddInv l1 v off n (i + 1) (l.set (off + i) y) c' := by
  have f1 := at0_W h.w.inw (off + i)
  have f2 := at0_W hv i
  have f3 := h.c0
  refine ⟨h.w.set (by omega) (by omega), by omega, fun j hj => ?_, ?_, by omega⟩
  · rw [at0_set_ne _ (by omega)]; exact h.same j (by omega)
  · have hsm := h.same i (Nat.le_refl _)
    rw [wv_succ, wv_set _ _ _ _ _ (Nat.le_refl _), at0_set_self _ (by rw [h.w.len]; omega), wv_succ l1, val_take_succ, ← hsm, Int.pow_succ]
    have e := h.eq
    have e4 := Int.emod_add_mul_ediv s 4294967296
    subst hc hy
    generalize s % 4294967296 = r at *
    generalize s / 4294967296 = q at *
    generalize (4294967296 : Int) ^ i = A at *
    generalize at0 v i = V at *
    generalize val (v.take i) = X at *
    generalize wv l1 off i = L at *
    generalize wv l off i = M at *
    generalize at0 l (off + i) = z at *
    clear f1 f2 f3 h hsm
    grind
theorem SubInv.right {l0 v l : List Int} {off n : Nat} {g : Int} (h : SubInv l0 v off n g (n + 1) l 0 0) (hn : v.length ≤ n + 1) (hV : 0 < val v) (hg : wv l0 off (n + 1) < (g + 1) * val v) :
    wv l0 off (n + 1) / val v = g ∧ wv l off (n + 1) = wv l0 off (n + 1) % val v := by
  have e := h.eq
  rw [List.take_of_length_le hn] at e
  have h0 := wv_nonneg h.w.inw off (n + 1)
  obtain ⟨q1, q2⟩ := quo_of hV (q := g) (U := wv l0 off (n + 1)) (by omega) hg
  exact ⟨q1, by rw [q2]; omega⟩
theorem SubInv.high {l0 v l1 l2 : List Int} {off n : Nat} {g c : Int} (h : SubInv l0 v off n g (n + 1) l1 0 1) (k : AddInv l1 v off n (n + 1) l2 c) (hv : InW v) (hn : v.length ≤ n + 1) (ho : off + n < l0.length) (hV : 0 < val v) (hg : (g - 1) * val v ≤ wv l0 off (n + 1)) :
    wv l0 off (n + 1) / val v = g - 1 ∧ wv l2 off (n + 1) = wv l0 off (n + 1) % val v := by
  have e := h.eq
  have e2 := k.eq
  rw [List.take_of_length_le hn] at e e2
  have h1 := wv_lt h.w.inw off (n + 1) (by rw [h.w.len]; omega)
  have h2 := wv_nonneg k.w.inw off (n + 1)
  have h3 := wv_lt k.w.inw off (n + 1) (by rw [k.w.len, h.w.len]; omega)
  have h4 := val_lt hv
  have h5 : (4294967296 : Int) ^ v.length ≤ 4294967296 ^ (n + 1) := pow_mono_ hn
  have h6 := k.c0
  have e3 : (g - 1) * val v = g * val v - val v := by grind
  have e4 : (g - 1 + 1) * val v = g * val v := by grind
  generalize (4294967296 : Int) ^ (n + 1) = A at *
  obtain ⟨q1, q2⟩ := quo_of hV (q := g - 1) (U := wv l0 off (n + 1)) hg (by omega)
  refine ⟨q1, ?_⟩
  rw [q2]
  rcases show c = 0 ∨ c = 1 by omega with rfl | rfl <;> omega
/-! ### The guess -/
structure Guess (v l : List Int) (off n : Nat) (g r : Int) : Prop where
  g0 : 0 ≤ g ∧ g ≤ 4294967297
  r0 : 0 ≤ r
  eq : g * at0 v (n - 1) + r = at0 l (off + n) * 4294967296 + at0 l (off + (n - 1))
  hi : wv l off (n + 1) < (g + 1) * val v
structure DigitIn (v l : List Int) (off n : Nat) : Prop where
  n2 : 2 ≤ n
  len : v.length = n
  inv : InW v
  inl : InW l
  top : 2147483648 ≤ at0 v (n - 1)
  fit : off + n < l.length
  lt : wv l off (n + 1) < val v * 4294967296
section
variable {v l : List Int} {off n : Nat}
theorem DigitIn.parts (h : DigitIn v l off n) : ∃ P vr ur : Int, 0 < P ∧ (0 ≤ vr ∧ vr < P) ∧ (0 ≤ ur ∧ ur < P) ∧ val v = (at0 v (n - 1) * 4294967296 + at0 v (n - 2)) * P + vr ∧
    wv l off (n + 1) = ((at0 l (off + n) * 4294967296 + at0 l (off + (n - 1))) * 4294967296 + at0 l (off + (n - 2))) * P + ur := by
  obtain ⟨m, rfl⟩ : ∃ m, n = m + 2 := ⟨n - 2, by have := h.n2; omega⟩
  have e1 : val v = val (v.take (m + 1 + 1)) := by rw [List.take_of_length_le (by rw [h.len]; omega)]
  refine ⟨4294967296 ^ m, val (v.take m), wv l off m, pow_pos_ m, ⟨val_nonneg (h.inv.take m), ?_⟩, ⟨wv_nonneg h.inl off m, wv_lt h.inl off m (by have := h.fit; omega)⟩, ?_, ?_⟩
  · have := val_lt (h.inv.take m)
    rwa [List.length_take, Nat.min_eq_left (by rw [h.len]; omega)] at this
  · rw [e1, val_take_succ, val_take_succ, Int.pow_succ]
    simp only [show m + 2 - 1 = m + 1 by omega, show m + 2 - 2 = m by omega]
    grind
  · rw [wv_succ, wv_succ, wv_succ, Int.pow_succ, Int.pow_succ]
    simp only [show m + 2 - 1 = m + 1 by omega, show m + 2 - 2 = m by omega]
    grind
theorem DigitIn.pos (h : DigitIn v l off n) : 0 < val v := by
  obtain ⟨P, vr, ur, hP, hvr, hur, e1, e2⟩ := h.parts
  have := h.top
  have a := at0_W h.inv (n - 2)
  have : 0 < (at0 v (n - 1) * 4294967296 + at0 v (n - 2)) * P := Int.mul_pos (by omega) hP
  omega
theorem DigitIn.T_le (h : DigitIn v l off n) : at0 l (off + n) * 4294967296 + at0 l (off + (n - 1)) ≤ at0 v (n - 1) * 4294967296 + at0 v (n - 2) := by
  obtain ⟨P, vr, ur, hP, hvr, hur, e1, e2⟩ := h.parts
  have hlt := h.lt
  have a := at0_W h.inl (off + (n - 2))
  generalize at0 l (off + n) * 4294967296 + at0 l (off + (n - 1)) = T at *
  generalize at0 v (n - 1) * 4294967296 + at0 v (n - 2) = W at *
  rcases Int.lt_or_le W T with hc | hc
  · exfalso
    have h1 : (W + 1) * 4294967296 ≤ T * 4294967296 + at0 l (off + (n - 2)) := by omega
    have h2 := Int.mul_le_mul_of_nonneg_right h1 (Int.le_of_lt hP)
    have h3 : (W + 1) * 4294967296 * P = (W * P + P) * 4294967296 := by grind
    omega
  · exact hc
theorem Guess.start (h : DigitIn v l off n) {T : Int} (hT : T = at0 l (off + n) * 4294967296 + at0 l (off + (n - 1))) : Guess v l off n (T / at0 v (n - 1)) (T % at0 v (n - 1)) ∧ T % at0 v (n - 1) < 4294967296 := by
  obtain ⟨P, vr, ur, hP, hvr, hur, e1, e2⟩ := h.parts
  have hle := h.T_le
  have t1 := h.top
  have a1 := at0_W h.inv (n - 1)
  have a2 := at0_W h.inv (n - 2)
  have a3 := at0_W h.inl (off + n)
  have a4 := at0_W h.inl (off + (n - 1))
  have a5 := at0_W h.inl (off + (n - 2))
  rw [← hT] at hle e2
  have hT0 : 0 ≤ T := by omega
  have hr := Int.emod_nonneg T (show at0 v (n - 1) ≠ 0 by omega)
  have hr2 := Int.emod_lt_of_pos T (show 0 < at0 v (n - 1) by omega)
  have hg0 : 0 ≤ T / at0 v (n - 1) := Int.ediv_nonneg hT0 (by omega)
  have heq := Int.emod_add_mul_ediv T (at0 v (n - 1))
  generalize T / at0 v (n - 1) = g at *
  generalize T % at0 v (n - 1) = r at *
  refine ⟨⟨⟨hg0, ?_⟩, hr, by rw [← hT, Int.mul_comm]; omega, ?_⟩, by omega⟩
  · have : at0 v (n - 1) * g < at0 v (n - 1) * 4294967298 := by omega
    have := Int.lt_of_mul_lt_mul_left this (by omega)
    omega
  · rw [e2, e1]
    have h1 : T + 1 ≤ (g + 1) * at0 v (n - 1) := by have : (g + 1) * at0 v (n - 1) = at0 v (n - 1) * g + at0 v (n - 1) := by grind
                                                    omega
    have h2 : (T + 1) * 4294967296 ≤ (g + 1) * (at0 v (n - 1) * 4294967296 + at0 v (n - 2)) := by
      have k1 : 0 ≤ (g + 1) * at0 v (n - 2) := Int.mul_nonneg (by omega) (by omega)
      have k2 : (g + 1) * (at0 v (n - 1) * 4294967296 + at0 v (n - 2)) = (g + 1) * at0 v (n - 1) * 4294967296 + (g + 1) * at0 v (n - 2) := by grind
      omega
    have h3 := Int.mul_le_mul_of_nonneg_right h2 (Int.le_of_lt hP)
    have h4 : T * 4294967296 + at0 l (off + (n - 2)) + 1 ≤ (T + 1) * 4294967296 := by omega
    have h5 := Int.mul_le_mul_of_nonneg_right h4 (Int.le_of_lt hP)
    have h6 : (g + 1) * ((at0 v (n - 1) * 4294967296 + at0 v (n - 2)) * P + vr) = (g + 1) * (at0 v (n - 1) * 4294967296 + at0 v (n - 2)) * P + (g + 1) * vr := by grind
    have h7 : 0 ≤ (g + 1) * vr := Int.mul_nonneg (by omega) (by omega)
    have h8 : (T * 4294967296 + at0 l (off + (n - 2)) + 1) * P = (T * 4294967296 + at0 l (off + (n - 2))) * P + P := by grind
    omega
theorem Guess.down (h : DigitIn v l off n) {g r : Int} (k : Guess v l off n g r) (hc : 4294967296 ≤ g ∨ r * 4294967296 + at0 l (off + (n - 2)) < g * at0 v (n - 2)) : Guess v l off n (g - 1) (r + at0 v (n - 1)) ∧ 1 ≤ g := by
  obtain ⟨P, vr, ur, hP, hvr, hur, e1, e2⟩ := h.parts
  have a1 := at0_W h.inv (n - 1)
  have a5 := at0_W h.inl (off + (n - 2))
  have hg := k.g0
  have hg1 : 1 ≤ g := by
    rcases hc with hc | hc
    · omega
    · rcases Int.lt_or_le 0 g with h0 | h0
      · omega
      · exfalso
        have : g = 0 := by omega
        subst this
        have := k.r0
        omega
  have heq := k.eq
  refine ⟨⟨by omega, by have := k.r0; omega, ?_, ?_⟩, hg1⟩
  · rw [← heq]; grind
  · rw [show g - 1 + 1 = g by omega]
    rcases hc with hc | hc
    · have h1 := Int.mul_le_mul_of_nonneg_right hc (Int.le_of_lt h.pos)
      have := h.lt
      rw [Int.mul_comm] at this
      omega
    · exact guess_high hP hvr.1 hur.2 hg.1 e1 e2 heq hc
theorem Guess.near (h : DigitIn v l off n) {g r : Int} (k : Guess v l off n g r) (hg : g < 4294967296) (hc : g * at0 v (n - 2) ≤ r * 4294967296 + at0 l (off + (n - 2))) : (g - 1) * val v ≤ wv l off (n + 1) := by
  obtain ⟨P, vr, ur, hP, hvr, hur, e1, e2⟩ := h.parts
  have a2 := at0_W h.inv (n - 2)
  have t1 := h.top
  exact guess_near hP hvr.2 hur.1 k.g0.1 (Int.le_of_lt h.pos) (wv_nonneg h.inl off _) e1 e2 k.eq hc (by omega)
theorem Guess.stop (h : DigitIn v l off n) {g r : Int} (k : Guess v l off n g r) (hr : 4294967296 ≤ r) : g < 4294967296 ∧ (g - 1) * val v ≤ wv l off (n + 1) := by
  have hle := h.T_le
  rw [← k.eq] at hle
  have a2 := at0_W h.inv (n - 2)
  have a5 := at0_W h.inl (off + (n - 2))
  have t1 := h.top
  have hg : g < 4294967296 := by
    have : g * at0 v (n - 1) < 4294967296 * at0 v (n - 1) := by omega
    exact Int.lt_of_mul_lt_mul_right this (by omega)
  refine ⟨hg, k.near h hg ?_⟩
  have := (prod_lt ⟨k.g0.1, hg⟩ a2).2
  omega
end
end Go.Proofs.YtaljbebkooppiaaGreat.Sh

