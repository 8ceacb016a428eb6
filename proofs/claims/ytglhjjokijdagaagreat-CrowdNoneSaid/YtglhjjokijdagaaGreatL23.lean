/- A part of the proof: R24, R118, R119 -/
import Derived.Test.YtglhjjokijdagaaGreatL22
set_option linter.unusedSimpArgs false
set_option linter.unusedVariables false
set_option linter.unusedSectionVars false
/- law14.fixed. -/
namespace Go.Proofs.YtglhjjokijdagaaGreat.Sh
open Go Go.RowKit

def fixG : List (List FR) := [[frQ 1, frQ (-1)], [frQ 0, frQ 1]]
theorem fix_out : outF 2 fixG 2 = [[frQ (1 / 2), frQ (1 / 2)], [frQ (3 / 4), frQ (1 / 4)]] := by
  have h0 : chanceW (wAt 2 fixG 0) = [1 / 2, 1 / 2] := by decide +kernel
  have h1 : chanceW (wAt 2 fixG 1) = [3 / 4, 1 / 4] := by decide +kernel
  show [(chanceW (wAt 2 fixG 0)).map frQ, (chanceW (wAt 2 fixG 1)).map frQ] = _
  rw [h0, h1]; rfl
theorem fix_win : win [3, 5, 5] = (1, 5) := by decide +kernel
theorem fix_ok {q : Rat} (h : mz q ≤ 1) : (frQ q).ok ∧ (frQ q).fix = q := ⟨ok_mz (by omega), fix_mz (by omega)⟩
theorem mzs : mz 3 = 1 ∧ mz 5 = 1 ∧ mz 0 = 1 ∧ mz 1 = 1 ∧ mz (-1) = 1 ∧ mz (3 / 4) = 1 := by decide +kernel
theorem three_four : (((3 : Int) : Rat) / ((4 : Int) : Rat)) = 3 / 4 := by decide +kernel

theorem fix_gains : isGains fixG 0 := by
  obtain ⟨m3, m5, m0, m1, mn, m34⟩ := mzs
  have f0 := (fix_ok (q := 0) (by omega)).2
  have f1 := (fix_ok (q := 1) (by omega)).2
  have fn := (fix_ok (q := -1) (by omega)).2
  have g0 : goodX (frQ 0) := by unfold goodX; rw [f0]; exact ⟨by decide, by decide⟩
  have g1 : goodX (frQ 1) := by unfold goodX; rw [f1]; exact ⟨by decide, by decide⟩
  have gn : goodX (frQ (-1)) := by unfold goodX; rw [fn]; exact ⟨by decide, by decide⟩
  refine Or.inr (Or.inr (Or.inr ⟨by decide, fun l hl => ?_, fun l hl => ?_, rfl⟩))
  · simp [fixG] at hl; rcases hl with rfl | rfl <;> simp
  · simp [fixG] at hl
    rcases hl with rfl | rfl
    · refine ⟨by simp, rfl, fun f hf => ?_⟩
      simp at hf; rcases hf with rfl | rfl
      · exact g1
      · exact gn
    · refine ⟨by simp, rfl, fun f hf => ?_⟩
      simp at hf; rcases hf with rfl | rfl
      · exact g0
      · exact g1

set_option maxRecDepth 20000 in
theorem fixed_s : CallsS Tryz.prog 12 [] (B true) := by
  obtain ⟨m3, m5, m0, m1, mn, m34⟩ := mzs
  have i3 := intR_s 3 (by decide) (by decide)
  have i5 := intR_s 5 (by decide) (by decide)
  have i1 := intR_s 1 (by decide) (by decide)
  have in1 := intR_s (-1) (by decide) (by decide)
  have i0 := intR_s 0 (by decide) (by decide)
  rw [show (((3 : Int) : Rat)) = 3 from rfl, ← frS_frQ] at i3
  rw [show (((5 : Int) : Rat)) = 5 from rfl, ← frS_frQ] at i5
  rw [show (((1 : Int) : Rat)) = 1 from rfl, ← frS_frQ] at i1
  rw [show (((-1 : Int) : Rat)) = -1 by decide +kernel, ← frS_frQ] at in1
  rw [show (((0 : Int) : Rat)) = 0 from rfl, ← frS_frQ] at i0
  have mk := makeR_s 3 4 (by decide) (by decide) (by decide) (by decide) (by decide)
  rw [three_four, ← frS_frQ] at mk
  obtain ⟨k3, f3⟩ := fix_ok (q := 3) (by omega)
  obtain ⟨k5, f5⟩ := fix_ok (q := 5) (by omega)
  obtain ⟨k1, f1⟩ := fix_ok (q := 1) (by omega)
  obtain ⟨kn, fn⟩ := fix_ok (q := -1) (by omega)
  obtain ⟨k0, f0⟩ := fix_ok (q := 0) (by omega)
  obtain ⟨k34, f34⟩ := fix_ok (q := 3 / 4) (by omega)
  have hs := secondC_s [frQ 3, frQ 5, frQ 5] (by intro f hf; simp at hf; rcases hf with rfl | rfl; exact k3; exact k5) (by decide)
  rw [show [frQ 3, frQ 5, frQ 5].map FR.fix = [3, 5, 5] by simp [f3, f5], fix_win, ← frS_frQ] at hs
  have hgo : ∀ l ∈ fixG, ∀ f ∈ l, f.ok ∧ mz f.fix ≤ 1 := by
    intro l hl f hf
    simp [fixG] at hl
    rcases hl with rfl | rfl <;> simp at hf <;> rcases hf with rfl | rfl
    · exact ⟨k1, by rw [f1]; omega⟩
    · exact ⟨kn, by rw [fn]; omega⟩
    · exact ⟨k0, by rw [f0]; omega⟩
    · exact ⟨k1, by rw [f1]; omega⟩
  have hw := weighC_s fixG (fun l hl f hf => (hgo l hl f hf).1) (by decide) (by intro l hl; simp [fixG] at hl; rcases hl with rfl | rfl <;> simp) (fun l hl f hf => (hgo l hl f hf).2) 0 fix_gains
  rw [if_pos ⟨rfl, by simp [fixG]⟩, show picks fixG = 2 from rfl, show fixG.length = 2 from rfl, fix_out] at hw
  have s1 := sameR_s (frQ 5) (frQ 5) k5 k5
  have s2 := sameR_s (frQ (3 / 4)) (frQ (3 / 4)) k34 k34
  rw [decide_eq_true rfl] at s1 s2
  unfold fixG at hw
  generalize frQ 3 = A3 at *
  generalize frQ 5 = A5 at *
  generalize frQ 1 = A1 at *
  generalize frQ (-1) = AN at *
  generalize frQ 0 = A0 at *
  generalize frQ (3 / 4) = A34 at *
  generalize frQ (1 / 2) = A12 at *
  generalize frQ (1 / 4) = A14 at *
  refine calls Tryz.func12 rfl (by rfl) (by rfl) (by kernel_rfl) ?_
  simp -dsimp -implicitDefEqProofs [Tryz.f12]
  refine eCall.of i3 (by simp) ?_
  simp -dsimp -implicitDefEqProofs
  refine eCall.of i5 (by simp) ?_
  simp -dsimp -implicitDefEqProofs
  refine eCall.of i5 (by simp) ?_
  simp -dsimp -implicitDefEqProofs [slots]
  refine eCall.of mk (by simp) ?_
  simp -dsimp -implicitDefEqProofs [slots, rowsOf, List.range, List.range.loop]
  refine eCall.of hs (by simp [rowsOf, List.range, List.range.loop]) ?_
  simp -dsimp -implicitDefEqProofs [slots]
  refine eCall.of i1 (by simp) ?_
  simp -dsimp -implicitDefEqProofs [slots]
  refine eCall.of in1 (by simp) ?_
  simp -dsimp -implicitDefEqProofs [slots]
  refine eCall.of i0 (by simp) ?_
  simp -dsimp -implicitDefEqProofs [slots]
  refine eCall.of i1 (by simp) ?_
  simp -dsimp -implicitDefEqProofs [slots, rowsOf, List.range, List.range.loop]
  refine eCall.of hw (by simp [rowsOf, List.range, List.range.loop]) ?_
  simp -dsimp -implicitDefEqProofs [slots]
  refine eCall.of i5 (by simp) ?_
  simp -dsimp -implicitDefEqProofs
  refine eCall.of s1 (by simp) ?_
  simp -dsimp -implicitDefEqProofs
  refine eCall.of s2 (by simp) ?_
  simp -dsimp -implicitDefEqProofs
end Go.Proofs.YtglhjjokijdagaaGreat.Sh

/- The walk of CrowdNone. -/
namespace Go.Proofs.YtglhjjokijdagaaGreat.Sh
open Go Go.RowKit

set_option maxRecDepth 20000 in
theorem bey14_s (g : Gm) (r : List Ce) (hg : g.ok) (hl : lenOk r) (hr : ∀ c ∈ r, c.ok) : CallsS Tryz.prog 7 [gmS g, ruS r] (B (far g || beyondRule r)) := by
  refine calls Tryz.func7 rfl (by rfl) (by rfl) (by kernel_rfl) ?_
  simp -dsimp -implicitDefEqProofs [Tryz.f7]
  refine eCall.of (far_s g hg) (by simp) ?_
  cases h1 : far g with
  | true => simp -dsimp -implicitDefEqProofs
  | false =>
    simp -dsimp -implicitDefEqProofs
    refine eCall.of (beyondRule_s r hl hr) (by simp) ?_
    simp -dsimp -implicitDefEqProofs

def WideL (l : List (List Int)) : Prop := 100 < l.length ∨ ∃ p ∈ l, 100 < p.length
theorem WideL.no {l : List (List Int)} (h : ¬ WideL l) : l.length ≤ 100 ∧ ∀ p ∈ l, p.length ≤ 100 :=
  ⟨Nat.not_lt.1 fun hh => h (.inl hh), fun p hp => Nat.not_lt.1 fun hh => h (.inr ⟨p, hp, hh⟩)⟩

set_option maxRecDepth 20000 in
theorem wide14_s (l : List (List Int)) (hl : l.length ≤ 140737488355328) (hp : ∀ p ∈ l, p.length ≤ 140737488355328) (b : Bool) (hb : b = true ↔ WideL l) : CallsS Tryz.prog 8 [.one (profsS l)] (B b) := by
  refine calls Tryz.func8 rfl (by rfl) (by rfl) (by kernel_rfl) ?_
  simp -dsimp -implicitDefEqProofs [Tryz.f8]
  by_cases c1 : 100 < l.length
  · have c1' : (100 : Int) < (l.length : Int) := by omega
    have c1n : ¬ (l.length : Int) ≤ 100 := by omega
    have hb' := hb.2 (.inl c1)
    simp -dsimp -implicitDefEqProofs [c1, c1', c1n, hb']
  have c1' : (l.length : Int) ≤ 100 := by omega
  have c1n := eq_false (show ¬ (100 : Int) < (l.length : Int) by omega)
  simp -dsimp -implicitDefEqProofs [c1, c1', c1n]
  refine sw_loop_e (fun q : {q : Nat // q ≤ l.length ∧ ∀ i (hi : i < q) (hl : i < l.length), l[i].length ≤ 100} => SS.of [(0, .v (.one (profsS l))), (3, I .i64 q.1)] [] 0)
    (fun q => l.length - q.1) ⟨0, Nat.zero_le _, fun i hi => absurd hi (by omega)⟩ (by kernel_rfl) (Le.to (by simp) (by simp) (by simp)) ?_
  rintro ⟨i, hi, hq⟩
  by_cases a1 : i < l.length
  · have wi : IntKind.i64.wrap ((i : Int) + 1) = ((i + 1 : Nat) : Int) := by rw [wrap_i64 _ (by omega) (by omega)]; rfl
    by_cases c2 : 100 < l[i].length
    · have c2' : (100 : Int) < (l[i].length : Int) := by omega
      have c2n : ¬ (l[i].length : Int) ≤ 100 := by omega
      have hb' := hb.2 (.inr ⟨_, List.getElem_mem a1, c2⟩)
      simp -dsimp -implicitDefEqProofs [a1, c2, c2', c2n, hb']
    · have c2' : (l[i].length : Int) ≤ 100 := by omega
      have c2n := eq_false (show ¬ (100 : Int) < (l[i].length : Int) by omega)
      simp -dsimp -implicitDefEqProofs [a1, c2, c2', c2n]
      refine Again.by ⟨i + 1, a1, fun j hj hl => ?_⟩ (Le.to (by simp [wi]) (by simp) (by simp)) (by simp; omega)
      by_cases e : j = i
      · subst e; omega
      · exact hq j (by omega) hl
  have hi2 : i = l.length := by omega
  subst hi2
  have hb' := nf hb (fun hh => by
    rcases hh with hh | ⟨p, hp, hh⟩
    · exact c1 hh
    · obtain ⟨j, hj, rfl⟩ := List.getElem_of_mem hp
      have := hq j hj hj
      omega)
  simp -dsimp -implicitDefEqProofs [hb']

/-- Truthful of any rule: the lie is not told. -/
theorem truth_any (g : Gm) (r : List Ce) (hs : Seen g r) (hf : far g = false) : ∃ (ok n : Bool) (x y z : Int) (P X Y : List (List S1)), CallsS Tryz.prog 10 [gmS g, ruS r] (.tup [.agg [.int .i64 x, .int .i64 y, .int .i64 z, .sl true 1 P, .bool n, .sl true 1 X, .sl true 1 Y], .one (.bool ok)]) ∧ (ok = true → ∀ a, a < g.agents.length → NoA g r a) := by
  by_cases hg : Good g r
  · obtain ⟨l, ok, h⟩ := isTr_of (g := g) (r := r)
    exact ⟨ok, _, _, _, _, _, _, _, (rtruth_s g r ⟨hs, hf, hg⟩ l ok h), h.iff.1⟩
  · exact ⟨false, false, 0, 0, 0, [], [], [], (rtruthNo_s g r hs hg).res (by simp), fun h => by cases h⟩

@[simp] def rowLog (T S : List (List Int)) (a : Int) : List S1 := [profsS T, profsS S, .int .i64 a]
def idL (n : Nat) : List Int := (List.range n).map fun (k : Nat) => (k : Int)
theorem idL_len (n : Nat) : (idL n).length = n := by simp [idL]
theorem idL_snoc (n : Nat) : idL (n + 1) = idL n ++ [(n : Int)] := by simp [idL, List.range_succ]
theorem idL_get {n k : Nat} (h : k < n) : (idL n)[k]? = some (k : Int) := by simp [idL, h]
theorem TabOk.get {g : Gm} {a : Nat} {tb : List Int} (h : TabOk g a tb) : ∀ k, k < kl g a → ((tb[k]?).getD 0).toNat < kl g a ∧ tb[k]? = some (((tb[k]?).getD 0).toNat : Int) := fun k hk => by
  obtain ⟨t, e1, e2⟩ := h.2 k hk
  rw [e1, Option.getD_some, Int.toNat_natCast]
  exact ⟨e2, rfl⟩
end Go.Proofs.YtglhjjokijdagaaGreat.Sh

/- The law of CrowdNone. -/
namespace Go.Proofs.YtglhjjokijdagaaGreat.Sh
open Go Go.RowKit

set_option maxRecDepth 20000 in
set_option maxHeartbeats 4000000 in
theorem lawNone_s (g : Gm) (r : List Ce) (T S : List (List Int)) (a : Int) (tb : List Int) (hg : g.ok) (hl : lenOk r) (hr : ∀ c ∈ r, c.ok) (hT : T.length ≤ 140737488355328) (hS : S.length ≤ 140737488355328) (hpT : ∀ p ∈ T, p.length ≤ 140737488355328) (hpS : ∀ p ∈ S, p.length ≤ 140737488355328) (htb : tb.length ≤ 140737488355328) :
    CallsS Tryz.prog 3 [gmS g, ruS r, .agg [profsS T, profsS S, .int .i64 a, intsS tb]] (B true) := by
  have hbe := bey14_s g r hg hl hr
  refine calls Tryz.func3 rfl (by rfl) (by rfl) (by kernel_rfl) ?_
  simp -dsimp -implicitDefEqProofs [Tryz.f3]
  refine eCall.of hbe (by simp) ?_
  cases h1 : far g with
  | true => simp -dsimp -implicitDefEqProofs
  | false =>
  cases h2 : beyondRule r with
  | true => simp -dsimp -implicitDefEqProofs
  | false =>
  obtain ⟨b1, hb1⟩ := boolOf (WideL T)
  obtain ⟨b2, hb2⟩ := boolOf (WideL S)
  simp -dsimp -implicitDefEqProofs
  refine eCall.of (wide14_s T hT hpT b1 hb1) (by simp) ?_
  cases b1 with
  | true => simp -dsimp -implicitDefEqProofs
  | false =>
  simp -dsimp -implicitDefEqProofs
  refine eCall.of (wide14_s S hS hpS b2 hb2) (by simp) ?_
  cases b2 with
  | true => simp -dsimp -implicitDefEqProofs
  | false =>
  obtain ⟨w1, w2⟩ := WideL.no (fun hh => by have := hb1.2 hh; cases this)
  obtain ⟨w3, w4⟩ := WideL.no (fun hh => by have := hb2.2 hh; cases this)
  by_cases c3 : 100 < tb.length
  · have c3' : (100 : Int) < (tb.length : Int) := by omega
    have c3n : ¬ (tb.length : Int) ≤ 100 := by omega
    simp -dsimp -implicitDefEqProofs [c3, c3', c3n]
  have c3' : (tb.length : Int) ≤ 100 := by omega
  have c3n := eq_false (show ¬ (100 : Int) < (tb.length : Int) by omega)
  have hs := seen_of hg hr h1 h2
  have six := six_of hr h2
  have v2 : ∀ p ∈ T, p.length ≤ 1048576 := fun p hp => by have := w2 p hp; omega
  have v4 : ∀ p ∈ S, p.length ≤ 1048576 := fun p hp => by have := w4 p hp; omega
  obtain ⟨ok, bn, xx, xy, xz, lP, lX, lY, htr, hno⟩ := truth_any g r hs h1
  obtain ⟨e, he⟩ := isLog_of g r T S
  simp -dsimp -implicitDefEqProofs [c3, c3', c3n]
  by_cases e0 : e = 0
  case neg =>
    refine eCall.of (regretNo_s g r hs h1 T S (by omega) (by omega) v2 v4 a e he e0) (by simp) ?_
    simp -dsimp -implicitDefEqProofs
    refine eCall.of htr (by simp) ?_
    simp -dsimp -implicitDefEqProofs [e0]
    refine eCall.of fixed_s (by simp) ?_
    simp -dsimp -implicitDefEqProofs
  obtain ⟨hgd, hL⟩ := he.ok.1 e0
  have hP : Play g r := ⟨hs, h1, hgd⟩
  by_cases ha : 0 ≤ a ∧ a < (g.agents.length : Int)
  case neg =>
    refine eCall.of (regretOut_s g r hP hL v2 v4 a ha) (by simp) ?_
    simp -dsimp -implicitDefEqProofs
    refine eCall.of htr (by simp) ?_
    simp -dsimp -implicitDefEqProofs
    refine eCall.of fixed_s (by simp) ?_
    simp -dsimp -implicitDefEqProofs
  obtain ⟨A, rfl⟩ : ∃ A : Nat, a = A := ⟨a.toNat, by omega⟩
  have h : Sit g r A := ⟨hP, six, by omega⟩
  obtain ⟨b3, hb3⟩ := boolOf (TabOk g A tb)
  refine eCall.of (regret_s h hL) (by simp) ?_
  simp -dsimp -implicitDefEqProofs
  refine eCall.of htr (by simp) ?_
  simp -dsimp -implicitDefEqProofs
  refine eCall.of (table14_s h tb (by omega) b3 hb3) (by simp) ?_
  cases b3 with
  | false =>
    simp -dsimp -implicitDefEqProofs
    refine eCall.of fixed_s (by simp) ?_
    simp -dsimp -implicitDefEqProofs
  | true =>
  have hto := hb3.1 rfl
  have hf := hto.get
  have hs60 := hL.small
  have hz := hL.zl
  have hk4 := h.kle
  have hk0 : 0 < kl g A := by
    have hh := hP.fine.kinds_pos _ (List.getElem_mem h.ha)
    have := h.kl
    omega
  obtain ⟨ft, hft⟩ : ∃ ft : Nat → Nat, ft = fun k => ((tb[k]?).getD 0).toNat := ⟨_, rfl⟩
  have hf : ∀ k, k < kl g A → ft k < kl g A ∧ tb[k]? = some (ft k : Int) := fun k hk => by rw [hft]; exact hf k hk
  have hby := by14_s h hL tb ft hf
  have hbt := by14_s h hL (idL (kl g A)) id (fun k hk => ⟨hk, idL_get hk⟩)
  have ht1 : ∀ k, k < kl g A → tabQ g r A (T.zip S) k < kl g A := fun k hk => (h.tab hk).lt
  have q1 := h.by_over hL.p (by omega) ft fun k hk => (hf k hk).1
  have q2 := h.had_over hL.p (by omega)
  have q3 := h.by_over hL.p (by omega) (tabQ g r A (T.zip S)) ht1
  have q4 := h.by_over hL.p (by omega) id fun k hk => hk
  have q5 := h.sub q3 q2
  have z1 := h.sz (by omega) q1
  have z2 := h.sz (by omega) q2
  have z3 := h.sz (by omega) q3
  have z4 := h.sz (by omega) q4
  have z5 := h.sz (by omega) q5
  have hle := h.best hL.p ft fun k hk => (hf k hk).1
  have had := addR_s (frQ (hadQ g r A (T.zip S))) (frQ (byQ g r A (tabQ g r A (T.zip S)) (T.zip S) - hadQ g r A (T.zip S))) (frQ_ok (by omega)) (frQ_ok (by omega))
  rw [fix_frQ z2, fix_frQ z5, show hadQ g r A (T.zip S) + (byQ g r A (tabQ g r A (T.zip S)) (T.zip S) - hadQ g r A (T.zip S)) = byQ g r A (tabQ g r A (T.zip S)) (T.zip S) by grind, cap_of z3] at had
  have hc1 := cmpR_s (frQ (byQ g r A ft (T.zip S))) (frQ (byQ g r A (tabQ g r A (T.zip S)) (T.zip S))) (frQ_ok (by omega)) (frQ_ok (by omega))
  rw [fix_frQ z1, fix_frQ z3] at hc1
  have hn1 : ¬ 0 < cmpQ (byQ g r A ft (T.zip S)) (byQ g r A (tabQ g r A (T.zip S)) (T.zip S)) := mt cmpQ_pos.1 (Rat.not_lt.2 hle)
  have hc2 := cmpR_s (frQ (byQ g r A ft (T.zip S))) (frQ (byQ g r A id (T.zip S))) (frQ_ok (by omega)) (frQ_ok (by omega))
  rw [fix_frQ z1, fix_frQ z4] at hc2
  have htl := tabL_len g r A (T.zip S) (kl g A)
  simp -dsimp -implicitDefEqProofs
  refine eCall.of (had14_s h hL) (by simp) ?_
  simp -dsimp -implicitDefEqProofs
  refine eCall.of hby (by simp) ?_
  simp -dsimp -implicitDefEqProofs
  refine eCall.of had (by simp [frQ, ng]) ?_
  simp -dsimp -implicitDefEqProofs
  refine eCall.of hc1 (by simp [frQ, ng]) ?_
  simp -dsimp -implicitDefEqProofs [hn1]
  refine sw_cut (fun c : Nat => SS.of [(3, .v (.one (.mp 0 0))), (4, .v (.one (.mp 1 0))), (7, .v (.one (.mp 3 0))), (12, .v (.one (.bool ok))), (14, .v (.one (.mp 7 0))), (15, .v (.one (intsS (idL (kl g A)))))] [(0, ⟨26, rowGm g⟩), (1, ⟨29, [cesS r]⟩), (3, ⟨32, rowLog T S A⟩), (7, ⟨40, rowFr (frQ (byQ g r A ft (T.zip S)))⟩)] (c + 9)) ?_ ?_
  · refine sw_loop_e (fun q : {q : Nat × Nat // q.1 ≤ kl g A} => SS.of [(3, .v (.one (.mp 0 0))), (4, .v (.one (.mp 1 0))), (7, .v (.one (.mp 3 0))), (8, .v (.one (intsS (tabL g r A (T.zip S) (kl g A))))), (12, .v (.one (.bool ok))), (14, .v (.one (.mp 7 0))), (15, if q.1.1 = 0 then .v (.one .nils) else .v (.one (.ms (q.1.2 + 8) 0 q.1.1 1 true))), (16, I .i64 q.1.1)] ((0, ⟨26, rowGm g⟩) :: (1, ⟨29, [cesS r]⟩) :: (3, ⟨32, rowLog T S A⟩) :: (7, ⟨40, rowFr (frQ (byQ g r A ft (T.zip S)))⟩) :: if q.1.1 = 0 then [] else [(q.1.2 + 8, ⟨3, flat rowInt (idL q.1.1)⟩)]) (q.1.2 + 9))
      (fun q => kl g A - q.1.1) ⟨(0, 0), Nat.zero_le _⟩ (by kernel_rfl) (Le.to (by simp) (by simp [frQ, ng]) (by simp)) ?_
    rintro ⟨⟨k, c⟩, hk⟩
    simp only at hk
    have hil := idL_len k
    by_cases a1 : k < kl g A
    · have wk : IntKind.i64.wrap ((k : Int) + 1) = ((k + 1 : Nat) : Int) := by rw [wrap_i64 _ (by omega) (by omega)]; rfl
      have hfl := flat_snoc (f := rowInt) (k : Int) (idL k)
      rw [← idL_snoc] at hfl
      by_cases k0 : k = 0
      · have hif : ∀ {α : Type} (x y : α), (if k = 0 then x else y) = x := fun x y => if_pos k0
        rw [show idL k = [] by rw [k0]; rfl, flat_nil, List.nil_append] at hfl
        simp -dsimp -implicitDefEqProofs [a1, htl, hif, slots]
        exact Again.by ⟨(k + 1, c + 2), a1⟩ (Le.to (by simp [wk, k0, i64_1]) (by simp [hfl, frQ, ng]) (by simp)) (by simp; omega)
      · have hif : ∀ {α : Type} (x y : α), (if k = 0 then x else y) = y := fun x y => if_neg k0
        simp -dsimp -implicitDefEqProofs [a1, htl, hif, slots, hil]
        refine ⟨⟨by omega, by omega⟩, ?_⟩
        exact Again.by ⟨(k + 1, c + 2), a1⟩ (Le.to (by simp [wk]) (by simp [hfl, frQ, ng]) (by simp)) (by simp; omega)
    have hk2 : k = kl g A := by omega
    subst hk2
    have hk0' : ¬ kl g A = 0 := by omega
    simp -dsimp -implicitDefEqProofs [hk0', htl]
    exact Cut.by c (Le.fzF [c + 8] (Le.to (by simp [hil]) (by simp [hil]) (by simp)))
  intro c
  cases ok with
  | false =>
    simp -dsimp -implicitDefEqProofs 
    refine eCall.of fixed_s (by simp) ?_
    simp -dsimp -implicitDefEqProofs
  | true =>
  have hn2 : cmpQ (byQ g r A ft (T.zip S)) (byQ g r A id (T.zip S)) ≤ 0 := Int.not_lt.1 (mt cmpQ_pos.1 (Rat.not_lt.2 (h.byTruth (hno rfl A h.ha) hL.p ft fun k hk => (hf k hk).1)))
  simp -dsimp -implicitDefEqProofs 
  refine eCall.of hbt (by simp) ?_
  simp -dsimp -implicitDefEqProofs
  refine eCall.of hc2 (by simp [frQ, ng]) ?_
  simp -dsimp -implicitDefEqProofs [hn2]
  refine eCall.of fixed_s (by simp) ?_
  simp -dsimp -implicitDefEqProofs
end Go.Proofs.YtglhjjokijdagaaGreat.Sh

