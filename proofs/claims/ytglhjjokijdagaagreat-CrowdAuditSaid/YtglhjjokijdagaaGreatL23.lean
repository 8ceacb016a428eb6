/- A part of the proof: R24, R118, R81, R123, R124, R82, R83, R84, R125 -/
import Derived.Test.YtglhjjokijdagaaGreatL22
set_option linter.unusedSimpArgs false
set_option linter.unusedVariables false
set_option linter.unusedSectionVars false
/- law14.fixed. -/
namespace Go.Proofs.YtglhjjokijdagaaGreat.Sh
open Go Go.RowKit

def fixG : List (List FR) := [[frQ 1, frQ (-1)], [frQ 0, frQ 1]]
theorem fix_out : outF 2 fixG 2 = [[frQ (1 / 2), frQ (1 / 2)], [frQ (3 / 4), frQ (1 / 4)]] := by
  have h0 : chanceW (wAt 2 fixG 0) = [1 / 2, 1 / 2] := by decide +kernel
  have h1 : chanceW (wAt 2 fixG 1) = [3 / 4, 1 / 4] := by decide +kernel
  show [(chanceW (wAt 2 fixG 0)).map frQ, (chanceW (wAt 2 fixG 1)).map frQ] = _
  rw [h0, h1]; rfl
theorem fix_win : win [3, 5, 5] = (1, 5) := by decide +kernel
theorem fix_ok {q : Rat} (h : mz q ≤ 1) : (frQ q).ok ∧ (frQ q).fix = q := ⟨ok_mz (by omega), fix_mz (by omega)⟩
theorem mzs : mz 3 = 1 ∧ mz 5 = 1 ∧ mz 0 = 1 ∧ mz 1 = 1 ∧ mz (-1) = 1 ∧ mz (3 / 4) = 1 := by decide +kernel
theorem three_four : (((3 : Int) : Rat) / ((4 : Int) : Rat)) = 3 / 4 := by decide +kernel

theorem fix_gains : isGains fixG 0 := by
  obtain ⟨m3, m5, m0, m1, mn, m34⟩ := mzs
  have f0 := (fix_ok (q := 0) (by omega)).2
  have f1 := (fix_ok (q := 1) (by omega)).2
  have fn := (fix_ok (q := -1) (by omega)).2
  have g0 : goodX (frQ 0) := by unfold goodX; rw [f0]; exact ⟨by decide, by decide⟩
  have g1 : goodX (frQ 1) := by unfold goodX; rw [f1]; exact ⟨by decide, by decide⟩
  have gn : goodX (frQ (-1)) := by unfold goodX; rw [fn]; exact ⟨by decide, by decide⟩
  refine Or.inr (Or.inr (Or.inr ⟨by decide, fun l hl => ?_, fun l hl => ?_, rfl⟩))
  · simp [fixG] at hl; rcases hl with rfl | rfl <;> simp
  · simp [fixG] at hl
    rcases hl with rfl | rfl
    · refine ⟨by simp, rfl, fun f hf => ?_⟩
      simp at hf; rcases hf with rfl | rfl
      · exact g1
      · exact gn
    · refine ⟨by simp, rfl, fun f hf => ?_⟩
      simp at hf; rcases hf with rfl | rfl
      · exact g0
      · exact g1

set_option maxRecDepth 20000 in
theorem fixed_s : CallsS Tryz.prog 12 [] (B true) := by
  obtain ⟨m3, m5, m0, m1, mn, m34⟩ := mzs
  have i3 := intR_s 3 (by decide) (by decide)
  have i5 := intR_s 5 (by decide) (by decide)
  have i1 := intR_s 1 (by decide) (by decide)
  have in1 := intR_s (-1) (by decide) (by decide)
  have i0 := intR_s 0 (by decide) (by decide)
  rw [show (((3 : Int) : Rat)) = 3 from rfl, ← frS_frQ] at i3
  rw [show (((5 : Int) : Rat)) = 5 from rfl, ← frS_frQ] at i5
  rw [show (((1 : Int) : Rat)) = 1 from rfl, ← frS_frQ] at i1
  rw [show (((-1 : Int) : Rat)) = -1 by decide +kernel, ← frS_frQ] at in1
  rw [show (((0 : Int) : Rat)) = 0 from rfl, ← frS_frQ] at i0
  have mk := makeR_s 3 4 (by decide) (by decide) (by decide) (by decide) (by decide)
  rw [three_four, ← frS_frQ] at mk
  obtain ⟨k3, f3⟩ := fix_ok (q := 3) (by omega)
  obtain ⟨k5, f5⟩ := fix_ok (q := 5) (by omega)
  obtain ⟨k1, f1⟩ := fix_ok (q := 1) (by omega)
  obtain ⟨kn, fn⟩ := fix_ok (q := -1) (by omega)
  obtain ⟨k0, f0⟩ := fix_ok (q := 0) (by omega)
  obtain ⟨k34, f34⟩ := fix_ok (q := 3 / 4) (by omega)
  have hs := secondC_s [frQ 3, frQ 5, frQ 5] (by intro f hf; simp at hf; rcases hf with rfl | rfl; exact k3; exact k5) (by decide)
  rw [show [frQ 3, frQ 5, frQ 5].map FR.fix = [3, 5, 5] by simp [f3, f5], fix_win, ← frS_frQ] at hs
  have hgo : ∀ l ∈ fixG, ∀ f ∈ l, f.ok ∧ mz f.fix ≤ 1 := by
    intro l hl f hf
    simp [fixG] at hl
    rcases hl with rfl | rfl <;> simp at hf <;> rcases hf with rfl | rfl
    · exact ⟨k1, by rw [f1]; omega⟩
    · exact ⟨kn, by rw [fn]; omega⟩
    · exact ⟨k0, by rw [f0]; omega⟩
    · exact ⟨k1, by rw [f1]; omega⟩
  have hw := weighC_s fixG (fun l hl f hf => (hgo l hl f hf).1) (by decide) (by intro l hl; simp [fixG] at hl; rcases hl with rfl | rfl <;> simp) (fun l hl f hf => (hgo l hl f hf).2) 0 fix_gains
  rw [if_pos ⟨rfl, by simp [fixG]⟩, show picks fixG = 2 from rfl, show fixG.length = 2 from rfl, fix_out] at hw
  have s1 := sameR_s (frQ 5) (frQ 5) k5 k5
  have s2 := sameR_s (frQ (3 / 4)) (frQ (3 / 4)) k34 k34
  rw [decide_eq_true rfl] at s1 s2
  unfold fixG at hw
  generalize frQ 3 = A3 at *
  generalize frQ 5 = A5 at *
  generalize frQ 1 = A1 at *
  generalize frQ (-1) = AN at *
  generalize frQ 0 = A0 at *
  generalize frQ (3 / 4) = A34 at *
  generalize frQ (1 / 2) = A12 at *
  generalize frQ (1 / 4) = A14 at *
  refine calls Tryz.func12 rfl (by rfl) (by rfl) (by kernel_rfl) ?_
  simp -dsimp -implicitDefEqProofs [Tryz.f12]
  refine eCall.of i3 (by simp) ?_
  simp -dsimp -implicitDefEqProofs
  refine eCall.of i5 (by simp) ?_
  simp -dsimp -implicitDefEqProofs
  refine eCall.of i5 (by simp) ?_
  simp -dsimp -implicitDefEqProofs [slots]
  refine eCall.of mk (by simp) ?_
  simp -dsimp -implicitDefEqProofs [slots, rowsOf, List.range, List.range.loop]
  refine eCall.of hs (by simp [rowsOf, List.range, List.range.loop]) ?_
  simp -dsimp -implicitDefEqProofs [slots]
  refine eCall.of i1 (by simp) ?_
  simp -dsimp -implicitDefEqProofs [slots]
  refine eCall.of in1 (by simp) ?_
  simp -dsimp -implicitDefEqProofs [slots]
  refine eCall.of i0 (by simp) ?_
  simp -dsimp -implicitDefEqProofs [slots]
  refine eCall.of i1 (by simp) ?_
  simp -dsimp -implicitDefEqProofs [slots, rowsOf, List.range, List.range.loop]
  refine eCall.of hw (by simp [rowsOf, List.range, List.range.loop]) ?_
  simp -dsimp -implicitDefEqProofs [slots]
  refine eCall.of i5 (by simp) ?_
  simp -dsimp -implicitDefEqProofs
  refine eCall.of s1 (by simp) ?_
  simp -dsimp -implicitDefEqProofs
  refine eCall.of s2 (by simp) ?_
  simp -dsimp -implicitDefEqProofs
end Go.Proofs.YtglhjjokijdagaaGreat.Sh

/- The walk of CrowdNone. -/
namespace Go.Proofs.YtglhjjokijdagaaGreat.Sh
open Go Go.RowKit

set_option maxRecDepth 20000 in
theorem bey14_s (g : Gm) (r : List Ce) (hg : g.ok) (hl : lenOk r) (hr : ∀ c ∈ r, c.ok) : CallsS Tryz.prog 7 [gmS g, ruS r] (B (far g || beyondRule r)) := by
  refine calls Tryz.func7 rfl (by rfl) (by rfl) (by kernel_rfl) ?_
  simp -dsimp -implicitDefEqProofs [Tryz.f7]
  refine eCall.of (far_s g hg) (by simp) ?_
  cases h1 : far g with
  | true => simp -dsimp -implicitDefEqProofs
  | false =>
    simp -dsimp -implicitDefEqProofs
    refine eCall.of (beyondRule_s r hl hr) (by simp) ?_
    simp -dsimp -implicitDefEqProofs

def WideL (l : List (List Int)) : Prop := 100 < l.length ∨ ∃ p ∈ l, 100 < p.length
theorem WideL.no {l : List (List Int)} (h : ¬ WideL l) : l.length ≤ 100 ∧ ∀ p ∈ l, p.length ≤ 100 :=
  ⟨Nat.not_lt.1 fun hh => h (.inl hh), fun p hp => Nat.not_lt.1 fun hh => h (.inr ⟨p, hp, hh⟩)⟩

set_option maxRecDepth 20000 in
theorem wide14_s (l : List (List Int)) (hl : l.length ≤ 140737488355328) (hp : ∀ p ∈ l, p.length ≤ 140737488355328) (b : Bool) (hb : b = true ↔ WideL l) : CallsS Tryz.prog 8 [.one (profsS l)] (B b) := by
  refine calls Tryz.func8 rfl (by rfl) (by rfl) (by kernel_rfl) ?_
  simp -dsimp -implicitDefEqProofs [Tryz.f8]
  by_cases c1 : 100 < l.length
  · have c1' : (100 : Int) < (l.length : Int) := by omega
    have c1n : ¬ (l.length : Int) ≤ 100 := by omega
    have hb' := hb.2 (.inl c1)
    simp -dsimp -implicitDefEqProofs [c1, c1', c1n, hb']
  have c1' : (l.length : Int) ≤ 100 := by omega
  have c1n := eq_false (show ¬ (100 : Int) < (l.length : Int) by omega)
  simp -dsimp -implicitDefEqProofs [c1, c1', c1n]
  refine sw_loop_e (fun q : {q : Nat // q ≤ l.length ∧ ∀ i (hi : i < q) (hl : i < l.length), l[i].length ≤ 100} => SS.of [(0, .v (.one (profsS l))), (3, I .i64 q.1)] [] 0)
    (fun q => l.length - q.1) ⟨0, Nat.zero_le _, fun i hi => absurd hi (by omega)⟩ (by kernel_rfl) (Le.to (by simp) (by simp) (by simp)) ?_
  rintro ⟨i, hi, hq⟩
  by_cases a1 : i < l.length
  · have wi : IntKind.i64.wrap ((i : Int) + 1) = ((i + 1 : Nat) : Int) := by rw [wrap_i64 _ (by omega) (by omega)]; rfl
    by_cases c2 : 100 < l[i].length
    · have c2' : (100 : Int) < (l[i].length : Int) := by omega
      have c2n : ¬ (l[i].length : Int) ≤ 100 := by omega
      have hb' := hb.2 (.inr ⟨_, List.getElem_mem a1, c2⟩)
      simp -dsimp -implicitDefEqProofs [a1, c2, c2', c2n, hb']
    · have c2' : (l[i].length : Int) ≤ 100 := by omega
      have c2n := eq_false (show ¬ (100 : Int) < (l[i].length : Int) by omega)
      simp -dsimp -implicitDefEqProofs [a1, c2, c2', c2n]
      refine Again.by ⟨i + 1, a1, fun j hj hl => ?_⟩ (Le.to (by simp [wi]) (by simp) (by simp)) (by simp; omega)
      by_cases e : j = i
      · subst e; omega
      · exact hq j (by omega) hl
  have hi2 : i = l.length := by omega
  subst hi2
  have hb' := nf hb (fun hh => by
    rcases hh with hh | ⟨p, hp, hh⟩
    · exact c1 hh
    · obtain ⟨j, hj, rfl⟩ := List.getElem_of_mem hp
      have := hq j hj hj
      omega)
  simp -dsimp -implicitDefEqProofs [hb']

/-- Truthful of any rule: the lie is not told. -/
theorem truth_any (g : Gm) (r : List Ce) (hs : Seen g r) (hf : far g = false) : ∃ (ok n : Bool) (x y z : Int) (P X Y : List (List S1)), CallsS Tryz.prog 10 [gmS g, ruS r] (.tup [.agg [.int .i64 x, .int .i64 y, .int .i64 z, .sl true 1 P, .bool n, .sl true 1 X, .sl true 1 Y], .one (.bool ok)]) ∧ (ok = true → ∀ a, a < g.agents.length → NoA g r a) := by
  by_cases hg : Good g r
  · obtain ⟨l, ok, h⟩ := isTr_of (g := g) (r := r)
    exact ⟨ok, _, _, _, _, _, _, _, (rtruth_s g r ⟨hs, hf, hg⟩ l ok h), h.iff.1⟩
  · exact ⟨false, false, 0, 0, 0, [], [], [], (rtruthNo_s g r hs hg).res (by simp), fun h => by cases h⟩

@[simp] def rowLog (T S : List (List Int)) (a : Int) : List S1 := [profsS T, profsS S, .int .i64 a]
def idL (n : Nat) : List Int := (List.range n).map fun (k : Nat) => (k : Int)
theorem idL_len (n : Nat) : (idL n).length = n := by simp [idL]
theorem idL_snoc (n : Nat) : idL (n + 1) = idL n ++ [(n : Int)] := by simp [idL, List.range_succ]
theorem idL_get {n k : Nat} (h : k < n) : (idL n)[k]? = some (k : Int) := by simp [idL, h]
theorem TabOk.get {g : Gm} {a : Nat} {tb : List Int} (h : TabOk g a tb) : ∀ k, k < kl g a → ((tb[k]?).getD 0).toNat < kl g a ∧ tb[k]? = some (((tb[k]?).getD 0).toNat : Int) := fun k hk => by
  obtain ⟨t, e1, e2⟩ := h.2 k hk
  rw [e1, Option.getD_some, Int.toNat_natCast]
  exact ⟨e2, rfl⟩
end Go.Proofs.YtglhjjokijdagaaGreat.Sh

/- Audits: the reference. -/
namespace Go.Proofs.YtglhjjokijdagaaGreat.Sh
open Go Go.RowKit

def loggedB (log : List Sn) : Bool := log.all (fun s => decide (s.prof.length ≤ 100)) && decide (log.length ≤ 100)



/-- A log that is fit to be looked at. -/
structure LogFine (log : List Sn) : Prop where
  ok : ∀ s ∈ log, s.ok
  len : log.length ≤ 100
  pl : ∀ s ∈ log, s.prof.length ≤ 100
theorem loggedB_fine {log : List Sn} (ho : ∀ s ∈ log, s.ok) (h : loggedB log = true) : LogFine log := by
  unfold loggedB at h
  simp only [Bool.and_eq_true, decide_eq_true_eq] at h
  exact ⟨ho, h.2, fun s hs => by have := List.all_eq_true.1 h.1 s hs; simpa using this⟩



theorem auditTo_succ (g : Gm) (r : List Ce) (log : List Sn) (a : Nat) : auditTo g r log (a + 1) = auditTo g r log a ++ auditA g r log a := by
  unfold auditTo; rw [List.range_succ, List.flatMap_append]; simp
def auditK (g : Gm) (r : List Ce) (log : List Sn) (a k : Nat) : List Li := auditTo g r log a ++ (List.range k).map (bestAK g r log a)
theorem auditK_step (g : Gm) (r : List Ce) (log : List Sn) (a k : Nat) : auditK g r log a (k + 1) = auditK g r log a k ++ [bestAK g r log a k] := by
  unfold auditK; rw [List.range_succ, List.map_append, List.append_assoc]; rfl
theorem auditK_zero (g : Gm) (r : List Ce) (log : List Sn) (a : Nat) : auditK g r log a 0 = auditTo g r log a := by simp [auditK]
theorem auditK_all (g : Gm) (r : List Ce) (log : List Sn) (a : Nat) : auditK g r log a (kl g a) = auditTo g r log (a + 1) := by rw [auditTo_succ]; rfl
theorem auditK_len {g : Gm} {r : List Ce} (h : Play g r) (log : List Sn) {a k : Nat} (ha : a ≤ g.agents.length) (hk : k ≤ 4) : (auditK g r log a k).length ≤ 4 * a + k := by
  have h1 : ∀ a, a ≤ g.agents.length → (auditTo g r log a).length ≤ 4 * a := by
    intro a
    induction a with
    | zero => intro _; simp [auditTo]
    | succ a ih =>
      intro ha
      rw [auditTo_succ, List.length_append]
      have := ih (by omega)
      have h4 := (sizeOk_all h.fine.sz).2.2.2.1 _ (List.getElem_mem (l := g.agents) (n := a) ha)
      have : (auditA g r log a).length = kl g a := by simp [auditA]
      rw [kl_eq ha] at this
      omega
  have := h1 a ha
  simp [auditK]; omega

def isAud (g : Gm) (r : List Ce) (log : List Sn) (l : List Li) (e : Int) : Prop :=
  (¬ Good g r ∧ isGood g r e ∧ l = []) ∨ (Good g r ∧ ¬ LogOk g log ∧ l = [] ∧ e = 3) ∨ (Good g r ∧ LogOk g log ∧ l = auditL g r log ∧ e = 0)

theorem bestAK_ok {g : Gm} {r : List Ce} (log : List Sn) (a k : Nat) : (bestAK g r log a k).ok ∧ (bestAK g r log a k).prof = [] := by
  unfold bestAK
  cases e : (othersA g r log a k (kl g a)).foldl (mst gtL) none with
  | none => exact ⟨⟨by show lenOk []; unfold lenOk; decide, by show sz 0 ≤ 4096; decide +kernel⟩, rfl⟩
  | some y =>
    unfold orZ
    simp only
    split
    · have hy := (mst_mem gtL _ _ e).resolve_right (by simp)
      obtain ⟨t, -, rfl⟩ := List.mem_map.1 hy
      exact ⟨⟨by show lenOk []; unfold lenOk; decide, totA_sz g r log a k t⟩, rfl⟩
    · exact ⟨⟨by show lenOk []; unfold lenOk; decide, by show sz 0 ≤ 4096; decide +kernel⟩, rfl⟩
theorem bstTo_sz {g : Gm} {r : List Ce} (log : List Sn) (a k : Nat) : ∀ t, sz (bstTo g r log a k t).gain ≤ 4096
  | 0 => by show sz 0 ≤ 4096; decide +kernel
  | t + 1 => by
    rw [bstTo_step]
    unfold bst
    split
    · exact totA_sz g r log a k t
    · exact bstTo_sz log a k t
theorem bstTo_form {g : Gm} {r : List Ce} (log : List Sn) (a k : Nat) : ∀ t, (bstTo g r log a k t).agent = a ∧ (bstTo g r log a k t).kind = k ∧ (bstTo g r log a k t).prof = []
  | 0 => ⟨rfl, rfl, rfl⟩
  | t + 1 => by
    rw [bstTo_step]
    unfold bst
    split
    · exact ⟨rfl, rfl, rfl⟩
    · exact bstTo_form log a k t
end Go.Proofs.YtglhjjokijdagaaGreat.Sh

/- A crowd: an audit of what was said tells what truth would have lost. No program in sight. -/
namespace Go.Proofs.YtglhjjokijdagaaGreat.Sh
open Go Go.RowKit

def ones (l : List (List Int)) : List Sn := l.map fun p => ⟨p, 1⟩
def keepK (a k : Nat) (l : List (List Int)) : List (List Int) := l.filter fun p => p[a]? = some (k : Int)
def putT (a : Nat) (t s : List Int) : List Int := putP t a ((s[a]?).getD 0)
def putL14 (a : Nat) (T S : List (List Int)) : List (List Int) := List.zipWith (putT a) T S

theorem ones_snoc (l : List (List Int)) (p : List Int) : ones (l ++ [p]) = ones l ++ [⟨p, 1⟩] := by simp [ones]
theorem tot_snoc (g : Gm) (r : List Ce) (log : List Sn) (s : Sn) (a k t : Nat) : totA g r (log ++ [s]) a k t = addT g r a k t (totA g r log a k t) s := by
  unfold totA; rw [List.foldl_append]; rfl
theorem keepK_snoc (a k : Nat) (l : List (List Int)) (p : List Int) : keepK a k (l ++ [p]) = keepK a k l ++ if p[a]? = some (k : Int) then [p] else [] := by
  unfold keepK
  rw [List.filter_append]
  congr 1
  by_cases c : p[a]? = some (k : Int) <;> simp [c]
theorem keepK_le (a k : Nat) (l : List (List Int)) : (keepK a k l).length ≤ l.length := List.length_filter_le ..
theorem keepK_mem {a k : Nat} {l : List (List Int)} {p : List Int} (h : p ∈ keepK a k l) : p ∈ l := (List.mem_filter.1 h).1
theorem bring_snoc (g : Gm) (r : List Ce) (a k t : Nat) (l : List (List Int)) (p : List Int) : bringQ g r a k (l ++ [p]) t = bringQ g r a k l t + useP g r a k p t := by
  unfold bringQ; rw [List.map_append, List.map_cons, List.map_nil, sumQ_snoc]

theorem bstTo_spec (g : Gm) (r : List Ce) (log : List Sn) (a k : Nat) : ∀ n, 0 ≤ (bstTo g r log a k n).gain ∧ (∀ t, t < n → totA g r log a k t ≤ (bstTo g r log a k n).gain) ∧ ((bstTo g r log a k n).gain = 0 ∨ ∃ t, t < n ∧ (bstTo g r log a k n).gain = totA g r log a k t)
  | 0 => ⟨Rat.le_refl, fun t ht => absurd ht (by omega), .inl rfl⟩
  | n + 1 => by
    obtain ⟨i1, i2, i3⟩ := bstTo_spec g r log a k n
    rw [bstTo_step]
    unfold bst
    split
    · next c =>
      have c : (bstTo g r log a k n).gain < totA g r log a k n := c
      refine ⟨?_, fun t ht => ?_, .inr ⟨n, by omega, rfl⟩⟩
      · show 0 ≤ totA g r log a k n; grind
      · show totA g r log a k t ≤ totA g r log a k n
        by_cases e : t = n
        · rw [e]; exact Rat.le_refl
        · have := i2 t (by omega); grind
    · next c =>
      have c : ¬ (bstTo g r log a k n).gain < totA g r log a k n := c
      refine ⟨i1, fun t ht => ?_, i3.imp_right fun ⟨t, h1, h2⟩ => ⟨t, by omega, h2⟩⟩
      by_cases e : t = n
      · rw [e]; grind
      · exact i2 t (by omega)

theorem snoc_ind {α : Type} {P : List α → Prop} (h0 : P []) (h1 : ∀ l x, P l → P (l ++ [x])) (l : List α) : P l := by
  have : ∀ l : List α, P l.reverse := fun l => by
    induction l with
    | nil => exact h0
    | cons x l ih => rw [List.reverse_cons]; exact h1 _ _ ih
  have h := this l.reverse
  rwa [List.reverse_reverse] at h

section
variable {g : Gm} {r : List Ce} {a : Nat} (h : Sit g r a)
include h
theorem Sit.gainP {p : List Int} (hp : isProf g p) {k : Nat} (hk : p[a]? = some (k : Int)) (t : Nat) : gainQ g r a (Sh.whr g p).toNat t = useP g r a k p t - useP g r a k p k := by
  have e : kOf g (Sh.whr g p).toNat a = k := by
    unfold kOf; rw [at_whr hp, hk, Option.getD_some, Int.toNat_natCast]
  have e2 := h.self hp
  rw [hk, Option.getD_some] at e2
  unfold gainQ Sh.toAt useP
  rw [e, at_whr hp, e2]
theorem Sit.tot {l : List (List Int)} (hl : l.length ≤ 1000) (hp : ∀ p ∈ l, isProf g p) {k t : Nat} (hk : k < Sh.kl g a) (ht : t < Sh.kl g a) : totA g r (ones l) a k t = bringQ g r a k (keepK a k l) t - bringQ g r a k (keepK a k l) k := by
  revert hl hp
  refine snoc_ind (P := fun l => l.length ≤ 1000 → (∀ p ∈ l, isProf g p) → totA g r (ones l) a k t = bringQ g r a k (keepK a k l) t - bringQ g r a k (keepK a k l) k) ?_ ?_ l
  · intro _ _; show (0 : Rat) = 0 - 0; grind
  · intro l p ih hl hp
    have hl' : l.length + 1 ≤ 1000 := by simpa using hl
    have hp' : ∀ q ∈ l, isProf g q := fun q hq => hp q (List.mem_append_left _ hq)
    have hpp : isProf g p := hp p (by simp)
    have ih := ih (by omega) hp'
    rw [ones_snoc, tot_snoc, ih, keepK_snoc]
    unfold addT
    by_cases c : p[a]? = some (k : Int)
    · rw [if_pos c, if_pos c, bring_snoc, bring_snoc]
      simp only
      rw [h.gainP hpp c t]
      have hm : ∀ q ∈ keepK a k l ++ [p], isProf g q := fun q hq => by
        rcases List.mem_append.1 hq with hq | hq
        · exact hp' q (keepK_mem hq)
        · rw [List.mem_singleton.1 hq]; exact hpp
      have hlen : (keepK a k l ++ [p]).length ≤ 1024 := by have := keepK_le a k l; simp; omega
      have o1 := h.bring_over hlen hm hk ht
      have o2 := h.bring_over hlen hm hk hk
      rw [bring_snoc] at o1 o2
      have u1 := h.over hpp (t := (t : Int)) (by omega) (by omega) hk
      have u2 := h.over hpp (t := (k : Int)) (by omega) (by omega) hk
      have u3 := (u1.sub (UD_ne g r) u2).le (UD_ne g r) (show W ^ 10 + W ^ 10 ≤ W ^ 11 by decide)
      have z1 := h.sz (i := 11) (by omega) u3
      have z2 := h.sz (i := 12) (by omega) (h.sub o1 o2)
      rw [show (((1 : Int) : Rat)) * (useP g r a k p t - useP g r a k p k) = useP g r a k p t - useP g r a k p k by simp, cap_of z1]
      rw [show bringQ g r a k (keepK a k l) t - bringQ g r a k (keepK a k l) k + (useP g r a k p t - useP g r a k p k) = bringQ g r a k (keepK a k l) t + useP g r a k p t - (bringQ g r a k (keepK a k l) k + useP g r a k p k) by grind, cap_of z2]
    · rw [if_neg c, if_neg c, List.append_nil]

theorem ones_ok {l : List (List Int)} (hp : ∀ p ∈ l, isProf g p) : LogOk g (ones l) := fun s hs => by
  unfold ones at hs
  obtain ⟨p, h1, rfl⟩ := List.mem_map.1 hs
  exact ⟨hp p h1, by show (0 : Int) ≤ 1; omega⟩

/-- What an audit tells of a kind. -/
theorem Sit.audit {l : List (List Int)} (hl : l.length ≤ 1000) (hp : ∀ p ∈ l, isProf g p) {k : Nat} (hk : k < Sh.kl g a) : (bestAK g r (ones l) a k).gain = bringQ g r a k (keepK a k l) (ansQ g r a k (keepK a k l)) - bringQ g r a k (keepK a k l) k := by
  have hA : IsAns (bringQ g r a k (keepK a k l)) (Sh.kl g a) k (ansQ g r a k (keepK a k l)) := ans_is _ hk
  obtain ⟨i1, i2, i3⟩ := bstTo_spec g r (ones l) a k (Sh.kl g a)
  rw [← bstTo_best h.play (ones_ok h hp) h.ha]
  have hl1 := i2 _ hA.lt
  rw [h.tot hl hp hk hA.lt] at hl1
  refine Rat.le_antisymm ?_ hl1
  rcases i3 with e | ⟨t, h1, h2⟩
  · have := hA.top k hk; grind
  · rw [h2, h.tot hl hp hk h1]
    have := hA.top t h1
    grind
end
end Go.Proofs.YtglhjjokijdagaaGreat.Sh

/- A crowd: the sum of an audit. No program in sight. -/
namespace Go.Proofs.YtglhjjokijdagaaGreat.Sh
open Go Go.RowKit

theorem putL_len {a : Nat} {T S : List (List Int)} (h : T.length = S.length) : (putL14 a T S).length = S.length := by
  unfold putL14; rw [List.length_zipWith]; omega
theorem putL_get {a : Nat} {T S : List (List Int)} {i : Nat} (h1 : i < T.length) (h2 : i < S.length) (h : i < (putL14 a T S).length) : (putL14 a T S)[i] = putT a T[i] S[i] := by simp [putL14]

section
variable {g : Gm} {r : List Ce} {a : Nat} (h : Sit g r a) {T S : List (List Int)} (hle : T.length = S.length) (hT : ∀ p ∈ T, isProf g p) (hS : ∀ p ∈ S, isProf g p)
include h hle hT hS
theorem Sit.putL : ∀ p ∈ putL14 a T S, isProf g p := fun p hp => by
  obtain ⟨i, hi, rfl⟩ := List.getElem_of_mem hp
  have hi' : i < S.length := by rw [← putL_len (a := a) hle]; exact hi
  rw [putL_get (by omega) hi' hi]
  obtain ⟨k, e1, e2⟩ := h.report (hS _ (List.getElem_mem hi'))
  unfold putT
  rw [e1, Option.getD_some]
  exact h.put (hT _ (List.getElem_mem (by omega))) (by omega) (by omega)
theorem Sit.logPut (h60 : S.length ≤ 60) : LogR g (putL14 a T S) S := ⟨putL_len hle, by rw [putL_len hle]; exact h60, h.putL hle hT hS, hS⟩
theorem Sit.put_mem : ∀ x ∈ (putL14 a T S).zip S, ∃ n : Nat, x.2[a]? = some (n : Int) ∧ Sh.knd a x = n := fun x hx => by
  obtain ⟨i, hi, rfl⟩ := List.getElem_of_mem hx
  have hl := putL_len (a := a) hle
  have i2 : i < S.length := by rw [List.length_zip] at hi; omega
  have i1 : i < (putL14 a T S).length := by omega
  rw [zip_get i1 i2 hi, putL_get (by omega) i2 i1]
  obtain ⟨k, e1, e2⟩ := h.report (hS _ (List.getElem_mem i2))
  refine ⟨k, e1, ?_⟩
  have hp := hT _ (List.getElem_mem (show i < T.length by omega))
  unfold Sh.knd putT
  simp only
  rw [e1, Option.getD_some, putP_get (by have := hp.1; have := h.ha; omega), if_pos rfl, Option.getD_some, Int.toNat_natCast]
theorem Sit.rndsPut (k : Nat) : Sh.rnds a k ((putL14 a T S).zip S) = keepK a k S := by
  have e : ((putL14 a T S).zip S).filter (fun x => Sh.knd a x = k) = ((putL14 a T S).zip S).filter ((fun p => decide (p[a]? = some (k : Int))) ∘ Prod.snd) := by
    refine List.filter_congr fun x hx => ?_
    obtain ⟨n, e1, e2⟩ := h.put_mem hle hT hS x hx
    simp only [Function.comp, e1, e2]
    by_cases c : n = k <;> simp [c]
  unfold Sh.rnds keepK
  rw [e, ← List.filter_map, List.map_snd_zip (by rw [putL_len hle]; exact Nat.le_refl _)]
theorem Sit.hadPut : hadQ g r a ((putL14 a T S).zip S) = byQ g r a id ((putL14 a T S).zip S) := by
  unfold hadQ byQ
  congr 1
  refine List.map_congr_left fun x hx => ?_
  obtain ⟨n, e1, e2⟩ := h.put_mem hle hT hS x hx
  unfold toldA
  rw [e1, Option.getD_some, e2]; rfl
theorem Sit.auditSum (h60 : S.length ≤ 60) : sumQ ((List.range (Sh.kl g a)).map fun k => (bestAK g r (ones S) a k).gain) = byQ g r a (tabQ g r a ((putL14 a T S).zip S)) ((putL14 a T S).zip S) - hadQ g r a ((putL14 a T S).zip S) := by
  have hP := (h.logPut hle hT hS h60).p
  rw [h.hadPut hle hT hS, ← best_sum g r a _ fun x hx => (h.knd hP x hx).1, ← best_sum g r a id fun x hx => (h.knd hP x hx).1]
  have e : ∀ l : List Nat, (∀ k ∈ l, k < Sh.kl g a) → sumQ (l.map fun k => (bestAK g r (ones S) a k).gain) = sumQ (l.map fun k => bringQ g r a k (Sh.rnds a k ((putL14 a T S).zip S)) (tabQ g r a ((putL14 a T S).zip S) k)) - sumQ (l.map fun k => bringQ g r a k (Sh.rnds a k ((putL14 a T S).zip S)) (id k)) := fun l hl => by
    induction l with
    | nil => show (0 : Rat) = 0 - 0; grind
    | cons k l ih =>
      have e1 := ih fun x hx => hl x (List.mem_cons_of_mem _ hx)
      have e2 := h.audit (l := S) (by omega) hS (hl k (List.mem_cons_self ..))
      rw [List.map_cons, List.map_cons, List.map_cons, sumQ, sumQ, sumQ, e1, e2]
      unfold tabQ
      rw [h.rndsPut hle hT hS k, id]
      grind
  exact e _ fun k hk => List.mem_range.1 hk
end

/-- What an audit tells of an agent, in all. -/
def accQ (a : Nat) (l : List Li) : Rat := sumQ ((l.filter fun x => x.agent = (a : Int)).map Li.gain)
theorem accQ_append (a : Nat) (l m : List Li) : accQ a (l ++ m) = accQ a l + accQ a m := by
  unfold accQ; rw [List.filter_append, List.map_append, sumQ_append]
theorem accQ_snoc (a : Nat) (l : List Li) (x : Li) : accQ a (l ++ [x]) = if x.agent = (a : Int) then accQ a l + x.gain else accQ a l := by
  rw [accQ_append]
  unfold accQ
  by_cases c : x.agent = (a : Int) <;> simp [c, sumQ, Rat.add_zero]
theorem bestAK_agent {g : Gm} {r : List Ce} {log : List Sn} (h : Play g r) (hl : LogOk g log) {a : Nat} (ha : a < g.agents.length) (k : Nat) : (bestAK g r log a k).agent = (a : Int) := by
  rw [← bstTo_best h hl ha]; exact (bstTo_form (g := g) (r := r) log a k _).1
theorem acc_auditTo {g : Gm} {r : List Ce} {log : List Sn} (h : Play g r) (hl : LogOk g log) (a : Nat) : ∀ n, n ≤ g.agents.length → accQ a (auditTo g r log n) = if a < n then sumQ ((List.range (kl g a)).map fun k => (bestAK g r log a k).gain) else 0
  | 0, _ => by rw [if_neg (by omega)]; rfl
  | n + 1, hn => by
    rw [auditTo_succ, accQ_append, acc_auditTo h hl a n (by omega)]
    have hag : ∀ x ∈ auditA g r log n, x.agent = (n : Int) := fun x hx => by
      unfold auditA at hx
      obtain ⟨k, hk, rfl⟩ := List.mem_map.1 hx
      exact bestAK_agent h hl (by omega) k
    by_cases c : n = a
    · subst c
      rw [if_neg (by omega), if_pos (by omega), Rat.zero_add]
      unfold accQ
      rw [List.filter_eq_self.2 fun x hx => by simp [hag x hx]]
      unfold auditA
      rw [List.map_map]; rfl
    · have e : accQ a (auditA g r log n) = 0 := by
        unfold accQ
        rw [List.filter_eq_nil_iff.2 fun x hx => by simp [hag x hx, c]]; rfl
      rw [e, Rat.add_zero]
      by_cases c2 : a < n
      · rw [if_pos c2, if_pos (by omega)]
      · rw [if_neg c2, if_neg (by omega)]
theorem mem_audit {g : Gm} {r : List Ce} {log : List Sn} {x : Li} (hx : x ∈ auditL g r log) : ∃ a k, a < g.agents.length ∧ k < kl g a ∧ x = bestAK g r log a k := by
  unfold auditL auditTo at hx
  obtain ⟨a, ha, hx⟩ := List.mem_flatMap.1 hx
  unfold auditA at hx
  obtain ⟨k, hk, rfl⟩ := List.mem_map.1 hx
  exact ⟨a, k, List.mem_range.1 ha, List.mem_range.1 hk, rfl⟩

section
variable {g : Gm} {r : List Ce} {a : Nat} (h : Sit g r a) {S : List (List Int)} (hS : ∀ p ∈ S, isProf g p) (h60 : S.length ≤ 60)
include h hS h60
theorem Sit.auditLen : (auditL g r (ones S)).length ≤ 16 := by
  have h1 := auditK_len h.play (ones S) (a := g.agents.length) (k := 0) (Nat.le_refl _) (by omega)
  rw [auditK_zero] at h1
  have := (sizeOk_all h.play.fine.sz).1
  unfold auditL; omega
theorem Sit.gain_over {x : Li} (hx : x ∈ auditL g r (ones S)) (he : x.agent = (a : Int)) : Over (UD g r) (W ^ 12) x.gain := by
  obtain ⟨b, k, h1, h2, rfl⟩ := mem_audit hx
  rw [bestAK_agent h.play (ones_ok h hS) h1] at he
  obtain rfl : b = a := by omega
  rw [h.audit (by omega) hS h2]
  have hl : (keepK b k S).length ≤ 1024 := by have := keepK_le b k S; omega
  exact h.sub (h.bring_over hl (fun p hp => hS p (keepK_mem hp)) h2 (ans_is (bringQ g r b k (keepK b k S)) h2).lt) (h.bring_over hl (fun p hp => hS p (keepK_mem hp)) h2 h2)
theorem Sit.acc_over (i : Nat) : Over (UD g r) (W ^ 13) (accQ a ((auditL g r (ones S)).take i)) :=
  Over.many (i := 12) (UD_ne g r) (by
    have h1 := h.auditLen hS h60
    have h2 := List.length_filter_le (fun x : Li => decide (x.agent = (a : Int))) ((auditL g r (ones S)).take i)
    rw [List.length_take] at h2
    rw [List.length_map]; omega) rfl fun q hq => by
      obtain ⟨x, hx, rfl⟩ := List.mem_map.1 hq
      obtain ⟨h1, h2⟩ := List.mem_filter.1 hx
      exact h.gain_over hS h60 (mem_take h1) (by simpa using h2)
end
end Go.Proofs.YtglhjjokijdagaaGreat.Sh

/- Audits: the walk of the reference. -/
namespace Go.Proofs.YtglhjjokijdagaaGreat.Sh
open Go Go.RowKit

theorem notLog {g : Gm} {log : List Sn} {i : Nat} (h : i < log.length) (hn : ¬ (isProf g log[i].prof ∧ 0 ≤ log[i].count)) : ¬ LogOk g log := fun hh => hn (hh _ (List.getElem_mem h))

end Go.Proofs.YtglhjjokijdagaaGreat.Sh

/- Audits: the program. -/
namespace Go.Proofs.YtglhjjokijdagaaGreat.Sh
open Go Go.RowKit

theorem fmake1 (p : Int) (h0 : -9223372036854775808 ≤ p) (h1 : p < 9223372036854775808) : CallsS Tryz.prog 96 [.one (.int .i64 p), .one (.int .i64 1)] (.tup [fS (p : Rat), .one (.int .i64 0)]) := by
  have h := fmake_s p 1 h0 h1 (by decide) (by decide) (by decide)
  rw [show (p : Rat) / ((1 : Int) : Rat) = (p : Rat) by rw [show ((1 : Int) : Rat) = 1 from rfl, Rat.div_def, show (1 : Rat)⁻¹ = 1 by decide +kernel, Rat.mul_one]] at h
  exact h

set_option maxRecDepth 20000 in
set_option maxHeartbeats 1000000 in
theorem rtotal_s (g : Gm) (r : List Ce) (h : Play g r) (log : List Sn) (hlf : LogFine log) (hlo : LogOk g log) (a k told : Nat) (ha : a < g.agents.length) (hk : k < g.agents[a].kinds.length) (ht : told < g.agents[a].kinds.length) :
    CallsS Tryz.prog 67 [tbS g r, .one (snsS log), .one (.int .i64 (a : Int)), .one (.int .i64 (k : Int)), .one (.int .i64 (told : Int))] (.v (fS (totA g r log a k told))) := by
  have hf := h.fine
  have hll := hlf.len
  refine calls Tryz.func67 rfl (by rfl) (by rfl) (by kernel_rfl) ?_
  simp -dsimp -implicitDefEqProofs [Tryz.f67]
  refine eCall.of rzero_s (by simp) ?_
  simp -dsimp -implicitDefEqProofs
  refine sw_loop_e (fun p : {p : Nat × Nat // p.1 ≤ log.length} => SS.of [(2, I .i64 a), (3, I .i64 k), (4, I .i64 told), (5, .v (.one (.mp 0 0))), (10, .v (.one (.mp 1 0))), (11, .v (.one (.mp 2 0))), (19, .v (.one (snsS log))), (20, I .i64 log.length), (21, I .i64 p.1.1)] [(0, ⟨94, rowTb g r⟩), (1, ⟨40, [.bool false, .nils, .nils]⟩), (2, ⟨40, rowFr (frQ (totN g r log a k told p.1.1))⟩)] (p.1.2 + 3))
    (fun p => log.length - p.1.1) ⟨(0, 0), Nat.zero_le _⟩ (by kernel_rfl) (Le.to (by simp) (by simp [totN, frQ, ng]) (by simp)) ?_
  rintro ⟨⟨i, c⟩, hi⟩
  simp only at hi
  by_cases a1 : i < log.length
  · have wi : IntKind.i64.wrap ((i : Int) + 1) = ((i + 1 : Nat) : Int) := by rw [wrap_i64 _ (by omega) (by omega)]; rfl
    have hst := totN_step (g := g) (r := r) (a := a) (k := k) (told := told) a1
    obtain ⟨hp, hc⟩ := hlo _ (List.getElem_mem a1)
    obtain ⟨o1, o2, o3⟩ := hlf.ok _ (List.getElem_mem a1)
    obtain ⟨n, w1, w2, w3⟩ := whr_lt h hp
    have hsp : Spot g r a n := ⟨h, ha, w2⟩
    obtain ⟨k1, k2⟩ := hsp.kof
    rw [w3] at k1
    have al : a < log[i].prof.length := by rw [hp.1]; exact ha
    have k1' : (log[i].prof)[a] = (kOf g n a : Int) := by rw [List.getElem?_eq_getElem al] at k1; exact Option.some.inj k1
    unfold addT at hst
    rw [k1, w1, Int.toNat_natCast] at hst
    by_cases cc : kOf g n a = k
    · have hgm := hsp.gain_mz ht
      obtain ⟨gc, gz⟩ := cap_mz (show mz (gainQ g r a n told) ≤ 2048 by omega)
      obtain ⟨t1, t2⟩ := hsp.toAt ht
      have hP := hsp.pair w2 k2
      have hP2 := hsp.pair t2 k2
      have hz := (cap_mz (show mz (hasQ r[n] g.agents[a].kinds[kOf g n a] a) ≤ 2048 by have := hP.has; omega)).2
      have hz2 := (cap_mz (show mz (hasQ r[toAt g n a told] g.agents[a].kinds[kOf g n a] a) ≤ 2048 by have := hP2.has; omega)).2
      have hsb := fsub_s (frQ (hasQ r[toAt g n a told] g.agents[a].kinds[kOf g n a] a)) (frQ (hasQ r[n] g.agents[a].kinds[kOf g n a] a)) (frQ_ok (by omega)) (frQ_ok (by omega))
      rw [fix_frQ hz2, fix_frQ hz, show hasQ r[toAt g n a told] g.agents[a].kinds[kOf g n a] a - hasQ r[n] g.agents[a].kinds[kOf g n a] a = gainQ g r a n told by unfold gainQ; rw [ceAt_eq t2, ceAt_eq w2, kdAt_eq ha k2], gc] at hsb
      have hid := sidx_s g r h.seen log[i].prof (by have := hlf.pl _ (List.getElem_mem a1); omega) (n : Int) (.inl ⟨⟨h.good.1, h.good.2.1⟩, hp, w1.symm⟩)
      have haf := after_s g r a n told hsp ht
      have hh1 := rhas_s g r r[n] a (kOf g n a) ha k2 hP
      have hh2 := rhas_s g r r[toAt g n a told] a (kOf g n a) ha k2 hP2
      subst cc
      rw [if_pos rfl] at hst
      have cz := sz_int log[i].count o3.1 o3.2
      have hmu := fmul_s (frQ (log[i].count : Rat)) (frQ (gainQ g r a n told)) (frQ_ok (by omega)) (frQ_ok (by omega))
      rw [fix_frQ (show sz (log[i].count : Rat) ≤ 4096 by omega), fix_frQ gz] at hmu
      have tz := totN_sz g r log a (kOf g n a) told i
      have pz := sz_cap ((log[i].count : Rat) * gainQ g r a n told)
      have had := fadd_s (frQ (totN g r log a (kOf g n a) told i)) (frQ (cap ((log[i].count : Rat) * gainQ g r a n told))) (frQ_ok (by omega)) (frQ_ok (by omega))
      rw [fix_frQ tz, fix_frQ pz, ← hst] at had
      simp -dsimp -implicitDefEqProofs [a1, al, k1']
      refine eCall.of hid (by simp) ?_
      simp -dsimp -implicitDefEqProofs [w2]
      refine eCall.of haf (by simp [w3]) ?_
      simp -dsimp -implicitDefEqProofs
      refine eCall.of hh2 (by simp) ?_
      simp -dsimp -implicitDefEqProofs
      refine eCall.of hh1 (by simp) ?_
      simp -dsimp -implicitDefEqProofs
      refine eCall.of hsb (by simp [frQ, ng]) ?_
      simp -dsimp -implicitDefEqProofs
      refine eCall.of (fmake1 log[i].count o3.1 o3.2) (by simp) ?_
      simp -dsimp -implicitDefEqProofs
      refine eCall.of hmu (by simp [frQ, ng]; try rfl) ?_
      simp -dsimp -implicitDefEqProofs
      refine eCall.of had (by simp [frQ, ng]) ?_
      simp -dsimp -implicitDefEqProofs
      exact Again.by ⟨(i + 1, c + 4), a1⟩ (Le.to (by simp [wi]) (by simp [frQ, ng]) (by simp)) (by simp; omega)
    · have c' : ¬ (kOf g n a : Int) = (k : Int) := by omega
      rw [if_neg (fun e => c' (Option.some.inj e))] at hst
      simp -dsimp -implicitDefEqProofs [a1, al, k1', cc, c']
      exact Again.by ⟨(i + 1, c + 1), a1⟩ (Le.to (by simp [wi]) (by simp [hst]) (by simp)) (by simp; omega)
  have hi2 : i = log.length := by omega
  subst hi2
  simp -dsimp -implicitDefEqProofs [totA, totN, frQ, ng]
  try rfl

set_option maxRecDepth 20000 in
theorem audit2_s (x y : Li) (hx : x.ok) (hy : y.ok) : CallsS Tryz.prog 69 [liS x, liS y] (B (gtL x y)) := by
  have x2 := hx.2
  have y2 := hy.2
  have hc := fcmp_s (frQ x.gain) (frQ y.gain) (frQ_ok (by omega)) (frQ_ok (by omega))
  rw [fix_frQ x2, fix_frQ y2] at hc
  unfold gtL
  refine calls Tryz.func69 rfl (by rfl) (by rfl) (by kernel_rfl) ?_
  simp -dsimp -implicitDefEqProofs [Tryz.f69]
  refine eCall.of hc (by simp [frQ, ng]) ?_
  by_cases c : y.gain < x.gain
  · simp -dsimp -implicitDefEqProofs [cmpQ_pos.2 c, c]
  · simp -dsimp -implicitDefEqProofs [mt cmpQ_pos.1 c, c]

theorem othersA_pre (g : Gm) (r : List Ce) (log : List Sn) (a k : Nat) {p N : Nat} (h : p ≤ N) : othersA g r log a k p <+: othersA g r log a k N := by
  unfold othersA
  obtain ⟨d, rfl⟩ : ∃ d, N = p + d := ⟨N - p, by omega⟩
  rw [List.range_add, List.filter_append, List.map_append]
  exact List.prefix_append _ _

set_option maxRecDepth 20000 in
set_option maxHeartbeats 1000000 in
theorem audit1_it (g : Gm) (r : List Ce) (h : Play g r) (log : List Sn) (hlf : LogFine log) (hlo : LogOk g log) (a k : Nat) (ha : a < g.agents.length) (hk : k < g.agents[a].kinds.length) :
    IterS Tryz.prog 66 [.rp true (rowGm g), .rp true [.int .i64 (a : Int)], .rp true [.int .i64 (k : Int)], .rp true (rowTb g r), .rp true [snsS log]] (itemsL (othersA g r log a k (kl g a))) := by
  have hk4 := (sizeOk_all h.fine.sz).2.2.2.1 _ (List.getElem_mem ha)
  have hkl := kl_eq ha
  refine iterS2 Tryz.func66 rfl (by rfl) (by kernel_rfl) (by rfl) (by kernel_rfl) ?_
  intro v J S base hy hJ0
  simp -dsimp -implicitDefEqProofs [Tryz.f66, ha]
  have hpw : ∀ p, p ≤ kl g a → itemsL (othersA g r log a k p) <+: itemsL (othersA g r log a k (kl g a)) := fun p hp => by
    obtain ⟨t, ht⟩ := othersA_pre g r log a k hp
    exact ⟨itemsL t, by rw [← ht]; simp [itemsL]⟩
  refine sw_loop_e (fun p : {p : Nat // p ≤ kl g a} => (SS.of [(0, .v (.one (.val v))), (2, .v (.one (.rp true [.int .i64 (a : Int)]))), (3, .v (.one (.rp true [.int .i64 (k : Int)]))), (4, .v (.one (.rp true (rowTb g r)))), (5, .v (.one (.rp true [snsS log]))), (14, I .i64 (kl g a)), (15, I .i64 p.1)] [] 0).wx ⟨[], J (itemsL (othersA g r log a k p.1)), base⟩)
    (fun p => kl g a - p.1) ⟨0, Nat.zero_le _⟩ (by kernel_rfl) (Le.toX (by simp [hkl]) (by simp) (by simp) (by simp [othersA, itemsL])) ?_
  rintro ⟨t, ht⟩
  by_cases a3 : t < g.agents[a].kinds.length
  · have wt : IntKind.i64.wrap ((t : Int) + 1) = ((t + 1 : Nat) : Int) := by rw [wrap_i64 _ (by omega) (by omega)]; rfl
    by_cases c1 : t = k
    · subst c1
      have ho := othersA_own (g := g) (r := r) (log := log) (a := a) (k := t)
      simp -dsimp -implicitDefEqProofs [hkl, a3]
      exact Again.by ⟨t + 1, by omega⟩ (Le.toX (by simp [wt, hkl]) (by simp) (by simp) (by simp [ho])) (by simp; omega)
    · have c1' : ¬ (t : Int) = (k : Int) := by omega
      have hyi := hy (itemsL (othersA g r log a k t)) [liS (tlA g r log a k t)] (by
        have := hpw (t + 1) (by omega)
        rw [othersA_step c1] at this
        simpa [itemsL] using this)
      have hnx : itemsL (othersA g r log a k t) ++ [[liS (tlA g r log a k t)]] = itemsL (othersA g r log a k (t + 1)) := by rw [othersA_step c1]; simp [itemsL]
      rw [hnx] at hyi
      simp -dsimp -implicitDefEqProofs [hkl, a3, c1, c1']
      refine eCall.of (rtotal_s g r h log hlf hlo a k t ha hk a3) (by simp) ?_
      simp -dsimp -implicitDefEqProofs
      refine ⟨.inr (by kernel_rfl), ?_⟩
      refine spec_yield (v := v) (args := [liS (tlA g r log a k t)]) (C1 := J (itemsL (othersA g r log a k (t + 1)))) (C2 := S) (by simp) (by simpa using hyi) (by simp [tlA, frQ, ng]) ?_ ?_
      · simp -dsimp -implicitDefEqProofs
        exact Again.by ⟨t + 1, by omega⟩ (Le.toX (by simp [wt, hkl]) (by simp) (by simp) (by simp)) (by simp; omega)
      · simp -dsimp -implicitDefEqProofs
  have ht2 : t = kl g a := by omega
  subst ht2
  simp -dsimp -implicitDefEqProofs [hkl]
end Go.Proofs.YtglhjjokijdagaaGreat.Sh

/- Audits: the program's walk, and that of RuleAudit. -/
namespace Go.Proofs.YtglhjjokijdagaaGreat.Sh
open Go Go.RowKit

set_option maxRecDepth 20000 in
set_option maxHeartbeats 4000000 in
theorem raudit_s (g : Gm) (r : List Ce) (hs : Seen g r) (hfar : far g = false) (log : List Sn) (hlf : LogFine log) (l : List Li) (e : Int) (hr : isAud g r log l e) : CallsS Tryz.prog 25 [gmS g, ruS r, .one (snsS log)] (.tup [.one (lisS l), .one (.int .i64 e)]) := by
  have hll := hlf.len
  refine calls Tryz.func25 rfl (by rfl) (by rfl) (by kernel_rfl) ?_
  simp -dsimp -implicitDefEqProofs [Tryz.f25]
  by_cases hgd : Good g r
  case neg =>
    refine eCall.of (openNo_s g r hs hgd) (by simp) ?_
    simp -dsimp -implicitDefEqProofs
    rcases hr with ⟨-, h1, rfl⟩ | ⟨h1, -⟩ | ⟨h1, -⟩
    · refine eCall.of (rright_s g r hs e h1) (by simp) ?_
      simp -dsimp -implicitDefEqProofs
    · exact absurd h1 hgd
    · exact absurd h1 hgd
  refine eCall.of (open_s g r hs hgd) (by simp) ?_
  have h : Play g r := ⟨hs, hfar, hgd⟩
  have hf := h.fine
  obtain ⟨q1, -, -, q4, q5⟩ := sizeOk_all hf.sz
  have hbad : ¬ LogOk g log → l = [] ∧ e = 3 := fun hn => by
    rcases hr with ⟨h1, -⟩ | ⟨-, -, h2, h3⟩ | ⟨-, h2, -⟩
    · exact absurd hgd h1
    · exact ⟨h2, h3⟩
    · exact absurd h2 hn
  have hgood : LogOk g log → l = auditL g r log ∧ e = 0 := fun hn => by
    rcases hr with ⟨h1, -⟩ | ⟨-, h2, -⟩ | ⟨-, -, h2, h3⟩
    · exact absurd hgd h1
    · exact absurd hn h2
    · exact ⟨h2, h3⟩
  simp -dsimp -implicitDefEqProofs
  refine sw_loop_e (fun p : {p : Nat × Nat // p.1 ≤ log.length ∧ ∀ s ∈ log.take p.1, isProf g s.prof ∧ 0 ≤ s.count} => SS.of [(3, .v (.one (.mp 0 0))), (5, .v (.one (.mp 2 0))), (8, .v (.one (.mp 3 0))), (29, .v (.one (snsS log))), (30, I .i64 log.length), (31, I .i64 p.1.1)] [(0, ⟨26, rowGm g⟩), (2, ⟨67, [snsS log]⟩), (3, ⟨94, rowTb g r⟩)] (p.1.2 + 4))
    (fun p => log.length - p.1.1) ⟨(0, 0), Nat.zero_le _, by simp⟩ (by kernel_rfl) (Le.to (by simp) (by simp) (by simp)) ?_
  rintro ⟨⟨i, n⟩, hi, hq⟩
  simp only at hi hq
  by_cases a1 : i < log.length
  · have wi : IntKind.i64.wrap ((i : Int) + 1) = ((i + 1 : Nat) : Int) := by rw [wrap_i64 _ (by omega) (by omega)]; rfl
    obtain ⟨ix, hix⟩ := isIdx2_of g log[i].prof
    have hid := sidx_s g r hs log[i].prof (by have := hlf.pl _ (List.getElem_mem a1); omega) ix hix
    by_cases hc : log[i].count < 0
    · obtain ⟨rfl, rfl⟩ := hbad (notLog a1 (fun hh => by omega))
      simp -dsimp -implicitDefEqProofs [hc, a1]
    simp -dsimp -implicitDefEqProofs [a1, hc]
    refine eCall.of hid (by simp) ?_
    by_cases hp : isProf g log[i].prof
    · have e1 : ix = whr g log[i].prof := by
        rcases hix with h | h
        · exact h.2.2
        · exact absurd ⟨⟨hgd.1, hgd.2.1⟩, hp⟩ h.1
      obtain ⟨m, w1, -, -⟩ := whr_lt h hp
      have e2 : ¬ ix < 0 := by omega
      simp -dsimp -implicitDefEqProofs [e2]
      refine Again.by ⟨(i + 1, n + 1), a1, fun s hs => ?_⟩ (Le.to (by simp [wi]) (by simp) (by simp)) (by simp; omega)
      simp only at hs
      rw [List.take_add_one, List.getElem?_eq_getElem a1] at hs
      rcases List.mem_append.1 hs with hs | hs
      · exact hq s hs
      · simp at hs; subst hs; exact ⟨hp, by omega⟩
    · have e1 : ix = -1 := by
        rcases hix with h | h
        · exact absurd h.2.1 hp
        · exact h.2
      subst e1
      obtain ⟨rfl, rfl⟩ := hbad (notLog a1 (fun hh => hp hh.1))
      simp -dsimp -implicitDefEqProofs
  have hi2 : i = log.length := by omega
  subst hi2
  rw [List.take_length] at hq
  have hlo : LogOk g log := hq
  obtain ⟨rfl, rfl⟩ := hgood hlo
  simp -dsimp -implicitDefEqProofs
  refine sw_loop_e (fun p : {p : Nat × Nat × Nat // p.1 ≤ g.agents.length ∧ p.2.1 < p.2.2} => SS.of [(3, .v (.one (.rp true (rowGm g)))), (5, .v (.one (.rp true [snsS log]))), (8, .v (.one (.rp true (rowTb g r)))), (12, if (auditTo g r log p.1.1).length = 0 then .v (.one .nils) else .v (.one (.ms p.1.2.1 0 (auditTo g r log p.1.1).length 7 true))), (48, I .i64 g.agents.length), (49, I .i64 p.1.1)]
      (if (auditTo g r log p.1.1).length = 0 then [] else [(p.1.2.1, ⟨45, flat rowLi (auditTo g r log p.1.1)⟩)]) p.1.2.2)
    (fun p => g.agents.length - p.1.1) ⟨(0, 0, n + 4), Nat.zero_le _, by simp⟩ (by kernel_rfl) (Le.fzF [0, 2, 3] (Le.to (by simp [auditTo]) (by simp [auditTo]) (by simp))) ?_
  rintro ⟨⟨a, o, m⟩, ha, hom⟩
  simp only at ha hom
  by_cases a1 : a < g.agents.length
  · have wa : IntKind.i64.wrap ((a : Int) + 1) = ((a + 1 : Nat) : Int) := by rw [wrap_i64 _ (by omega) (by omega)]; rfl
    have hk4 := q4 _ (List.getElem_mem a1)
    have hkl := kl_eq a1
    have y0 : ¬ m = o := by omega
    have y1 : ¬ o = m := by omega
    simp -dsimp -implicitDefEqProofs [a1]
    refine sw_loop_e (fun p : {p : Nat × Nat × Nat // p.1 ≤ g.agents[a].kinds.length ∧ p.2.1 < p.2.2} => SS.of [(3, .v (.one (.rp true (rowGm g)))), (5, .v (.one (.rp true [snsS log]))), (8, .v (.one (.rp true (rowTb g r)))), (12, if (auditK g r log a p.1.1).length = 0 then .v (.one .nils) else .v (.one (.ms p.1.2.1 0 (auditK g r log a p.1.1).length 7 true))), (13, .v (.one (.rp true [.int .i64 (a : Int)]))), (48, I .i64 g.agents.length), (49, I .i64 a), (58, I .i64 g.agents[a].kinds.length), (59, I .i64 p.1.1)]
        (if (auditK g r log a p.1.1).length = 0 then [] else [(p.1.2.1, ⟨45, flat rowLi (auditK g r log a p.1.1)⟩)]) p.1.2.2)
      (fun p => g.agents[a].kinds.length - p.1.1) ⟨(0, o, m + 1), Nat.zero_le _, by simp only; omega⟩ (by kernel_rfl) (by simp only [auditK_zero]; by_cases l0 : auditTo g r log a = [] <;> exact Le.fzF [m] (Le.to (by simp [l0, y0, y1]) (by simp [l0, y0, y1]) (by simp [l0, y0, y1]))) ?_
    rintro ⟨⟨k, o, m⟩, hk, hom⟩
    simp only at hk hom
    have hlen := auditK_len h log (k := k) (Nat.le_of_lt a1) (by omega)
    by_cases a2 : k < g.agents[a].kinds.length
    · have wk : IntKind.i64.wrap ((k : Int) + 1) = ((k + 1 : Nat) : Int) := by rw [wrap_i64 _ (by omega) (by omega)]; rfl
      have hstep := auditK_step g r log a k
      have hfl := flat_snoc (f := rowLi) (bestAK g r log a k) (auditK g r log a k)
      rw [← hstep] at hfl
      have hl1 : (auditK g r log a (k + 1)).length = (auditK g r log a k).length + 1 := by rw [hstep]; simp
      have hok : ∀ x ∈ othersA g r log a k (kl g a), x.ok := fun x hx => by
        obtain ⟨t, -, rfl⟩ := List.mem_map.1 hx
        exact ⟨by show lenOk []; unfold lenOk; decide, totA_sz g r log a k t⟩
      have hmo := mostL_s (othersA g r log a k (kl g a)) (audit1_it g r h log hlf hlo a k a1 a2) gtL (fun x hx y hy => audit2_s x y (hok x hx) (hok y hy))
      have hmm : ∀ y, (othersA g r log a k (kl g a)).foldl (mst gtL) none = some y → y ∈ othersA g r log a k (kl g a) := fun y hy => (mst_mem gtL _ _ hy).resolve_right (by simp)
      have hbk : bestAK g r log a k = orZ (noAK a k) ((othersA g r log a k (kl g a)).foldl (mst gtL) none) := rfl
      generalize hL : auditK g r log a k = L at *
      generalize hM : (othersA g r log a k (kl g a)).foldl (mst gtL) none = M at *
      have y0 : ¬ m = o := by omega
      have y1 : ¬ o = m := by omega
      have y2 : ¬ m + 1 = o := by omega
      have y3 : ¬ o = m + 1 := by omega
      have y4 : ¬ m + 2 = o := by omega
      have y5 : ¬ o = m + 2 := by omega
      have y6 : ¬ m + 3 = o := by omega
      have y7 : ¬ o = m + 3 := by omega
      by_cases l0 : L.length = 0
      · have hL0 : L = [] := List.length_eq_zero_iff.1 l0
        rw [hL0, flat_nil, List.nil_append] at hfl
        simp -dsimp -implicitDefEqProofs [a1, a2, l0, y0, y1, y2, y3, y4, y5, y6, y7]
        refine eCall.of hmo (by simp) ?_
        cases M with
        | none =>
          simp -dsimp -implicitDefEqProofs [l0, y0, y1, y2, y3, y4, y5, y6, y7]
          refine eCall.of rzero_s (by simp) ?_
          simp -dsimp -implicitDefEqProofs [slots, l0, y0, y1, y2, y3, y4, y5, y6, y7]
          try refine ⟨by omega, ?_⟩
          exact Again.by ⟨(k + 1, m + 3, m + 4), by omega, by simp⟩ (Le.to (by simp [wk, hl1, l0, y0, y1, y2, y3, y4, y5, y6, y7]) (by simp [hfl, hl1, l0, hbk, orZ, noAK, frQ, ng, y0, y1, y2, y3, y4, y5, y6, y7]) (by simp)) (by simp; omega)
        | some y =>
          have hyz := (hok y (hmm y rfl)).2
          have hsg := fsign_s (frQ y.gain) (frQ_ok (by omega))
          rw [fix_frQ hyz] at hsg
          simp -dsimp -implicitDefEqProofs [l0, y0, y1, y2, y3, y4, y5, y6, y7]
          refine eCall.of hsg (by simp [frQ, ng]) ?_
          by_cases c1 : 0 < y.gain
          · rw [orZ, if_pos c1] at hbk
            have c2 : ¬ sgnQ y.gain ≤ 0 := Int.not_le.2 (sgnQ_pos.2 c1)
            simp -dsimp -implicitDefEqProofs [c2, slots, l0, y0, y1, y2, y3, y4, y5, y6, y7]
            try refine ⟨by omega, ?_⟩
            exact Again.by ⟨(k + 1, m + 3, m + 4), by omega, by simp⟩ (Le.to (by simp [wk, hl1, l0, y0, y1, y2, y3, y4, y5, y6, y7]) (by simp [hfl, hl1, l0, hbk, frQ, ng, y0, y1, y2, y3, y4, y5, y6, y7]) (by simp)) (by simp; omega)
          · rw [orZ, if_neg c1] at hbk
            have c2 : sgnQ y.gain ≤ 0 := Int.not_lt.1 (mt sgnQ_pos.1 c1)
            simp -dsimp -implicitDefEqProofs [c2, l0, y0, y1, y2, y3, y4, y5, y6, y7]
            refine eCall.of rzero_s (by simp) ?_
            simp -dsimp -implicitDefEqProofs [slots, l0, y0, y1, y2, y3, y4, y5, y6, y7]
            try refine ⟨by omega, ?_⟩
            exact Again.by ⟨(k + 1, m + 3, m + 4), by omega, by simp⟩ (Le.to (by simp [wk, hl1, l0, y0, y1, y2, y3, y4, y5, y6, y7]) (by simp [hfl, hl1, l0, hbk, noAK, frQ, ng, y0, y1, y2, y3, y4, y5, y6, y7]) (by simp)) (by simp; omega)
      · skip
        simp -dsimp -implicitDefEqProofs [a1, a2, l0, y0, y1, y2, y3, y4, y5, y6, y7]
        refine eCall.of hmo (by simp) ?_
        cases M with
        | none =>
          simp -dsimp -implicitDefEqProofs [l0, y0, y1, y2, y3, y4, y5, y6, y7]
          refine eCall.of rzero_s (by simp) ?_
          simp -dsimp -implicitDefEqProofs [slots, l0, y0, y1, y2, y3, y4, y5, y6, y7]
          try refine ⟨by omega, ?_⟩
          exact Again.by ⟨(k + 1, m + 3, m + 4), by omega, by simp⟩ (Le.to (by simp [wk, hl1, l0, y0, y1, y2, y3, y4, y5, y6, y7]) (by simp [hfl, hl1, l0, hbk, orZ, noAK, frQ, ng, y0, y1, y2, y3, y4, y5, y6, y7]) (by simp)) (by simp; omega)
        | some y =>
          have hyz := (hok y (hmm y rfl)).2
          have hsg := fsign_s (frQ y.gain) (frQ_ok (by omega))
          rw [fix_frQ hyz] at hsg
          simp -dsimp -implicitDefEqProofs [l0, y0, y1, y2, y3, y4, y5, y6, y7]
          refine eCall.of hsg (by simp [frQ, ng]) ?_
          by_cases c1 : 0 < y.gain
          · rw [orZ, if_pos c1] at hbk
            have c2 : ¬ sgnQ y.gain ≤ 0 := Int.not_le.2 (sgnQ_pos.2 c1)
            simp -dsimp -implicitDefEqProofs [c2, slots, l0, y0, y1, y2, y3, y4, y5, y6, y7]
            try refine ⟨by omega, ?_⟩
            exact Again.by ⟨(k + 1, m + 3, m + 4), by omega, by simp⟩ (Le.to (by simp [wk, hl1, l0, y0, y1, y2, y3, y4, y5, y6, y7]) (by simp [hfl, hl1, l0, hbk, frQ, ng, y0, y1, y2, y3, y4, y5, y6, y7]) (by simp)) (by simp; omega)
          · rw [orZ, if_neg c1] at hbk
            have c2 : sgnQ y.gain ≤ 0 := Int.not_lt.1 (mt sgnQ_pos.1 c1)
            simp -dsimp -implicitDefEqProofs [c2, l0, y0, y1, y2, y3, y4, y5, y6, y7]
            refine eCall.of rzero_s (by simp) ?_
            simp -dsimp -implicitDefEqProofs [slots, l0, y0, y1, y2, y3, y4, y5, y6, y7]
            try refine ⟨by omega, ?_⟩
            exact Again.by ⟨(k + 1, m + 3, m + 4), by omega, by simp⟩ (Le.to (by simp [wk, hl1, l0, y0, y1, y2, y3, y4, y5, y6, y7]) (by simp [hfl, hl1, l0, hbk, noAK, frQ, ng, y0, y1, y2, y3, y4, y5, y6, y7]) (by simp)) (by simp; omega)
    have hk2 : k = kl g a := by omega
    subst hk2
    rw [auditK_all g r log a]
    simp -dsimp -implicitDefEqProofs [a1, hkl]
    exact Again.by ⟨(a + 1, o, m), a1, hom⟩ (Le.to (by simp [wa, st_self]) (by split <;> simp [*]) (by simp)) (by simp; omega)
  have ha2 : a = g.agents.length := by omega
  subst ha2
  by_cases l0 : (auditTo g r log g.agents.length).length = 0
  · have hL0 : auditL g r log = [] := List.length_eq_zero_iff.1 l0
    simp -dsimp -implicitDefEqProofs [l0, hL0]
  · simp -dsimp -implicitDefEqProofs [l0, auditL]

theorem audit_ok {g : Gm} {r : List Ce} (log : List Sn) : ∀ l ∈ auditL g r log, l.ok := by
  intro l hl
  obtain ⟨a, -, hl⟩ := List.mem_flatMap.1 hl
  obtain ⟨k, -, rfl⟩ := List.mem_map.1 hl
  exact (bestAK_ok log a k).1
theorem isAud_of (g : Gm) (r : List Ce) (log : List Sn) : ∃ l e, isAud g r log l e := by
  by_cases h : Good g r
  · by_cases h2 : LogOk g log
    · exact ⟨_, _, .inr (.inr ⟨h, h2, rfl, rfl⟩)⟩
    · exact ⟨_, _, .inr (.inl ⟨h, h2, rfl, rfl⟩)⟩
  · obtain ⟨e, he, -⟩ := isGood_of g r
    exact ⟨_, _, .inl ⟨h, he, rfl⟩⟩

end Go.Proofs.YtglhjjokijdagaaGreat.Sh

/- The law of CrowdAudit. -/
namespace Go.Proofs.YtglhjjokijdagaaGreat.Sh
open Go Go.RowKit

instance : RowF 2 rowSn := ⟨fun _ => rfl, fun x s h => by simp at h; rcases h with rfl | rfl <;> rfl⟩
theorem ones_len (l : List (List Int)) : (ones l).length = l.length := by simp [ones]
theorem ones_take (l : List (List Int)) (i : Nat) : (ones l).take i = ones (l.take i) := by unfold ones; rw [List.map_take]
theorem ones_fine {S : List (List Int)} (h1 : S.length ≤ 100) (h2 : ∀ p ∈ S, p.length ≤ 100) (h3 : ∀ p ∈ S, InI p) : LogFine (ones S) := by
  refine ⟨fun s hs => ?_, by rw [ones_len]; omega, fun s hs => ?_⟩
  · obtain ⟨p, hp, rfl⟩ := List.mem_map.1 hs
    have := h2 p hp
    exact ⟨by show lenOk p; unfold lenOk; omega, h3 p hp, by show In64 1; unfold In64; decide⟩
  · obtain ⟨p, hp, rfl⟩ := List.mem_map.1 hs
    exact h2 p hp

theorem idx2_neg {g : Gm} {p : List Int} {e : Int} (hg : sizeOk g = true ∧ RightOk g) (he : isIdx2 g p e) : e < 0 ↔ ¬ isProf g p := by
  rcases he with ⟨-, h1, h2⟩ | ⟨h1, h2⟩
  · exact idx_neg (.inl ⟨h1, h2⟩)
  · exact idx_neg (.inr ⟨fun hh => h1 ⟨hg, hh⟩, h2⟩)

set_option maxRecDepth 20000 in
set_option maxHeartbeats 4000000 in
theorem lawCAudit_s (g : Gm) (r : List Ce) (T S : List (List Int)) (a : Int) (hg : g.ok) (hl : lenOk r) (hr : ∀ c ∈ r, c.ok) (hT : T.length ≤ 140737488355328) (hS : S.length ≤ 140737488355328) (hpT : ∀ p ∈ T, p.length ≤ 140737488355328) (hpS : ∀ p ∈ S, p.length ≤ 140737488355328 ∧ InI p) :
    CallsS Tryz.prog 5 [gmS g, ruS r, .agg [profsS T, profsS S, .int .i64 a]] (B true) := by
  have hbe := bey14_s g r hg hl hr
  refine calls Tryz.func5 rfl (by rfl) (by rfl) (by kernel_rfl) ?_
  simp -dsimp -implicitDefEqProofs [Tryz.f5]
  refine eCall.of hbe (by simp) ?_
  cases h1 : far g with
  | true => simp -dsimp -implicitDefEqProofs
  | false =>
  cases h2 : beyondRule r with
  | true => simp -dsimp -implicitDefEqProofs
  | false =>
  obtain ⟨b1, hb1⟩ := boolOf (WideL T)
  obtain ⟨b2, hb2⟩ := boolOf (WideL S)
  simp -dsimp -implicitDefEqProofs
  refine eCall.of (wide14_s T hT hpT b1 hb1) (by simp) ?_
  cases b1 with
  | true => simp -dsimp -implicitDefEqProofs
  | false =>
  simp -dsimp -implicitDefEqProofs
  refine eCall.of (wide14_s S hS (fun p hp => (hpS p hp).1) b2 hb2) (by simp) ?_
  cases b2 with
  | true => simp -dsimp -implicitDefEqProofs
  | false =>
  obtain ⟨w1, w2⟩ := WideL.no (fun hh => by have := hb1.2 hh; cases this)
  obtain ⟨w3, w4⟩ := WideL.no (fun hh => by have := hb2.2 hh; cases this)
  have hs := seen_of hg hr h1 h2
  have six := six_of hr h2
  have v2 : ∀ p ∈ T, p.length ≤ 1048576 := fun p hp => by have := w2 p hp; omega
  have v4 : ∀ p ∈ S, p.length ≤ 1048576 := fun p hp => by have := w4 p hp; omega
  obtain ⟨eg, hg1, hg2⟩ := isGood_of g r
  simp -dsimp -implicitDefEqProofs
  refine eCall.of (rightR4_s g r hs eg hg1) (by simp) ?_
  by_cases e0 : eg = 0
  case neg =>
    simp -dsimp -implicitDefEqProofs [e0]
    refine eCall.of fixed_s (by simp) ?_
    simp -dsimp -implicitDefEqProofs
  subst e0
  have hgd := hg2.1 rfl
  have hP : Play g r := ⟨hs, h1, hgd⟩
  by_cases c1 : a < 0
  · simp -dsimp -implicitDefEqProofs [c1]
    refine eCall.of fixed_s (by simp) ?_
    simp -dsimp -implicitDefEqProofs
  by_cases c2 : (g.agents.length : Int) ≤ a
  · simp -dsimp -implicitDefEqProofs [c1, c2]
    refine eCall.of fixed_s (by simp) ?_
    simp -dsimp -implicitDefEqProofs
  obtain ⟨A, rfl⟩ : ∃ A : Nat, a = A := ⟨a.toNat, by omega⟩
  have c2' : ¬ g.agents.length ≤ A := by omega
  have c1' := eq_false (show ¬ (A : Int) < 0 by omega)
  by_cases c3 : T.length = S.length
  case neg =>
    have c3' : ¬ (T.length : Int) = (S.length : Int) := by omega
    simp -dsimp -implicitDefEqProofs [c1', c2', c3, c3']
    refine eCall.of fixed_s (by simp) ?_
    simp -dsimp -implicitDefEqProofs
  have h : Sit g r A := ⟨hP, six, by omega⟩
  have hA := h.ha
  have hpl := putL_len (a := A) c3
  simp -dsimp -implicitDefEqProofs [c1', c2', c3]
  refine sw_cut (fun q : {c : Nat // (∀ p ∈ T, isProf g p) ∧ ∀ p ∈ S, isProf g p} => SS.of [(3, .v (.one (.mp 0 0))), (4, .v (.one (.mp 1 0))), (5, .v (.one (.mp 2 0))), (7, .v (.one (profsS (putL14 A T S)))), (8, .v (.one (snsS (ones S))))] [(0, ⟨26, rowGm g⟩), (1, ⟨29, [cesS r]⟩), (2, ⟨32, rowLog T S A⟩)] (q.1 + 7)) ?_ ?_
  · refine sw_loop_e (fun q : {q : Nat × Nat // q.1 ≤ S.length ∧ ∀ j (hj : j < q.1) (h1 : j < T.length) (h2 : j < S.length), isProf g T[j] ∧ isProf g S[j]} => SS.of [(3, .v (.one (.mp 0 0))), (4, .v (.one (.mp 1 0))), (5, .v (.one (.mp 2 0))), (7, if q.1.1 = 0 then .v (.one .nils) else .v (.one (.ms (q.1.2 + 4) 0 q.1.1 1 true))), (8, if q.1.1 = 0 then .v (.one .nils) else .v (.one (.ms (q.1.2 + 6) 0 q.1.1 2 true))), (9, I .i64 q.1.1)] ((0, ⟨26, rowGm g⟩) :: (1, ⟨29, [cesS r]⟩) :: (2, ⟨32, rowLog T S A⟩) :: if q.1.1 = 0 then [] else [(q.1.2 + 4, ⟨33, flat rowProf ((putL14 A T S).take q.1.1)⟩), (q.1.2 + 6, ⟨71, flat rowSn ((ones S).take q.1.1)⟩)]) (q.1.2 + 7))
      (fun q => S.length - q.1.1) ⟨(0, 0), Nat.zero_le _, fun j hj => absurd hj (by omega)⟩ (by kernel_rfl) (Le.to (by simp) (by simp) (by simp)) ?_
    rintro ⟨⟨i, c⟩, hi, hq⟩
    simp only at hi hq
    by_cases a1 : i < S.length
    · have wi : IntKind.i64.wrap ((i : Int) + 1) = ((i + 1 : Nat) : Int) := by rw [wrap_i64 _ (by omega) (by omega)]; rfl
      have a2 : i < T.length := by omega
      have a3 : i < (putL14 A T S).length := by omega
      have a4 : i < (ones S).length := by rw [ones_len]; omega
      obtain ⟨e1, he1⟩ := isIdx2_of g S[i]
      obtain ⟨e2, he2⟩ := isIdx2_of g T[i]
      have i1 := ridx_s g r hs S[i] (by have := v4 _ (List.getElem_mem a1); omega) e1 he1
      have i2 := ridx_s g r hs T[i] (by have := v2 _ (List.getElem_mem a2); omega) e2 he2
      have n1 := idx2_neg ⟨hgd.1, hgd.2.1⟩ he1
      have n2 := idx2_neg ⟨hgd.1, hgd.2.1⟩ he2
      simp -dsimp -implicitDefEqProofs [a1, a2, c3]
      refine eCall.of i1 (by simp) ?_
      by_cases d1 : e1 < 0
      · simp -dsimp -implicitDefEqProofs [d1]
        refine eCall.of fixed_s (by simp) ?_
        simp -dsimp -implicitDefEqProofs
      simp -dsimp -implicitDefEqProofs [d1, a2, a1, c3]
      refine eCall.of i2 (by simp) ?_
      by_cases d2 : e2 < 0
      · simp -dsimp -implicitDefEqProofs [d2]
        refine eCall.of fixed_s (by simp) ?_
        simp -dsimp -implicitDefEqProofs
      have p1 : isProf g S[i] := Classical.not_not.1 (mt n1.2 d1)
      have p2 : isProf g T[i] := Classical.not_not.1 (mt n2.2 d2)
      have l1 : A < S[i].length := by have := p1.1; omega
      have hpu := putR_s T[i] A S[i][A] (v2 _ (List.getElem_mem a2))
      have hge : (putL14 A T S)[i] = putP T[i] A S[i][A] := by
        rw [putL_get a2 a1 a3]; unfold putT; rw [List.getElem?_eq_getElem l1, Option.getD_some]
      have hgo : (ones S)[i] = ⟨S[i], 1⟩ := by simp [ones]
      have f1 := flat_snoc (f := rowProf) (putL14 A T S)[i] ((putL14 A T S).take i)
      rw [← takeSnoc _ _ a3, hge] at f1
      have f2 := flat_snoc (f := rowSn) (ones S)[i] ((ones S).take i)
      rw [← takeSnoc _ _ a4, hgo] at f2
      have hq' : ∀ j (hj : j < i + 1) (h1 : j < T.length) (h2 : j < S.length), isProf g T[j] ∧ isProf g S[j] := fun j hj h1 h2 => by
        by_cases e : j = i
        · subst e; exact ⟨p2, p1⟩
        · exact hq j (by omega) h1 h2
      have m1 : ((putL14 A T S).take i).length = i := by rw [List.length_take]; omega
      have m2 : ((ones S).take i).length = i := by rw [List.length_take, ones_len]; omega
      by_cases i0 : i = 0
      · have hif : ∀ {α : Type} (x y : α), (if i = 0 then x else y) = x := fun x y => if_pos i0
        rw [show (putL14 A T S).take i = [] by rw [i0]; rfl, flat_nil, List.nil_append] at f1
        rw [show (ones S).take i = [] by rw [i0]; rfl, flat_nil, List.nil_append] at f2
        simp -dsimp -implicitDefEqProofs [d2, a1, a2, c3, l1, hif]
        refine eCall.of hpu (by simp) ?_
        simp -dsimp -implicitDefEqProofs [hif, slots, a1, a2, c3]
        exact Again.by ⟨(i + 1, c + 4), a1, hq'⟩ (Le.to (by simp [wi, i0, i64_1]) (by simp [f1, f2]) (by simp)) (by simp; omega)
      · have hif : ∀ {α : Type} (x y : α), (if i = 0 then x else y) = y := fun x y => if_neg i0
        simp -dsimp -implicitDefEqProofs [d2, a1, a2, c3, l1, hif]
        refine eCall.of hpu (by simp) ?_
        simp -dsimp -implicitDefEqProofs [hif, slots, a1, a2, c3, m1, m2]
        refine ⟨⟨by omega, by omega⟩, ?_⟩
        refine ⟨⟨by omega, by omega⟩, ?_⟩
        exact Again.by ⟨(i + 1, c + 4), a1, hq'⟩ (Le.to (by simp [wi]) (by simp [f1, f2]) (by simp)) (by simp; omega)
    have hi2 : i = S.length := by omega
    subst hi2
    have t1 : (putL14 A T S).take S.length = putL14 A T S := List.take_of_length_le (by omega)
    have t2 : (ones S).take S.length = ones S := List.take_of_length_le (by rw [ones_len]; exact Nat.le_refl _)
    have hall : (∀ p ∈ T, isProf g p) ∧ ∀ p ∈ S, isProf g p := ⟨fun p hp => by
        obtain ⟨j, hj, rfl⟩ := List.getElem_of_mem hp
        exact (hq j (by omega) hj (by omega)).1, fun p hp => by
        obtain ⟨j, hj, rfl⟩ := List.getElem_of_mem hp
        exact (hq j hj (by omega) hj).2⟩
    have hol := ones_len S
    by_cases s0 : S.length = 0
    · have hS0 : S = [] := List.length_eq_zero_iff.1 s0
      have hP0 : putL14 A T S = [] := List.length_eq_zero_iff.1 (by rw [hpl, s0])
      simp -dsimp -implicitDefEqProofs [s0]
      exact Cut.by ⟨c, hall⟩ (Le.to (by simp [hS0, putL14, ones]) (by simp [s0]) (by simp))
    · have s0' : ¬ S = [] := fun hh => s0 (by rw [hh]; rfl)
      simp -dsimp -implicitDefEqProofs [s0, s0']
      exact Cut.by ⟨c, hall⟩ (Le.fzF [c + 4, c + 6] (Le.to (by simp [s0, s0', t1, t2, hpl, hol]) (by simp [s0, s0', t1, t2, hpl, hol]) (by simp [s0, s0', t1, t2, hpl, hol])))
  rintro ⟨c, hpT', hpS'⟩
  have hL4 := h.kle
  have hlf := ones_fine w3 w4 fun p hp => (hpS p hp).2
  have hok := ones_ok h hpS'
  have hau := raudit_s g r hs h1 (ones S) hlf (auditL g r (ones S)) 0 (.inr (.inr ⟨hgd, hok, rfl, rfl⟩))
  have vP : ∀ p ∈ putL14 A T S, p.length ≤ 1048576 := fun p hp => by
    have := (h.putL c3 hpT' hpS' p hp).1
    have := (sizeOk_all hP.fine.sz).1
    omega
  simp -dsimp -implicitDefEqProofs
  by_cases h60 : S.length ≤ 60
  case neg =>
    have g60 : (60 : Int) < ((putL14 A T S).length : Int) := by omega
    have g60' : 60 < (putL14 A T S).length := by omega
    have g60n : ¬ ((putL14 A T S).length : Int) ≤ 60 := by omega
    refine eCall.of (regretNo_s g r hs h1 (putL14 A T S) S (by omega) (by omega) vP v4 A 1 (.inr (.inl ⟨hgd, .inr (by omega), rfl⟩)) (by decide)) (by simp) ?_
    simp -dsimp -implicitDefEqProofs
    refine eCall.of hau (by simp) ?_
    simp -dsimp -implicitDefEqProofs [g60, g60', g60n]
    refine eCall.of fixed_s (by simp) ?_
    simp -dsimp -implicitDefEqProofs
  have hLP := h.logPut c3 hpT' hpS' h60
  have hsum := h.auditSum c3 hpT' hpS' h60
  have q2 := h.had_over hLP.p (by have := hLP.zl; omega)
  have q3 := h.by_over hLP.p (by have := hLP.zl; omega) (tabQ g r A ((putL14 A T S).zip S)) fun k hk => (h.tab hk).lt
  have z5 := h.sz (by omega) (h.sub q3 q2)
  have hre := regret_s h hLP
  have hacc := acc_auditTo hP hok A g.agents.length (Nat.le_refl _)
  rw [if_pos hA, hsum] at hacc
  obtain ⟨M, hM⟩ : ∃ M, M = byQ g r A (tabQ g r A ((putL14 A T S).zip S)) ((putL14 A T S).zip S) - hadQ g r A ((putL14 A T S).zip S) := ⟨_, rfl⟩
  rw [← hM] at hre z5 hacc
  have hsm := sameR_s (frQ M) (frQ M) (frQ_ok (by omega)) (frQ_ok (by omega))
  rw [decide_eq_true rfl] at hsm
  have i0 := intR_s 0 (by decide) (by decide)
  have g60 : ((putL14 A T S).length : Int) ≤ 60 := by omega
  have g60' : ¬ 60 < (putL14 A T S).length := by omega
  have g60n := eq_false (show ¬ (60 : Int) < ((putL14 A T S).length : Int) by omega)
  have hlen := h.auditLen hpS' h60
  refine eCall.of hre (by simp) ?_
  simp -dsimp -implicitDefEqProofs
  refine eCall.of hau (by simp) ?_
  simp -dsimp -implicitDefEqProofs [g60, g60', g60n]
  refine eCall.of i0 (by simp) ?_
  simp -dsimp -implicitDefEqProofs
  obtain ⟨AL, hAL⟩ : ∃ AL, AL = auditL g r (ones S) := ⟨_, rfl⟩
  rw [← hAL] at hlen ⊢
  have hacc : accQ A AL = M := by rw [hAL]; exact hacc
  refine sw_loop_e (fun q : {q : Nat // q ≤ AL.length} => SS.of [(5, .v (.one (.mp 2 0))), (11, .v (.one (.mp (c + 7) 0))), (12, I .i64 0), (13, .v (.one (lisS AL))), (14, I .i64 0), (15, .v (.one (.mp (c + 8) 0))), (16, I .i64 q.1)] [(2, ⟨32, rowLog T S A⟩), (c + 7, ⟨40, rowFr (frQ M)⟩), (c + 8, ⟨40, rowFr (frQ (accQ A (AL.take q.1)))⟩)] (c + 9))
    (fun q => AL.length - q.1) ⟨0, Nat.zero_le _⟩ (by kernel_rfl) (Le.to (by simp) (by simp [accQ, sumQ, frQ, ng]) (by simp)) ?_
  rintro ⟨i, hi⟩
  by_cases a1 : i < AL.length
  · have wi : IntKind.i64.wrap ((i : Int) + 1) = ((i + 1 : Nat) : Int) := by rw [wrap_i64 _ (by omega) (by omega)]; rfl
    have hst : accQ A (AL.take (i + 1)) = if AL[i].agent = (A : Int) then accQ A (AL.take i) + AL[i].gain else accQ A (AL.take i) := by
      rw [takeSnoc _ _ a1, accQ_snoc]
    by_cases c4 : AL[i].agent = (A : Int)
    · rw [if_pos c4] at hst
      have o1 : sz (accQ A (AL.take i)) ≤ 4096 := by rw [hAL]; exact h.sz (i := 13) (by omega) (h.acc_over hpS' h60 i)
      have o2 : sz AL[i].gain ≤ 4096 := h.sz (i := 12) (by omega) (h.gain_over hpS' h60 (by rw [← hAL]; exact List.getElem_mem a1) c4)
      have o3 : sz (accQ A (AL.take (i + 1))) ≤ 4096 := by rw [hAL]; exact h.sz (i := 13) (by omega) (h.acc_over hpS' h60 (i + 1))
      have had := addR_s (frQ (accQ A (AL.take i))) (frQ AL[i].gain) (frQ_ok (by omega)) (frQ_ok (by omega))
      rw [fix_frQ o1, fix_frQ o2, ← hst, cap_of o3] at had
      simp -dsimp -implicitDefEqProofs [a1, c4]
      refine eCall.of had (by simp [frQ, ng]) ?_
      simp -dsimp -implicitDefEqProofs
      exact Again.by ⟨i + 1, a1⟩ (Le.to (by simp [wi]) (by simp [frQ, ng]) (by simp)) (by simp; omega)
    · rw [if_neg c4] at hst
      simp -dsimp -implicitDefEqProofs [a1, c4]
      exact Again.by ⟨i + 1, a1⟩ (Le.to (by simp [wi]) (by simp [hst, frQ, ng]) (by simp)) (by simp; omega)
  have hi2 : i = AL.length := by omega
  subst hi2
  have htk : AL.take AL.length = AL := List.take_of_length_le (Nat.le_refl _)
  simp -dsimp -implicitDefEqProofs [htk, hacc]
  refine eCall.of hsm (by simp [frQ, ng, hacc]) ?_
  simp -dsimp -implicitDefEqProofs
  refine eCall.of fixed_s (by simp) ?_
  simp -dsimp -implicitDefEqProofs
end Go.Proofs.YtglhjjokijdagaaGreat.Sh

