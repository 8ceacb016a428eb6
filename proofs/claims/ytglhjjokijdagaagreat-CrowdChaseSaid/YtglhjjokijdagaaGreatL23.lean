/- A part of the proof: R24, R118, R126, R127, R128, R129 -/
import Derived.Test.YtglhjjokijdagaaGreatL22
set_option linter.unusedSimpArgs false
set_option linter.unusedVariables false
set_option linter.unusedSectionVars false
/- law14.fixed. -/
namespace Go.Proofs.YtglhjjokijdagaaGreat.Sh
open Go Go.RowKit

def fixG : List (List FR) := [[frQ 1, frQ (-1)], [frQ 0, frQ 1]]
theorem fix_out : outF 2 fixG 2 = [[frQ (1 / 2), frQ (1 / 2)], [frQ (3 / 4), frQ (1 / 4)]] := by
  have h0 : chanceW (wAt 2 fixG 0) = [1 / 2, 1 / 2] := by decide +kernel
  have h1 : chanceW (wAt 2 fixG 1) = [3 / 4, 1 / 4] := by decide +kernel
  show [(chanceW (wAt 2 fixG 0)).map frQ, (chanceW (wAt 2 fixG 1)).map frQ] = _
  rw [h0, h1]; rfl
theorem fix_win : win [3, 5, 5] = (1, 5) := by decide +kernel
theorem fix_ok {q : Rat} (h : mz q ≤ 1) : (frQ q).ok ∧ (frQ q).fix = q := ⟨ok_mz (by omega), fix_mz (by omega)⟩
theorem mzs : mz 3 = 1 ∧ mz 5 = 1 ∧ mz 0 = 1 ∧ mz 1 = 1 ∧ mz (-1) = 1 ∧ mz (3 / 4) = 1 := by decide +kernel
theorem three_four : (((3 : Int) : Rat) / ((4 : Int) : Rat)) = 3 / 4 := by decide +kernel

theorem fix_gains : isGains fixG 0 := by
  obtain ⟨m3, m5, m0, m1, mn, m34⟩ := mzs
  have f0 := (fix_ok (q := 0) (by omega)).2
  have f1 := (fix_ok (q := 1) (by omega)).2
  have fn := (fix_ok (q := -1) (by omega)).2
  have g0 : goodX (frQ 0) := by unfold goodX; rw [f0]; exact ⟨by decide, by decide⟩
  have g1 : goodX (frQ 1) := by unfold goodX; rw [f1]; exact ⟨by decide, by decide⟩
  have gn : goodX (frQ (-1)) := by unfold goodX; rw [fn]; exact ⟨by decide, by decide⟩
  refine Or.inr (Or.inr (Or.inr ⟨by decide, fun l hl => ?_, fun l hl => ?_, rfl⟩))
  · simp [fixG] at hl; rcases hl with rfl | rfl <;> simp
  · simp [fixG] at hl
    rcases hl with rfl | rfl
    · refine ⟨by simp, rfl, fun f hf => ?_⟩
      simp at hf; rcases hf with rfl | rfl
      · exact g1
      · exact gn
    · refine ⟨by simp, rfl, fun f hf => ?_⟩
      simp at hf; rcases hf with rfl | rfl
      · exact g0
      · exact g1

set_option maxRecDepth 20000 in
theorem fixed_s : CallsS Tryz.prog 12 [] (B true) := by
  obtain ⟨m3, m5, m0, m1, mn, m34⟩ := mzs
  have i3 := intR_s 3 (by decide) (by decide)
  have i5 := intR_s 5 (by decide) (by decide)
  have i1 := intR_s 1 (by decide) (by decide)
  have in1 := intR_s (-1) (by decide) (by decide)
  have i0 := intR_s 0 (by decide) (by decide)
  rw [show (((3 : Int) : Rat)) = 3 from rfl, ← frS_frQ] at i3
  rw [show (((5 : Int) : Rat)) = 5 from rfl, ← frS_frQ] at i5
  rw [show (((1 : Int) : Rat)) = 1 from rfl, ← frS_frQ] at i1
  rw [show (((-1 : Int) : Rat)) = -1 by decide +kernel, ← frS_frQ] at in1
  rw [show (((0 : Int) : Rat)) = 0 from rfl, ← frS_frQ] at i0
  have mk := makeR_s 3 4 (by decide) (by decide) (by decide) (by decide) (by decide)
  rw [three_four, ← frS_frQ] at mk
  obtain ⟨k3, f3⟩ := fix_ok (q := 3) (by omega)
  obtain ⟨k5, f5⟩ := fix_ok (q := 5) (by omega)
  obtain ⟨k1, f1⟩ := fix_ok (q := 1) (by omega)
  obtain ⟨kn, fn⟩ := fix_ok (q := -1) (by omega)
  obtain ⟨k0, f0⟩ := fix_ok (q := 0) (by omega)
  obtain ⟨k34, f34⟩ := fix_ok (q := 3 / 4) (by omega)
  have hs := secondC_s [frQ 3, frQ 5, frQ 5] (by intro f hf; simp at hf; rcases hf with rfl | rfl; exact k3; exact k5) (by decide)
  rw [show [frQ 3, frQ 5, frQ 5].map FR.fix = [3, 5, 5] by simp [f3, f5], fix_win, ← frS_frQ] at hs
  have hgo : ∀ l ∈ fixG, ∀ f ∈ l, f.ok ∧ mz f.fix ≤ 1 := by
    intro l hl f hf
    simp [fixG] at hl
    rcases hl with rfl | rfl <;> simp at hf <;> rcases hf with rfl | rfl
    · exact ⟨k1, by rw [f1]; omega⟩
    · exact ⟨kn, by rw [fn]; omega⟩
    · exact ⟨k0, by rw [f0]; omega⟩
    · exact ⟨k1, by rw [f1]; omega⟩
  have hw := weighC_s fixG (fun l hl f hf => (hgo l hl f hf).1) (by decide) (by intro l hl; simp [fixG] at hl; rcases hl with rfl | rfl <;> simp) (fun l hl f hf => (hgo l hl f hf).2) 0 fix_gains
  rw [if_pos ⟨rfl, by simp [fixG]⟩, show picks fixG = 2 from rfl, show fixG.length = 2 from rfl, fix_out] at hw
  have s1 := sameR_s (frQ 5) (frQ 5) k5 k5
  have s2 := sameR_s (frQ (3 / 4)) (frQ (3 / 4)) k34 k34
  rw [decide_eq_true rfl] at s1 s2
  unfold fixG at hw
  generalize frQ 3 = A3 at *
  generalize frQ 5 = A5 at *
  generalize frQ 1 = A1 at *
  generalize frQ (-1) = AN at *
  generalize frQ 0 = A0 at *
  generalize frQ (3 / 4) = A34 at *
  generalize frQ (1 / 2) = A12 at *
  generalize frQ (1 / 4) = A14 at *
  refine calls Tryz.func12 rfl (by rfl) (by rfl) (by kernel_rfl) ?_
  simp -dsimp -implicitDefEqProofs [Tryz.f12]
  refine eCall.of i3 (by simp) ?_
  simp -dsimp -implicitDefEqProofs
  refine eCall.of i5 (by simp) ?_
  simp -dsimp -implicitDefEqProofs
  refine eCall.of i5 (by simp) ?_
  simp -dsimp -implicitDefEqProofs [slots]
  refine eCall.of mk (by simp) ?_
  simp -dsimp -implicitDefEqProofs [slots, rowsOf, List.range, List.range.loop]
  refine eCall.of hs (by simp [rowsOf, List.range, List.range.loop]) ?_
  simp -dsimp -implicitDefEqProofs [slots]
  refine eCall.of i1 (by simp) ?_
  simp -dsimp -implicitDefEqProofs [slots]
  refine eCall.of in1 (by simp) ?_
  simp -dsimp -implicitDefEqProofs [slots]
  refine eCall.of i0 (by simp) ?_
  simp -dsimp -implicitDefEqProofs [slots]
  refine eCall.of i1 (by simp) ?_
  simp -dsimp -implicitDefEqProofs [slots, rowsOf, List.range, List.range.loop]
  refine eCall.of hw (by simp [rowsOf, List.range, List.range.loop]) ?_
  simp -dsimp -implicitDefEqProofs [slots]
  refine eCall.of i5 (by simp) ?_
  simp -dsimp -implicitDefEqProofs
  refine eCall.of s1 (by simp) ?_
  simp -dsimp -implicitDefEqProofs
  refine eCall.of s2 (by simp) ?_
  simp -dsimp -implicitDefEqProofs
end Go.Proofs.YtglhjjokijdagaaGreat.Sh

/- The walk of CrowdNone. -/
namespace Go.Proofs.YtglhjjokijdagaaGreat.Sh
open Go Go.RowKit

set_option maxRecDepth 20000 in
theorem bey14_s (g : Gm) (r : List Ce) (hg : g.ok) (hl : lenOk r) (hr : ∀ c ∈ r, c.ok) : CallsS Tryz.prog 7 [gmS g, ruS r] (B (far g || beyondRule r)) := by
  refine calls Tryz.func7 rfl (by rfl) (by rfl) (by kernel_rfl) ?_
  simp -dsimp -implicitDefEqProofs [Tryz.f7]
  refine eCall.of (far_s g hg) (by simp) ?_
  cases h1 : far g with
  | true => simp -dsimp -implicitDefEqProofs
  | false =>
    simp -dsimp -implicitDefEqProofs
    refine eCall.of (beyondRule_s r hl hr) (by simp) ?_
    simp -dsimp -implicitDefEqProofs

def WideL (l : List (List Int)) : Prop := 100 < l.length ∨ ∃ p ∈ l, 100 < p.length
theorem WideL.no {l : List (List Int)} (h : ¬ WideL l) : l.length ≤ 100 ∧ ∀ p ∈ l, p.length ≤ 100 :=
  ⟨Nat.not_lt.1 fun hh => h (.inl hh), fun p hp => Nat.not_lt.1 fun hh => h (.inr ⟨p, hp, hh⟩)⟩

set_option maxRecDepth 20000 in
theorem wide14_s (l : List (List Int)) (hl : l.length ≤ 140737488355328) (hp : ∀ p ∈ l, p.length ≤ 140737488355328) (b : Bool) (hb : b = true ↔ WideL l) : CallsS Tryz.prog 8 [.one (profsS l)] (B b) := by
  refine calls Tryz.func8 rfl (by rfl) (by rfl) (by kernel_rfl) ?_
  simp -dsimp -implicitDefEqProofs [Tryz.f8]
  by_cases c1 : 100 < l.length
  · have c1' : (100 : Int) < (l.length : Int) := by omega
    have c1n : ¬ (l.length : Int) ≤ 100 := by omega
    have hb' := hb.2 (.inl c1)
    simp -dsimp -implicitDefEqProofs [c1, c1', c1n, hb']
  have c1' : (l.length : Int) ≤ 100 := by omega
  have c1n := eq_false (show ¬ (100 : Int) < (l.length : Int) by omega)
  simp -dsimp -implicitDefEqProofs [c1, c1', c1n]
  refine sw_loop_e (fun q : {q : Nat // q ≤ l.length ∧ ∀ i (hi : i < q) (hl : i < l.length), l[i].length ≤ 100} => SS.of [(0, .v (.one (profsS l))), (3, I .i64 q.1)] [] 0)
    (fun q => l.length - q.1) ⟨0, Nat.zero_le _, fun i hi => absurd hi (by omega)⟩ (by kernel_rfl) (Le.to (by simp) (by simp) (by simp)) ?_
  rintro ⟨i, hi, hq⟩
  by_cases a1 : i < l.length
  · have wi : IntKind.i64.wrap ((i : Int) + 1) = ((i + 1 : Nat) : Int) := by rw [wrap_i64 _ (by omega) (by omega)]; rfl
    by_cases c2 : 100 < l[i].length
    · have c2' : (100 : Int) < (l[i].length : Int) := by omega
      have c2n : ¬ (l[i].length : Int) ≤ 100 := by omega
      have hb' := hb.2 (.inr ⟨_, List.getElem_mem a1, c2⟩)
      simp -dsimp -implicitDefEqProofs [a1, c2, c2', c2n, hb']
    · have c2' : (l[i].length : Int) ≤ 100 := by omega
      have c2n := eq_false (show ¬ (100 : Int) < (l[i].length : Int) by omega)
      simp -dsimp -implicitDefEqProofs [a1, c2, c2', c2n]
      refine Again.by ⟨i + 1, a1, fun j hj hl => ?_⟩ (Le.to (by simp [wi]) (by simp) (by simp)) (by simp; omega)
      by_cases e : j = i
      · subst e; omega
      · exact hq j (by omega) hl
  have hi2 : i = l.length := by omega
  subst hi2
  have hb' := nf hb (fun hh => by
    rcases hh with hh | ⟨p, hp, hh⟩
    · exact c1 hh
    · obtain ⟨j, hj, rfl⟩ := List.getElem_of_mem hp
      have := hq j hj hj
      omega)
  simp -dsimp -implicitDefEqProofs [hb']

/-- Truthful of any rule: the lie is not told. -/
theorem truth_any (g : Gm) (r : List Ce) (hs : Seen g r) (hf : far g = false) : ∃ (ok n : Bool) (x y z : Int) (P X Y : List (List S1)), CallsS Tryz.prog 10 [gmS g, ruS r] (.tup [.agg [.int .i64 x, .int .i64 y, .int .i64 z, .sl true 1 P, .bool n, .sl true 1 X, .sl true 1 Y], .one (.bool ok)]) ∧ (ok = true → ∀ a, a < g.agents.length → NoA g r a) := by
  by_cases hg : Good g r
  · obtain ⟨l, ok, h⟩ := isTr_of (g := g) (r := r)
    exact ⟨ok, _, _, _, _, _, _, _, (rtruth_s g r ⟨hs, hf, hg⟩ l ok h), h.iff.1⟩
  · exact ⟨false, false, 0, 0, 0, [], [], [], (rtruthNo_s g r hs hg).res (by simp), fun h => by cases h⟩

@[simp] def rowLog (T S : List (List Int)) (a : Int) : List S1 := [profsS T, profsS S, .int .i64 a]
def idL (n : Nat) : List Int := (List.range n).map fun (k : Nat) => (k : Int)
theorem idL_len (n : Nat) : (idL n).length = n := by simp [idL]
theorem idL_snoc (n : Nat) : idL (n + 1) = idL n ++ [(n : Int)] := by simp [idL, List.range_succ]
theorem idL_get {n k : Nat} (h : k < n) : (idL n)[k]? = some (k : Int) := by simp [idL, h]
theorem TabOk.get {g : Gm} {a : Nat} {tb : List Int} (h : TabOk g a tb) : ∀ k, k < kl g a → ((tb[k]?).getD 0).toNat < kl g a ∧ tb[k]? = some (((tb[k]?).getD 0).toNat : Int) := fun k hk => by
  obtain ⟨t, e1, e2⟩ := h.2 k hk
  rw [e1, Option.getD_some, Int.toNat_natCast]
  exact ⟨e2, rfl⟩
end Go.Proofs.YtglhjjokijdagaaGreat.Sh

/- A crowd: how agents answer best in turn. No program in sight. -/
namespace Go.Proofs.YtglhjjokijdagaaGreat.Sh
open Go Go.RowKit

/-- A start of a chase: what agents are, and what they say at first. -/
structure Chs (g : Gm) (r : List Ce) (tr st : List Int) : Prop where
  play : Play g r
  six : ∀ c ∈ r, CeSix c
  t : isProf g tr
  s : isProf g st

def kT (tr : List Int) (a : Nat) : Nat := ((tr[a]?).getD 0).toNat
def sayN (p : List Int) (a : Nat) : Nat := ((p[a]?).getD 0).toNat
def bAt (g : Gm) (r : List Ce) (tr p : List Int) (a : Nat) : Nat → Rat := bringQ g r a (kT tr a) [p]
/-- What an agent answers. -/
def repQ (g : Gm) (r : List Ce) (tr p : List Int) (a : Nat) : Nat :=
  let m := ansQ g r a (kT tr a) [p]
  if m ≠ kT tr a ∧ bAt g r tr p a (sayN p a) = bAt g r tr p a m then sayN p a else m
def stepQ (g : Gm) (r : List Ce) (tr : List Int) (t : Nat) (p : List Int) : List Int := putP p ((t % g.agents.length : Nat) : Int) (repQ g r tr p (t % g.agents.length))
def pathQ (g : Gm) (r : List Ce) (tr st : List Int) : Nat → List Int
  | 0 => st
  | t + 1 => stepQ g r tr t (pathQ g r tr st t)
def pathL (g : Gm) (r : List Ce) (tr st : List Int) (n : Nat) : List (List Int) := (List.range n).map (pathQ g r tr st)
theorem pathL_len (g : Gm) (r : List Ce) (tr st : List Int) (n : Nat) : (pathL g r tr st n).length = n := by simp [pathL]
theorem pathL_snoc (g : Gm) (r : List Ce) (tr st : List Int) (n : Nat) : pathL g r tr st (n + 1) = pathL g r tr st n ++ [pathQ g r tr st n] := by simp [pathL, List.range_succ]
theorem pathL_get (g : Gm) (r : List Ce) (tr st : List Int) {n i : Nat} (h : i < (pathL g r tr st n).length) : (pathL g r tr st n)[i] = pathQ g r tr st i := by simp [pathL]

/-- The last n turns of a path have changed nothing. -/
def StillL {α : Type} (P : Nat → α) (n L : Nat) : Prop := n < L ∧ ∀ i, L - n ≤ i → i < L → P i = P (i - 1)
/-- The last place ahead, whole turns round, with what a path ends with. -/
def SeenAt {α : Type} (P : Nat → α) (n L i : Nat) : Prop := i + 1 < L ∧ (L - 1 - i) % n = 0 ∧ P i = P (L - 1) ∧ ∀ j, i < j → j + 1 < L → (L - 1 - j) % n = 0 → P j ≠ P (L - 1)
def NoSeen {α : Type} (P : Nat → α) (n L : Nat) : Prop := ∀ j, j + 1 < L → (L - 1 - j) % n = 0 → P j ≠ P (L - 1)
/-- A path ends. -/
structure IsEnd {α : Type} (P : Nat → α) (n L : Nat) (at_ : Int) : Prop where
  two : 2 ≤ L
  go : ∀ L', 2 ≤ L' → L' < L → ¬ StillL P n L' ∧ NoSeen P n L'
  stop : (StillL P n L ∧ at_ = -1) ∨ (¬ StillL P n L ∧ ∃ i : Nat, SeenAt P n L i ∧ at_ = i)

theorem seen_or {α : Type} (P : Nat → α) (n L : Nat) : NoSeen P n L ∨ ∃ i, SeenAt P n L i := by
  by_cases h : NoSeen P n L
  · exact .inl h
  · right
    have hx : ∃ j, j + 1 < L ∧ (L - 1 - j) % n = 0 ∧ P j = P (L - 1) := Classical.byContradiction fun hc => h fun j h1 h2 h3 => hc ⟨j, h1, h2, h3⟩
    -- the greatest such place: the least distance
    have least : ∀ (p : Nat → Prop), (∃ n, p n) → ∃ n, p n ∧ ∀ m, m < n → ¬ p m := by
      intro p ⟨n, hn⟩
      induction n using Nat.strongRecOn with
      | _ n ih =>
        by_cases hm : ∃ m, m < n ∧ p m
        · obtain ⟨m, h1, h2⟩ := hm; exact ih m h1 h2
        · exact ⟨n, hn, fun m h1 h2 => hm ⟨m, h1, h2⟩⟩
    obtain ⟨j, h1, h2, h3⟩ := hx
    obtain ⟨d, ⟨e1, e2, e3⟩, e4⟩ := least (fun d => d < L - 1 ∧ (L - 1 - (L - 2 - d)) % n = 0 ∧ P (L - 2 - d) = P (L - 1)) ⟨L - 2 - j, by omega, by rw [show L - 2 - (L - 2 - j) = j by omega]; exact h2, by rw [show L - 2 - (L - 2 - j) = j by omega]; exact h3⟩
    refine ⟨L - 2 - d, by omega, e2, e3, fun i h4 h5 h6 h7 => e4 (L - 2 - i) (by omega) ⟨by omega, ?_, ?_⟩⟩
    · rw [show L - 2 - (L - 2 - i) = i by omega]; exact h6
    · rw [show L - 2 - (L - 2 - i) = i by omega]; exact h7

theorem pigeon : ∀ (N : Nat) (f : Nat → Nat) (K : Nat), (∀ i, i < K → f i < N) → (∀ i j, i < j → j < K → f i ≠ f j) → K ≤ N
  | 0, f, K, h1, _ => by
    refine Nat.not_lt.1 fun hc => ?_
    have := h1 0 hc; omega
  | N + 1, f, K, h1, h2 => by
    by_cases h : ∃ i, i < K ∧ f i = N
    · obtain ⟨i, hi, e⟩ := h
      have := pigeon N (fun j => f (if j < i then j else j + 1)) (K - 1) (fun j hj => by
        have hlt : (if j < i then j else j + 1) < K := by split <;> omega
        have a1 := h1 _ hlt
        have a2 : f (if j < i then j else j + 1) ≠ N := fun e2 => by
          split at e2
          · exact h2 j i (by assumption) hi (by rw [e2, e])
          · exact h2 i (j + 1) (by omega) (by omega) (by rw [e2, e])
        show f (if j < i then j else j + 1) < N
        omega) (fun a b hab hb => by
        refine h2 _ _ ?_ ?_
        · split <;> split <;> omega
        · split <;> omega)
      omega
    · have := pigeon N f K (fun i hi => by
        have := h1 i hi
        have : f i ≠ N := fun e => h ⟨i, hi, e⟩
        omega) h2
      omega

/-- A path through few places ends. -/
theorem end_of {α : Type} (P : Nat → α) (n M : Nat) (hn : 0 < n) (w : α → Nat) (hw : ∀ t, w (P t) < M) (hi : ∀ s t, w (P s) = w (P t) → P s = P t) : ∃ L at_, IsEnd P n L at_ := by
  have hx : ∃ L, 2 ≤ L ∧ ¬ (¬ StillL P n L ∧ NoSeen P n L) := Classical.byContradiction fun hc => by
    have hall : ∀ L, 2 ≤ L → NoSeen P n L := fun L hL => (Classical.not_not.1 fun h => hc ⟨L, hL, h⟩).2
    have := pigeon M (fun i => w (P (i * n))) (M + 1) (fun i _ => hw _) (fun i j hij _ e => by
      have hm : (i + 1) * n ≤ j * n := Nat.mul_le_mul_right n hij
      rw [Nat.add_mul, Nat.one_mul] at hm
      refine hall (j * n + 1) (by omega) (i * n) (by omega) ?_ (by rw [Nat.add_sub_cancel]; exact hi _ _ e)
      rw [Nat.add_sub_cancel, ← Nat.sub_mul, Nat.mul_mod_left])
    omega
  have least : ∀ (p : Nat → Prop), (∃ n, p n) → ∃ n, p n ∧ ∀ m, m < n → ¬ p m := by
    intro p ⟨n, hn⟩
    induction n using Nat.strongRecOn with
    | _ n ih =>
      by_cases hm : ∃ m, m < n ∧ p m
      · obtain ⟨m, h1, h2⟩ := hm; exact ih m h1 h2
      · exact ⟨n, hn, fun m h1 h2 => hm ⟨m, h1, h2⟩⟩
  obtain ⟨L, ⟨h1, h2⟩, h3⟩ := least _ hx
  have hgo : ∀ L', 2 ≤ L' → L' < L → ¬ StillL P n L' ∧ NoSeen P n L' := fun L' a b => Classical.not_not.1 fun h => h3 L' b ⟨a, h⟩
  by_cases hs : StillL P n L
  · exact ⟨L, -1, h1, hgo, .inl ⟨hs, rfl⟩⟩
  · rcases seen_or P n L with h | ⟨i, h⟩
    · exact absurd ⟨hs, h⟩ h2
    · exact ⟨L, i, h1, hgo, .inr ⟨hs, i, h, rfl⟩⟩

section
variable {g : Gm} {r : List Ce} {tr st : List Int} (h : Chs g r tr st)
include h
theorem Chs.sit {a : Nat} (ha : a < g.agents.length) : Sit g r a := ⟨h.play, h.six, ha⟩
theorem Chs.ag : 0 < g.agents.length := List.length_pos_iff.2 h.play.good.2.1.ag
theorem Chs.kT {a : Nat} (ha : a < g.agents.length) : tr[a]? = some (kT tr a : Int) ∧ Sh.kT tr a < kl g a := by
  obtain ⟨k, e1, e2⟩ := (h.sit ha).report h.t
  unfold Sh.kT
  rw [e1, Option.getD_some, Int.toNat_natCast]
  exact ⟨rfl, e2⟩
theorem Chs.say {a : Nat} (ha : a < g.agents.length) {p : List Int} (hp : isProf g p) : p[a]? = some (sayN p a : Int) ∧ sayN p a < kl g a := by
  obtain ⟨k, e1, e2⟩ := (h.sit ha).report hp
  unfold sayN
  rw [e1, Option.getD_some, Int.toNat_natCast]
  exact ⟨rfl, e2⟩
theorem Chs.bAt {p : List Int} {a : Nat} (j : Nat) : bAt g r tr p a j = useP g r a (Sh.kT tr a) p j := by
  unfold Sh.bAt bringQ
  rw [List.map_cons, List.map_nil, sumQ, sumQ, Rat.add_zero]
theorem Chs.rep {a : Nat} (ha : a < g.agents.length) {p : List Int} (hp : isProf g p) : repQ g r tr p a < kl g a ∧ (∀ j, j < kl g a → Sh.bAt g r tr p a j ≤ Sh.bAt g r tr p a (repQ g r tr p a)) := by
  have hA : IsAns (bringQ g r a (Sh.kT tr a) [p]) (kl g a) (Sh.kT tr a) (ansQ g r a (Sh.kT tr a) [p]) := ans_is _ (h.kT ha).2
  unfold repQ
  simp only
  split
  · next c => exact ⟨(h.say ha hp).2, fun j hj => by rw [c.2]; exact hA.top j hj⟩
  · exact ⟨hA.lt, hA.top⟩
/-- The program's best answer is that of the reference. -/
theorem Chs.pick {a : Nat} (ha : a < g.agents.length) {p : List Int} (hp : isProf g p) {m : Nat} (hm : m < kl g a) (h1 : ∀ j, j < kl g a → bringQ g r a (Sh.kT tr a) [p] j ≤ bringQ g r a (Sh.kT tr a) [p] m) (h2 : ∀ j, j < m → bringQ g r a (Sh.kT tr a) [p] j < bringQ g r a (Sh.kT tr a) [p] m) :
    pickR (bringQ g r a (Sh.kT tr a) [p]) m [(Sh.kT tr a : Int), (sayN p a : Int)] = repQ g r tr p a := by
  have hk := (h.kT ha).2
  have hA : IsAns (bringQ g r a (Sh.kT tr a) [p]) (kl g a) (Sh.kT tr a) (ansQ g r a (Sh.kT tr a) [p]) := ans_is _ hk
  have e1 := pick_ans hk hm h1 h2
  rw [show ansTo (bringQ g r a (Sh.kT tr a) [p]) (Sh.kT tr a) (kl g a) = ansQ g r a (Sh.kT tr a) [p] from rfl] at e1
  rw [pickR, pickR, Int.toNat_natCast] at e1
  rw [pickR, pickR, pickR, Int.toNat_natCast, Int.toNat_natCast]
  unfold repQ Sh.bAt
  simp only
  by_cases c : bringQ g r a (Sh.kT tr a) [p] (Sh.kT tr a) = bringQ g r a (Sh.kT tr a) [p] m
  · rw [if_pos c] at e1 ⊢
    rw [← e1, if_neg (fun hh => hh.1 rfl)]
  · rw [if_neg c] at e1 ⊢
    rw [← e1]
    have hne : m ≠ Sh.kT tr a := fun e => c (by rw [e])
    by_cases c2 : bringQ g r a (Sh.kT tr a) [p] (sayN p a) = bringQ g r a (Sh.kT tr a) [p] m
    · rw [if_pos c2, if_pos ⟨hne, c2⟩]
    · rw [if_neg c2, if_neg (fun hh => c2 hh.2)]
theorem Chs.prof : ∀ t, isProf g (pathQ g r tr st t)
  | 0 => h.s
  | t + 1 => by
    have hm := Nat.mod_lt t h.ag
    have := (h.rep hm (Chs.prof t)).1
    exact (h.sit hm).put (Chs.prof t) (by omega) (by omega)
theorem Chs.ends : ∃ L at_, IsEnd (pathQ g r tr st) g.agents.length L at_ := by
  refine end_of _ _ r.length h.ag (fun p => (whr g p).toNat) (fun t => ?_) (fun s t e => ?_)
  · obtain ⟨n, e1, e2, -⟩ := whr_lt h.play (h.prof t)
    simp only [e1, Int.toNat_natCast]; exact e2
  · obtain ⟨n, e1, -, e2⟩ := whr_lt h.play (h.prof s)
    obtain ⟨m, e3, -, e4⟩ := whr_lt h.play (h.prof t)
    simp only [e1, e3, Int.toNat_natCast] at e
    rw [← e2, ← e4, e]
/-- A turn changes nothing just if the answer is what is said. -/
theorem Chs.same (t : Nat) : pathQ g r tr st (t + 1) = pathQ g r tr st t ↔ repQ g r tr (pathQ g r tr st t) (t % g.agents.length) = sayN (pathQ g r tr st t) (t % g.agents.length) := by
  have hm := Nat.mod_lt t h.ag
  have hp := h.prof t
  obtain ⟨e1, -⟩ := h.say hm hp
  have hl : t % g.agents.length < (pathQ g r tr st t).length := by rw [hp.1]; exact hm
  show putP _ _ _ = _ ↔ _
  constructor
  · intro e
    have := putP_get hl (repQ g r tr (pathQ g r tr st t) (t % g.agents.length) : Int) (t % g.agents.length)
    rw [e, if_pos rfl, e1] at this
    have := Option.some.inj this
    omega
  · intro e
    rw [e]
    have := (h.sit hm).self hp
    rw [e1, Option.getD_some] at this
    exact this
end
end Go.Proofs.YtglhjjokijdagaaGreat.Sh

/- A crowd: where a chase ends. No program in sight. -/
namespace Go.Proofs.YtglhjjokijdagaaGreat.Sh
open Go Go.RowKit

theorem turn_of (lo n a : Nat) (h : a < n) : ∃ t, lo ≤ t ∧ t < lo + n ∧ t % n = a := by
  have hq : lo / n * n + lo % n = lo := by rw [Nat.mul_comm]; exact Nat.div_add_mod lo n
  have hr := Nat.mod_lt lo (show 0 < n by omega)
  generalize lo / n = q at *
  generalize lo % n = s at *
  by_cases c : s ≤ a
  · exact ⟨q * n + a, by omega, by omega, by rw [Nat.mul_comm, Nat.mul_add_mod, Nat.mod_eq_of_lt h]⟩
  · refine ⟨(q + 1) * n + a, ?_, ?_, by rw [Nat.mul_comm, Nat.mul_add_mod, Nat.mod_eq_of_lt h]⟩
    · rw [Nat.add_mul, Nat.one_mul]; omega
    · rw [Nat.add_mul, Nat.one_mul]; omega
theorem StillL.back {α : Type} {P : Nat → α} {n L : Nat} (h : StillL P n L) : ∀ d, d ≤ n → P (L - 1 - d) = P (L - 1)
  | 0, _ => rfl
  | d + 1, hd => by
    have h1 := h.back d (by omega)
    have h2 := h.1
    have h3 := h.2 (L - 1 - d) (by omega) (by omega)
    rw [h1] at h3
    rw [h3]; congr 1

section
variable {g : Gm} {r : List Ce} {tr st : List Int} (h : Chs g r tr st)
include h
/-- Where a chase stands still each agent answers what it says. -/
theorem Chs.still {L : Nat} (hs : StillL (pathQ g r tr st) g.agents.length L) {a : Nat} (ha : a < g.agents.length) : repQ g r tr (pathQ g r tr st (L - 1)) a = sayN (pathQ g r tr st (L - 1)) a := by
  obtain ⟨t, h1, h2, h3⟩ := turn_of (L - 1 - g.agents.length) g.agents.length a ha
  have hL := hs.1
  have e1 : pathQ g r tr st t = pathQ g r tr st (L - 1) := by
    have := hs.back (L - 1 - t) (by omega)
    rwa [show L - 1 - (L - 1 - t) = t by omega] at this
  have e2 : pathQ g r tr st (t + 1) = pathQ g r tr st t := by
    have := hs.2 (t + 1) (by omega) (by omega)
    rwa [Nat.add_sub_cancel] at this
  have e3 := (h.same t).1 e2
  rwa [h3, e1] at e3
theorem Chs.nash {L : Nat} (hs : StillL (pathQ g r tr st) g.agents.length L) {a : Nat} (ha : a < g.agents.length) {k : Nat} (hk : k < kl g a) :
    useP g r a (Sh.kT tr a) (pathQ g r tr st (L - 1)) k ≤ useP g r a (Sh.kT tr a) (pathQ g r tr st (L - 1)) (sayN (pathQ g r tr st (L - 1)) a) := by
  have h1 := (h.rep ha (h.prof (L - 1))).2 k hk
  rw [h.still hs ha, h.bAt, h.bAt] at h1
  exact h1

variable (hno : ∀ a, a < g.agents.length → NoA g r a)
include hno
theorem Chs.repT {a : Nat} (ha : a < g.agents.length) {p : List Int} (hp : isProf g p) : repQ g r tr p a = Sh.kT tr a := by
  have hk := (h.kT ha).2
  have hA : IsAns (bringQ g r a (Sh.kT tr a) [p]) (kl g a) (Sh.kT tr a) (ansQ g r a (Sh.kT tr a) [p]) := ans_is _ hk
  have e : ansQ g r a (Sh.kT tr a) [p] = Sh.kT tr a := Classical.byContradiction fun c => by
    have h1 := hA.own c
    have h2 := (h.sit ha).truth (hno a ha) hp hk hA.lt
    have b1 := h.bAt (p := p) (a := a) (Sh.kT tr a)
    have b2 := h.bAt (p := p) (a := a) (ansQ g r a (Sh.kT tr a) [p])
    unfold Sh.bAt at b1 b2
    rw [b1, b2] at h1
    grind
  unfold repQ
  simp only
  rw [e, if_neg (fun hh => hh.1 rfl)]
theorem Chs.stepT (t a : Nat) (ha : a < g.agents.length) : (pathQ g r tr st (t + 1))[a]? = if a = t % g.agents.length then some (Sh.kT tr a : Int) else (pathQ g r tr st t)[a]? := by
  have hm := Nat.mod_lt t h.ag
  have hp := h.prof t
  have hl : t % g.agents.length < (pathQ g r tr st t).length := by rw [hp.1]; exact hm
  show (putP _ _ _)[a]? = _
  rw [putP_get hl, h.repT hno hm hp]
  by_cases c : a = t % g.agents.length
  · rw [if_pos c, if_pos c, c]
  · rw [if_neg c, if_neg c]
theorem Chs.keepT {a : Nat} (ha : a < g.agents.length) {s : Nat} (hs : (pathQ g r tr st s)[a]? = some (Sh.kT tr a : Int)) : ∀ d, (pathQ g r tr st (s + d))[a]? = some (Sh.kT tr a : Int)
  | 0 => hs
  | d + 1 => by
    rw [← Nat.add_assoc, h.stepT hno _ a ha]
    split
    · rfl
    · exact Chs.keepT ha hs d
theorem Chs.allT {p : List Int} (hp : isProf g p) (hx : ∀ a, a < g.agents.length → p[a]? = some (Sh.kT tr a : Int)) : p = tr := by
  refine List.ext_getElem? fun a => ?_
  by_cases ha : a < g.agents.length
  · rw [hx a ha, (h.kT ha).1]
  · rw [List.getElem?_eq_none (by rw [hp.1]; omega), List.getElem?_eq_none (by rw [h.t.1]; omega)]
theorem Chs.lateT {t : Nat} (ht : g.agents.length ≤ t) : pathQ g r tr st t = tr := by
  refine h.allT hno (h.prof t) fun a ha => ?_
  have h1 : (pathQ g r tr st (a + 1))[a]? = some (Sh.kT tr a : Int) := by
    rw [h.stepT hno a a ha, if_pos (Nat.mod_eq_of_lt ha).symm]
  have := h.keepT hno ha h1 (t - (a + 1))
  rwa [show a + 1 + (t - (a + 1)) = t by omega] at this
/-- In a truthful rule a chase ends at the truth. -/
theorem Chs.truthEnd {L : Nat} {at_ : Int} (he : IsEnd (pathQ g r tr st) g.agents.length L at_) : at_ = -1 ∧ pathQ g r tr st (L - 1) = tr ∧ L ≤ 2 * g.agents.length + 1 := by
  have hn := h.ag
  have hst : StillL (pathQ g r tr st) g.agents.length (2 * g.agents.length + 1) := ⟨by omega, fun i h1 h2 => by rw [h.lateT hno (by omega), h.lateT hno (by omega)]⟩
  have hL : L ≤ 2 * g.agents.length + 1 := Nat.not_lt.1 fun hc => (he.go _ (by omega) hc).1 hst
  have hs : StillL (pathQ g r tr st) g.agents.length L := Classical.byContradiction fun hns => by
    rcases he.stop with ⟨h1, -⟩ | ⟨-, i, ⟨h1, h2, h3, -⟩, -⟩
    · exact hns h1
    · have hge : g.agents.length ≤ L - 1 - i := by
        refine Nat.not_lt.1 fun hc => ?_
        rw [Nat.mod_eq_of_lt hc] at h2; omega
      refine hns ⟨by omega, fun j h4 h5 => Classical.byContradiction fun hne => ?_⟩
      -- a turn that changes something does so for ever
      obtain ⟨t, rfl⟩ : ∃ t, j = t + 1 := ⟨j - 1, by omega⟩
      rw [Nat.add_sub_cancel] at hne
      have hm := Nat.mod_lt t hn
      have n1 : ¬ (pathQ g r tr st t)[t % g.agents.length]? = some (Sh.kT tr (t % g.agents.length) : Int) := fun e => hne (by
        refine List.ext_getElem? fun a => ?_
        by_cases ha : a < g.agents.length
        · rw [h.stepT hno t a ha]
          split
          · next c => rw [c, e]
          · rfl
        · rw [List.getElem?_eq_none (by rw [(h.prof _).1]; omega), List.getElem?_eq_none (by rw [(h.prof _).1]; omega)])
      have n2 : ¬ (pathQ g r tr st i)[t % g.agents.length]? = some (Sh.kT tr (t % g.agents.length) : Int) := fun e => n1 (by
        have := h.keepT hno hm e (t - i)
        rwa [show i + (t - i) = t by omega] at this)
      have n3 : (pathQ g r tr st (t + 1))[t % g.agents.length]? = some (Sh.kT tr (t % g.agents.length) : Int) := by rw [h.stepT hno t _ hm, if_pos rfl]
      have n4 := h.keepT hno hm n3 (L - 1 - (t + 1))
      rw [show t + 1 + (L - 1 - (t + 1)) = L - 1 by omega, ← h3] at n4
      exact n2 n4
  refine ⟨?_, ?_, hL⟩
  · rcases he.stop with ⟨-, h1⟩ | ⟨h1, -⟩
    · exact h1
    · exact absurd hs h1
  · refine h.allT hno (h.prof _) fun a ha => ?_
    have h1 := h.still hs ha
    rw [h.repT hno ha (h.prof _)] at h1
    rw [(h.say ha (h.prof (L - 1))).1, ← h1]
end
end Go.Proofs.YtglhjjokijdagaaGreat.Sh

/- A crowd: the parts of a chase. -/
namespace Go.Proofs.YtglhjjokijdagaaGreat.Sh
open Go Go.RowKit

section
variable {g : Gm} {r : List Ce} {tr st : List Int} (h : Chs g r tr st)
include h
set_option maxRecDepth 20000 in
theorem reply_s {a : Nat} (ha : a < g.agents.length) {p : List Int} (hp : isProf g p) :
    CallsS Tryz.prog 53 [gmS g, ruS r, .one (.int .i64 (a : Int)), .one (.int .i64 (kT tr a : Int)), .one (intsS p)] (I .i64 (repQ g r tr p a : Int)) := by
  have hs := h.sit ha
  have hk := (h.kT ha).2
  obtain ⟨e1, e2⟩ := h.say ha hp
  have hpl : a < p.length := by rw [hp.1]; exact ha
  have e3 : p[a] = (sayN p a : Int) := by rw [List.getElem?_eq_getElem hpl] at e1; exact Option.some.inj e1
  have hall : ∀ q ∈ [p], isProf g q := fun q hq => by rw [List.mem_singleton.1 hq]; exact hp
  have hans := answer_s hs (l := [p]) (by simp) hall hk
  have hA : IsAns (bringQ g r a (kT tr a) [p]) (kl g a) (kT tr a) (ansQ g r a (kT tr a) [p]) := ans_is _ hk
  obtain ⟨m, hm⟩ : ∃ m, m = ansQ g r a (kT tr a) [p] := ⟨_, rfl⟩
  have hrep : repQ g r tr p a = if m ≠ kT tr a ∧ bringQ g r a (kT tr a) [p] (sayN p a) = bringQ g r a (kT tr a) [p] m then sayN p a else m := by rw [hm]; rfl
  rw [← hm] at hans hA
  have hmk := hA.lt
  have o1 := hs.sz (i := 11) (by omega) (hs.bring_over (l := [p]) (by simp) hall hk e2)
  have o2 := hs.sz (i := 11) (by omega) (hs.bring_over (l := [p]) (by simp) hall hk hmk)
  have hsm := sameR_s (frQ (bringQ g r a (kT tr a) [p] (sayN p a))) (frQ (bringQ g r a (kT tr a) [p] m)) (frQ_ok (by omega)) (frQ_ok (by omega))
  rw [fix_frQ o1, fix_frQ o2] at hsm
  refine calls Tryz.func53 rfl (by rfl) (by rfl) (by kernel_rfl) ?_
  simp -dsimp -implicitDefEqProofs [Tryz.f53, slots]
  refine eCall.of hans (by simp [rowsOf]) ?_
  by_cases c1 : m = kT tr a
  · rw [if_neg (fun hh => hh.1 c1)] at hrep
    simp -dsimp -implicitDefEqProofs [c1, hrep]
  have c1' : ¬ (m : Int) = (kT tr a : Int) := by omega
  simp -dsimp -implicitDefEqProofs [c1, c1', hpl, e3]
  refine eCall.of (brings_s hs (l := [p]) (by simp) hall hk e2) (by simp [rowsOf]) ?_
  simp -dsimp -implicitDefEqProofs
  refine eCall.of (brings_s hs (l := [p]) (by simp) hall hk hmk) (by simp [rowsOf]) ?_
  simp -dsimp -implicitDefEqProofs
  refine eCall.of hsm (by simp [frQ, ng]) ?_
  by_cases c2 : bringQ g r a (kT tr a) [p] (sayN p a) = bringQ g r a (kT tr a) [p] m
  · rw [if_pos ⟨c1, c2⟩] at hrep
    simp -dsimp -implicitDefEqProofs [c2, hpl, e3, hrep]
  · rw [if_neg (fun hh => c2 hh.2)] at hrep
    simp -dsimp -implicitDefEqProofs [c2, hrep]
end

@[simp] def profsG (fr : Bool) (l : List (List Int)) : S1 := .sl fr 1 (l.map rowProf)

set_option maxRecDepth 20000 in
theorem still_g (fr : Bool) (l : List (List Int)) (P : Nat → List Int) (hP : ∀ i (h : i < l.length), l[i] = P i) (hl : l.length ≤ 1048576) (hp : ∀ p ∈ l, p.length ≤ 1048576) (n : Nat) (hn : 0 < n) (hn2 : n ≤ 1048576) (b : Bool) (hb : b = true ↔ StillL P n l.length) :
    CallsS Tryz.prog 54 [.one (profsG fr l), .one (.int .i64 (n : Int))] (B b) := by
  refine calls Tryz.func54 rfl (by rfl) (by rfl) (by kernel_rfl) ?_
  simp -dsimp -implicitDefEqProofs [Tryz.f54]
  by_cases c1 : l.length ≤ n
  · have c1' : (l.length : Int) ≤ (n : Int) := by omega
    have hb' := nf hb (fun hh => by have := hh.1; omega)
    have c1n : ¬ n < l.length := by omega
    simp -dsimp -implicitDefEqProofs [c1, c1', c1n, hb']
  have c1' := eq_false (show ¬ (l.length : Int) ≤ (n : Int) by omega)
  have c1n : n < l.length := by omega
  have w1 : IntKind.i64.wrap ((l.length : Int) - (n : Int)) = ((l.length - n : Nat) : Int) := by rw [wrap_i64 _ (by omega) (by omega)]; omega
  simp -dsimp -implicitDefEqProofs [c1, c1', c1n]
  refine sw_loop_e (fun q : {q : Nat // l.length - n ≤ q ∧ q ≤ l.length ∧ ∀ i, l.length - n ≤ i → i < q → P i = P (i - 1)} => SS.of [(0, .v (.one (profsG fr l))), (5, I .i64 q.1)] [] 0)
    (fun q => l.length - q.1) ⟨l.length - n, Nat.le_refl _, by omega, fun i h1 h2 => absurd h1 (by omega)⟩ (by kernel_rfl) (Le.to (by simp [w1]) (by simp) (by simp)) ?_
  rintro ⟨i, hi0, hi, hq⟩
  by_cases a1 : i < l.length
  · have wi : IntKind.i64.wrap ((i : Int) + 1) = ((i + 1 : Nat) : Int) := by rw [wrap_i64 _ (by omega) (by omega)]; rfl
    have wj : IntKind.i64.wrap ((i : Int) - 1) = ((i - 1 : Nat) : Int) := by rw [wrap_i64 _ (by omega) (by omega)]; omega
    have a2 : i - 1 < l.length := by omega
    have hsi := sameInts_s l[i] l[i - 1] (by have := hp _ (List.getElem_mem a1); omega) (by have := hp _ (List.getElem_mem a2); omega)
    simp -dsimp -implicitDefEqProofs [a1, a2, wj]
    refine eCall.of hsi (by simp) ?_
    by_cases c : l[i] = l[i - 1]
    · simp -dsimp -implicitDefEqProofs [c]
      refine Again.by ⟨i + 1, by omega, a1, fun j h1 h2 => ?_⟩ (Le.to (by simp [wi]) (by simp) (by simp)) (by simp; omega)
      by_cases e : j = i
      · subst e; rw [← hP j a1, ← hP _ a2]; exact c
      · exact hq j h1 (by omega)
    · have hb' := nf hb (fun hh => c (by rw [hP i a1, hP _ a2]; exact hh.2 i hi0 a1))
      simp -dsimp -implicitDefEqProofs [c, hb']
  have hi2 : i = l.length := by omega
  subst hi2
  have hb' := hb.2 ⟨by omega, fun i h1 h2 => hq i h1 h2⟩
  simp -dsimp -implicitDefEqProofs [hb']

set_option maxRecDepth 20000 in
theorem seen_g (fr : Bool) (l : List (List Int)) (P : Nat → List Int) (hP : ∀ i (h : i < l.length), l[i] = P i) (hl0 : 0 < l.length) (hl : l.length ≤ 1048576) (hp : ∀ p ∈ l, p.length ≤ 1048576) (n : Nat) (hn : 0 < n) (hn2 : n ≤ 1048576) (e : Int) (he : (NoSeen P n l.length ∧ e = -1) ∨ ∃ i : Nat, SeenAt P n l.length i ∧ e = i) :
    CallsS Tryz.prog 55 [.one (profsG fr l), .one (.int .i64 (n : Int))] (I .i64 e) := by
  have w1 : IntKind.i64.wrap ((l.length : Int) - 1) = ((l.length - 1 : Nat) : Int) := by rw [wrap_i64 _ (by omega) (by omega)]; omega
  have w2 : IntKind.i64.wrap (((l.length - 1 : Nat) : Int) - (n : Int)) = (l.length : Int) - 1 - (1 * n : Nat) := by rw [wrap_i64 _ (by omega) (by omega)]; omega
  refine calls Tryz.func55 rfl (by rfl) (by rfl) (by kernel_rfl) ?_
  simp -dsimp -implicitDefEqProofs [Tryz.f55]
  refine sw_loop_e (fun q : {q : Nat // q * n ≤ l.length - 1 ∧ ∀ d, 0 < d → d ≤ q → P (l.length - 1 - d * n) ≠ P (l.length - 1)} => SS.of [(0, .v (.one (profsG fr l))), (1, I .i64 n), (5, I .i64 ((l.length - 1 : Nat) : Int)), (6, I .i64 ((l.length : Int) - 1 - ((q.1 + 1) * n : Nat)))] [] 0)
    (fun q => l.length - q.1) ⟨0, by omega, fun d h1 h2 => absurd h1 (by omega)⟩ (by kernel_rfl) (Le.to (by rw [w1] at *; simp [w1, w2]) (by simp) (by simp)) ?_
  rintro ⟨q, hq, hno⟩
  have hqn : q ≤ q * n := Nat.le_mul_of_pos_right q hn
  have hsn : (q + 1) * n = q * n + n := by rw [Nat.add_mul, Nat.one_mul]
  by_cases a1 : (q + 1) * n ≤ l.length - 1
  · have h0 : (0 : Int) ≤ (l.length : Int) - 1 - ((q + 1) * n : Nat) := by omega
    obtain ⟨i, hi⟩ : ∃ i : Nat, (l.length : Int) - 1 - ((q + 1) * n : Nat) = (i : Int) := ⟨l.length - 1 - (q + 1) * n, by omega⟩
    have hie : i = l.length - 1 - (q + 1) * n := by omega
    have a2 : i < l.length := by omega
    have a3 : l.length - 1 < l.length := by omega
    have wj : IntKind.i64.wrap ((i : Int) - (n : Int)) = (l.length : Int) - 1 - ((q + 1 + 1) * n : Nat) := by
      rw [wrap_i64 _ (by omega) (by omega), Nat.add_mul (q + 1), Nat.one_mul]; omega
    have hsi := sameInts_s l[i] l[l.length - 1] (by have := hp _ (List.getElem_mem a2); omega) (by have := hp _ (List.getElem_mem a3); omega)
    rw [hi]
    simp -dsimp -implicitDefEqProofs [a2, a3, hl0]
    refine eCall.of hsi (by simp) ?_
    by_cases c : l[i] = l[l.length - 1]
    · have hPi : P i = P (l.length - 1) := by rw [← hP i a2, ← hP _ a3]; exact c
      have hse : SeenAt P n l.length i := ⟨by omega, by rw [hie, show l.length - 1 - (l.length - 1 - (q + 1) * n) = (q + 1) * n by omega, Nat.mul_mod_left], hPi, fun j h1 h2 h3 h4 => by
        obtain ⟨d, hd⟩ := Nat.dvd_of_mod_eq_zero h3
        rw [Nat.mul_comm] at hd
        have hd0 : 0 < d := Nat.pos_of_ne_zero fun e => by rw [e, Nat.zero_mul] at hd; omega
        have hdq : d ≤ q := Nat.not_lt.1 fun hc => by
          have : (q + 1) * n ≤ d * n := Nat.mul_le_mul_right n hc
          omega
        refine hno d hd0 hdq ?_
        rw [← hd, show l.length - 1 - (l.length - 1 - j) = j by omega]; exact h4⟩
      have hee : e = i := by
        rcases he with ⟨h1, -⟩ | ⟨i', h1, h2⟩
        · exact absurd hPi (h1 i hse.1 hse.2.1)
        · rcases Nat.lt_trichotomy i i' with c' | c' | c'
          · exact absurd h1.2.2.1 (hse.2.2.2 i' c' h1.1 h1.2.1)
          · rw [h2, c']
          · exact absurd hPi (h1.2.2.2 i c' hse.1 hse.2.1)
      simp -dsimp -implicitDefEqProofs [c, hee]
    · simp -dsimp -implicitDefEqProofs [c]
      refine Again.by ⟨q + 1, a1, fun d h1 h2 => ?_⟩ (Le.to (by simp [wj]) (by simp) (by simp)) (by simp; omega)
      by_cases e' : d = q + 1
      · rw [e', ← hie, ← hP i a2, ← hP _ a3]; exact c
      · exact hno d h1 (by omega)
  · have h0 := eq_false (show ¬ (0 : Int) ≤ (l.length : Int) - 1 - ((q + 1) * n : Nat) by omega)
    have hee : e = -1 := by
      rcases he with ⟨-, h2⟩ | ⟨j, h1, h2⟩
      · exact h2
      · obtain ⟨d, hd⟩ := Nat.dvd_of_mod_eq_zero h1.2.1
        rw [Nat.mul_comm] at hd
        have h11 := h1.1
        have hd0 : 0 < d := Nat.pos_of_ne_zero fun e => by rw [e, Nat.zero_mul] at hd; omega
        have hdq : d ≤ q := Nat.not_lt.1 fun hc => by
          have : (q + 1) * n ≤ d * n := Nat.mul_le_mul_right n hc
          omega
        refine absurd ?_ (hno d hd0 hdq)
        rw [← hd, show l.length - 1 - (l.length - 1 - j) = j by omega]; exact h1.2.2.1
    obtain ⟨z, hz⟩ : ∃ z : Int, (l.length : Int) - 1 - ((q + 1) * n : Nat) = z := ⟨_, rfl⟩
    rw [hz] at h0 ⊢
    simp -dsimp -implicitDefEqProofs [h0, hee]

set_option maxRecDepth 20000 in
theorem equalI_s (a b : List Int) (ha : a.length ≤ 140737488355328) (hb : b.length ≤ 140737488355328) : CallsS Tryz.prog 60 [.one (intsS a), .one (intsS b)] (B (decide (a = b))) := by
  refine calls Tryz.func60 rfl (by rfl) (by rfl) (by kernel_rfl) ?_
  by_cases hl : a.length = b.length
  · have hl' : (a.length : Int) = b.length := by omega
    simp -dsimp -implicitDefEqProofs [Tryz.f60, hl]
    refine sw_loop_e (fun p : {p : Nat // p ≤ b.length ∧ a.take p = b.take p} => SS.of [(0, .v (.one (intsS a))), (1, .v (.one (intsS b))), (12, I .i64 b.length), (13, I .i64 p.1)] [] 0)
      (fun p => b.length - p.1) ⟨0, Nat.zero_le _, by simp⟩ (by kernel_rfl) (Le.to (by simp [hl]) (by simp) (by simp)) ?_
    rintro ⟨i, hi, ht⟩
    by_cases a1 : i < b.length
    · have a2 : i < a.length := by omega
      have wi : IntKind.i64.wrap ((i : Int) + 1) = ((i + 1 : Nat) : Int) := by rw [wrap_i64 _ (by omega) (by omega)]; rfl
      simp -dsimp -implicitDefEqProofs [a1, a2, hl, wi]
      refine ⟨fun he => ?_, fun he => ?_⟩
      · refine Again.by ⟨i + 1, a1, ?_⟩ (Le.to (by simp [wi]) (by simp) (by simp)) (by simp; omega)
        rw [List.take_add_one, List.take_add_one, ht, List.getElem?_eq_getElem a1, List.getElem?_eq_getElem a2, he]
      · intro hab; subst hab; exact he rfl
    · have hi2 : i = b.length := by omega
      subst hi2
      rw [List.take_length, ← hl, List.take_length] at ht
      subst ht
      simp -dsimp -implicitDefEqProofs
  · have hab : a ≠ b := fun h => hl (by rw [h])
    have hl' : ¬ (a.length : Int) = b.length := by omega
    simp -dsimp -implicitDefEqProofs [Tryz.f60, hl, hl', hab]

set_option maxRecDepth 20000 in
theorem sameLists_s (l : List (List Int)) (hl : l.length ≤ 1048576) (hp : ∀ p ∈ l, p.length ≤ 1048576) : CallsS Tryz.prog 19 [.one (profsS l), .one (profsS l)] (B true) := by
  refine calls Tryz.func19 rfl (by rfl) (by rfl) (by kernel_rfl) ?_
  simp -dsimp -implicitDefEqProofs [Tryz.f19]
  refine sw_loop_e (fun q : {q : Nat // q ≤ l.length} => SS.of [(0, .v (.one (profsS l))), (1, .v (.one (profsS l))), (5, I .i64 q.1)] [] 0)
    (fun q => l.length - q.1) ⟨0, Nat.zero_le _⟩ (by kernel_rfl) (Le.to (by simp) (by simp) (by simp)) ?_
  rintro ⟨i, hi⟩
  by_cases a1 : i < l.length
  · have wi : IntKind.i64.wrap ((i : Int) + 1) = ((i + 1 : Nat) : Int) := by rw [wrap_i64 _ (by omega) (by omega)]; rfl
    have hsi := sameInts_s l[i] l[i] (by have := hp _ (List.getElem_mem a1); omega) (by have := hp _ (List.getElem_mem a1); omega)
    rw [decide_eq_true rfl] at hsi
    simp -dsimp -implicitDefEqProofs [a1]
    refine eCall.of hsi (by simp) ?_
    simp -dsimp -implicitDefEqProofs
    exact Again.by ⟨i + 1, a1⟩ (Le.to (by simp [wi]) (by simp) (by simp)) (by simp; omega)
  have hi2 : i = l.length := by omega
  subst hi2
  simp -dsimp -implicitDefEqProofs

set_option maxRecDepth 20000 in
theorem clone_s (p : List Int) (hp : p ≠ []) (hl : p.length ≤ 1048576) : CallsS Tryz.prog 58 [.one (intsS p)] (.v (.one (intsS p))) := by
  refine calls Tryz.func58 rfl (by rfl) (by rfl) (by kernel_rfl) ?_
  obtain ⟨x, xs, rfl⟩ := List.exists_cons_of_ne_nil hp
  have hl' : xs.length + 1 ≤ 1048576 := by simpa using hl
  simp -dsimp -implicitDefEqProofs [Tryz.f58, slots]
  have hs1 : (List.map (List.length ∘ fun x => [S1.int .i64 x]) xs).sum = xs.length := by
    have e : (List.length ∘ fun x => [S1.int .i64 x]) = fun _ : Int => 1 := rfl
    rw [e, List.map_const', List.sum_replicate_nat, Nat.mul_one]
  have hs2 : (List.map (List.map S1.close ∘ fun x => [S1.int .i64 x]) xs).flatten = flat rowInt xs := rfl
  have hs3 := rowsOf_flat (f := rowInt) (x :: xs) (xs.length + 1) (by simp)
  rw [show flat rowInt (x :: xs) = S1.int .i64 x :: flat rowInt xs from rfl] at hs3
  refine ⟨hs1, ⟨by omega, by omega⟩, ?_⟩
  simp -dsimp -implicitDefEqProofs [hs1, hs2, hs3]
end Go.Proofs.YtglhjjokijdagaaGreat.Sh

/- A crowd: Chase, of the reference. -/
namespace Go.Proofs.YtglhjjokijdagaaGreat.Sh
open Go Go.RowKit

section
variable {α : Type} {P : Nat → α} {n L : Nat} {at_ : Int} (he : IsEnd P n L at_)
include he
theorem IsEnd.still {k : Nat} (hk : 2 ≤ k) (h : k ≤ L) (hs : StillL P n k) : k = L ∧ at_ = -1 := by
  have e : k = L := by
    refine Nat.le_antisymm h (Nat.not_lt.1 fun hc => (he.go k hk hc).1 hs)
  subst e
  rcases he.stop with ⟨-, h2⟩ | ⟨h2, -⟩
  · exact ⟨rfl, h2⟩
  · exact absurd hs h2
theorem IsEnd.seen {k i : Nat} (hk : 2 ≤ k) (h : k ≤ L) (hs : ¬ StillL P n k) (hi : SeenAt P n k i) : k = L ∧ at_ = i := by
  have e : k = L := by
    refine Nat.le_antisymm h (Nat.not_lt.1 fun hc => (he.go k hk hc).2 i hi.1 hi.2.1 hi.2.2.1)
  subst e
  rcases he.stop with ⟨h2, -⟩ | ⟨-, j, h1, h2⟩
  · exact absurd h2 hs
  · refine ⟨rfl, ?_⟩
    rcases Nat.lt_trichotomy i j with c | c | c
    · exact absurd h1.2.2.1 (hi.2.2.2 j c h1.1 h1.2.1)
    · rw [h2, c]
    · exact absurd hi.2.2.1 (h1.2.2.2 i c hi.1 hi.2.1)
theorem IsEnd.on {k : Nat} (h : k ≤ L) (hs : ¬ StillL P n k) (hn : NoSeen P n k) : k < L := by
  refine Nat.lt_of_le_of_ne h fun e => ?_
  subst e
  rcases he.stop with ⟨h1, -⟩ | ⟨-, i, h1, -⟩
  · exact hs h1
  · exact hn i h1.1 h1.2.1 h1.2.2.1
end

theorem still_peek (l : List (List Int)) (P : Nat → List Int) (hP : ∀ i (h : i < l.length), l[i] = P i) (hl : l.length ≤ 1048576) (hp : ∀ p ∈ l, p.length ≤ 1048576) (n : Nat) (hn : 0 < n) (hn2 : n ≤ 1048576) (b : Bool) (hb : b = true ↔ StillL P n l.length) (ty : Nat) (full : Bool) :
    CallsX Tryz.prog 54 [.one (.ms 0 0 l.length 1 full), .one (.int .i64 (n : Int))] [⟨ty, flat rowProf l⟩] (B b) [some ⟨ty, flat rowProf l⟩] := by
  refine CallsX.peek (ys := [.one (.ms 0 0 l.length 1 full), .one (.int .i64 (n : Int))]) (objs := [⟨ty, flat rowProf l⟩]) ?_ ?_
  · have hcl : (flat rowProf l).map S1.close = flat rowProf l := close_flat (e := 1) _
    have hle : 0 + l.length * 1 ≤ (flat rowProf l).length := by rw [flat_len (e := 1)]; omega
    have := still_g false l P hP hl hp n hn hn2 b hb
    show CallsS Tryz.prog 54 [.one (S1.peek [⟨ty, flat rowProf l⟩] (.ms 0 0 l.length 1 full)), .one (.int .i64 (n : Int))] _
    simp only [S1.peek, List.getElem?_cons_zero]
    rw [if_pos hle, hcl, rowsOf_flat l l.length rfl]
    exact this
  · exact LabT.bool _
theorem seen_peek (l : List (List Int)) (P : Nat → List Int) (hP : ∀ i (h : i < l.length), l[i] = P i) (hl0 : 0 < l.length) (hl : l.length ≤ 1048576) (hp : ∀ p ∈ l, p.length ≤ 1048576) (n : Nat) (hn : 0 < n) (hn2 : n ≤ 1048576) (e : Int) (he : (NoSeen P n l.length ∧ e = -1) ∨ ∃ i : Nat, SeenAt P n l.length i ∧ e = i) (ty : Nat) (full : Bool) :
    CallsX Tryz.prog 55 [.one (.ms 0 0 l.length 1 full), .one (.int .i64 (n : Int))] [⟨ty, flat rowProf l⟩] (I .i64 e) [some ⟨ty, flat rowProf l⟩] := by
  refine CallsX.peek (ys := [.one (.ms 0 0 l.length 1 full), .one (.int .i64 (n : Int))]) (objs := [⟨ty, flat rowProf l⟩]) ?_ ?_
  · have hcl : (flat rowProf l).map S1.close = flat rowProf l := close_flat (e := 1) _
    have hle : 0 + l.length * 1 ≤ (flat rowProf l).length := by rw [flat_len (e := 1)]; omega
    have := seen_g false l P hP hl0 hl hp n hn hn2 e he
    show CallsS Tryz.prog 55 [.one (S1.peek [⟨ty, flat rowProf l⟩] (.ms 0 0 l.length 1 full)), .one (.int .i64 (n : Int))] _
    simp only [S1.peek, List.getElem?_cons_zero]
    rw [if_pos hle, hcl, rowsOf_flat l l.length rfl]
    exact this
  · exact LabT.int _ _

/-- What a chase comes to. -/
structure IsChase (g : Gm) (r : List Ce) (tr st : List Int) (l : List (List Int)) (at_ e : Int) : Prop where
  bad : ¬ Good g r → isGood g r e ∧ l = [] ∧ at_ = 0
  prof : Good g r → ¬ (isProf g tr ∧ isProf g st) → e = 140 ∧ l = [] ∧ at_ = 0
  ok : Good g r → isProf g tr → isProf g st → e = 0 ∧ ∃ L, IsEnd (pathQ g r tr st) g.agents.length L at_ ∧ l = pathL g r tr st L
theorem isChase_of {g : Gm} {r : List Ce} {tr st : List Int} (hs : Seen g r) (hf : far g = false) (six : ∀ c ∈ r, CeSix c) : ∃ l at_ e, IsChase g r tr st l at_ e := by
  obtain ⟨e, h1, h2⟩ := isGood_of g r
  by_cases c1 : Good g r
  · by_cases c2 : isProf g tr ∧ isProf g st
    · obtain ⟨L, at_, h⟩ := Chs.ends (g := g) (r := r) (tr := tr) (st := st) ⟨⟨hs, hf, c1⟩, six, c2.1, c2.2⟩
      exact ⟨_, _, 0, fun h => absurd c1 h, fun _ h => absurd c2 h, fun _ _ _ => ⟨rfl, L, h, rfl⟩⟩
    · exact ⟨[], 0, 140, fun h => absurd c1 h, fun _ _ => ⟨rfl, rfl, rfl⟩, fun _ a b => absurd ⟨a, b⟩ c2⟩
  · exact ⟨[], 0, e, fun _ => ⟨h1, rfl, rfl⟩, fun h => absurd h c1, fun h => absurd h c1⟩
/-- A path is not long. -/
theorem IsEnd.short {g : Gm} {r : List Ce} {tr st : List Int} (h : Chs g r tr st) {L : Nat} {at_ : Int} (he : IsEnd (pathQ g r tr st) g.agents.length L at_) : L ≤ 1000 := by
  refine Nat.not_lt.1 fun hc => ?_
  have hn := h.ag
  have hag := (sizeOk_all h.play.fine.sz).1
  have := pigeon r.length (fun i => (whr g (pathQ g r tr st (i * g.agents.length))).toNat) 101 (fun i _ => by
    obtain ⟨n, e1, e2, -⟩ := whr_lt h.play (h.prof (i * g.agents.length))
    simp only [e1, Int.toNat_natCast]; exact e2) (fun i j hij hj e => by
      have hm : (i + 1) * g.agents.length ≤ j * g.agents.length := Nat.mul_le_mul_right _ hij
      rw [Nat.add_mul, Nat.one_mul] at hm
      have hjl : j * g.agents.length ≤ 100 * 4 := Nat.mul_le_mul (by omega) hag
      refine (he.go (j * g.agents.length + 1) (by omega) (by omega)).2 (i * g.agents.length) (by omega) ?_ ?_
      · rw [Nat.add_sub_cancel, ← Nat.sub_mul, Nat.mul_mod_left]
      · rw [Nat.add_sub_cancel]
        obtain ⟨n, e1, -, e2⟩ := whr_lt h.play (h.prof (i * g.agents.length))
        obtain ⟨m, e3, -, e4⟩ := whr_lt h.play (h.prof (j * g.agents.length))
        simp only [e1, e3, Int.toNat_natCast] at e
        rw [← e2, ← e4, e])
  have := h.play.seen.len
  omega

set_option maxRecDepth 20000 in
set_option maxHeartbeats 4000000 in
theorem chaseR_s (g : Gm) (r : List Ce) (hs : Seen g r) (hf : far g = false) (six : ∀ c ∈ r, CeSix c) (tr st : List Int) (htl : tr.length ≤ 1048576) (hsl : st.length ≤ 1048576) (l : List (List Int)) (at_ e : Int) (hc : IsChase g r tr st l at_ e) :
    CallsS Tryz.prog 17 [gmS g, ruS r, .one (intsS tr), .one (intsS st)] (.tup [.one (profsS l), .one (.int .i64 at_), .one (.int .i64 e)]) := by
  obtain ⟨eg, hg1, hg2⟩ := isGood_of g r
  refine calls Tryz.func17 rfl (by rfl) (by rfl) (by kernel_rfl) ?_
  simp -dsimp -implicitDefEqProofs [Tryz.f17]
  refine eCall.of (rightR4_s g r hs eg hg1) (by simp) ?_
  by_cases e0 : eg = 0
  case neg =>
    obtain ⟨h1, rfl, rfl⟩ := hc.bad (mt hg2.2 e0)
    obtain rfl := h1.eq hg1
    simp -dsimp -implicitDefEqProofs [e0]
  subst e0
  have hgd := hg2.1 rfl
  have hP : Play g r := ⟨hs, hf, hgd⟩
  obtain ⟨e1, he1⟩ := isIdx2_of g tr
  obtain ⟨e2, he2⟩ := isIdx2_of g st
  have i1 := ridx_s g r hs tr (by omega) e1 he1
  have i2 := ridx_s g r hs st (by omega) e2 he2
  have neg : ∀ {p : List Int} {e : Int}, isIdx2 g p e → (e < 0 ↔ ¬ isProf g p) := fun he => by
    rcases he with ⟨-, h1, h2⟩ | ⟨h1, h2⟩
    · exact idx_neg (.inl ⟨h1, h2⟩)
    · exact idx_neg (.inr ⟨fun hh => h1 ⟨⟨hgd.1, hgd.2.1⟩, hh⟩, h2⟩)
  have n1 := neg he1
  have n2 := neg he2
  simp -dsimp -implicitDefEqProofs
  refine eCall.of i1 (by simp) ?_
  by_cases d1 : e1 < 0
  · obtain ⟨rfl, rfl, rfl⟩ := hc.prof hgd (fun hh => n1.1 d1 hh.1)
    simp -dsimp -implicitDefEqProofs [d1]
  simp -dsimp -implicitDefEqProofs [d1]
  refine eCall.of i2 (by simp) ?_
  by_cases d2 : e2 < 0
  · obtain ⟨rfl, rfl, rfl⟩ := hc.prof hgd (fun hh => n2.1 d2 hh.2)
    simp -dsimp -implicitDefEqProofs [d2]
  have p1 : isProf g tr := Classical.not_not.1 (mt n1.2 d1)
  have p2 : isProf g st := Classical.not_not.1 (mt n2.2 d2)
  obtain ⟨rfl, L, hE, rfl⟩ := hc.ok hgd p1 p2
  have h : Chs g r tr st := ⟨hP, six, p1, p2⟩
  have hL := hE.short h
  have hag := h.ag
  have hag4 := (sizeOk_all hP.fine.sz).1
  have hpu := putR_s st (-1) 0 hsl
  rw [show putP st (-1) 0 = st by unfold putP; rw [if_neg (by omega)]] at hpu
  simp -dsimp -implicitDefEqProofs [d2]
  refine eCall.of hpu (by simp) ?_
  simp -dsimp -implicitDefEqProofs [slots]
  obtain ⟨n, hn⟩ : ∃ n, n = g.agents.length := ⟨_, rfl⟩
  refine sw_loop_e (fun q : {q : Nat × Nat // q.1 + 1 < L} => SS.of [(2, .v (.one (intsS tr))), (4, .v (.one (.mp 0 0))), (5, .v (.one (.mp 1 0))), (12, I .i64 g.agents.length), (13, .v (.one (.ms (q.1.2 + 2) 0 (q.1.1 + 1) 1 true)))] [(0, ⟨26, rowGm g⟩), (1, ⟨29, [cesS r]⟩), (q.1.2 + 2, ⟨33, flat rowProf (pathL g r tr st (q.1.1 + 1))⟩)] (q.1.2 + 3))
    (fun q => L - q.1.1) ⟨(0, 0), by have := hE.two; simp only; omega⟩ (by kernel_rfl) (Le.to (by simp) (by simp [pathL, pathQ, flat_prof1]) (by simp)) ?_
  rintro ⟨⟨k, c⟩, hk⟩
  simp only at hk
  obtain ⟨a, hak⟩ : ∃ a, k % g.agents.length = a := ⟨_, rfl⟩
  have hm : a < g.agents.length := by rw [← hak]; exact Nat.mod_lt k hag
  have hpk := h.prof k
  obtain ⟨t1, t2⟩ := h.kT hm
  have hpl := pathL_len g r tr st (k + 1)
  have hpl2 := pathL_len g r tr st (k + 2)
  have w1 : IntKind.i64.wrap (((k + 1 : Nat) : Int) - 1) = (k : Int) := by rw [wrap_i64 _ (by omega) (by omega)]; omega
  have hkl : k < (pathL g r tr st (k + 1)).length := by omega
  have hgk := pathL_get g r tr st hkl
  have htl' : a < tr.length := by rw [p1.1]; exact hm
  have ht3 : tr[a] = (kT tr a : Int) := by rw [List.getElem?_eq_getElem htl'] at t1; exact Option.some.inj t1
  have hrep := reply_s h hm hpk
  have hput := putR_s (pathQ g r tr st k) (a : Int) (repQ g r tr (pathQ g r tr st k) a) (by rw [hpk.1]; omega)
  rw [show putP (pathQ g r tr st k) (a : Int) (repQ g r tr (pathQ g r tr st k) a) = pathQ g r tr st (k + 1) by rw [← hak]; rfl] at hput
  have wk0 : IntKind.i64.wrap (k : Int) = (k : Int) := wrap_i64 _ (by omega) (by omega)
  have hfg : (flat rowProf (pathL g r tr st (k + 1)))[k]? = some (intsS (pathQ g r tr st k)) := by
    rw [flat_prof, List.getElem?_map, List.getElem?_eq_getElem hkl, hgk]; rfl
  have hk0 : (0 : Int) ≤ (k : Int) := by omega
  have hk1 : (k : Int) < (k : Int) + 1 := by omega
  have hna : ¬ g.agents = [] := List.length_pos_iff.1 hag
  have hrem : (k : Int).tmod (g.agents.length : Int) = (a : Int) := by
    rw [Int.tmod_eq_emod_of_nonneg (by omega), ← hak]; rfl
  have hfl := flat_snoc (f := rowProf) (pathQ g r tr st (k + 1)) (pathL g r tr st (k + 1))
  rw [← pathL_snoc] at hfl
  have hPg : ∀ i (hi : i < (pathL g r tr st (k + 2)).length), (pathL g r tr st (k + 2))[i] = pathQ g r tr st i := fun i hi => pathL_get g r tr st hi
  have hPl : ∀ p ∈ pathL g r tr st (k + 2), p.length ≤ 1048576 := fun p hp => by
    obtain ⟨i, -, rfl⟩ := List.mem_map.1 hp
    have := (h.prof i).1
    omega
  obtain ⟨b, hb⟩ := boolOf (StillL (pathQ g r tr st) g.agents.length (k + 2))
  have hsp := still_peek (pathL g r tr st (k + 2)) (pathQ g r tr st) hPg (by omega) hPl g.agents.length hag (by omega) b (by rw [hpl2]; exact hb) 33 true
  rw [hpl2] at hsp
  simp -dsimp -implicitDefEqProofs [w1, hpl, wk0, hfg, hk0, hk1, hna, hrem, htl', ht3, hgk]
  refine eCall.of hrep (by simp) ?_
  simp -dsimp -implicitDefEqProofs
  refine eCall.of hput (by simp) ?_
  simp -dsimp -implicitDefEqProofs [hpl, slots]
  refine ⟨⟨by omega, by omega⟩, ?_⟩
  refine eCall.lend [c + 3] hsp (by simp) (by simp) (by simp [hfl]) ?_
  cases b with
  | true =>
    obtain ⟨eL, rfl⟩ := hE.still (by omega) (by omega) (hb.1 rfl)
    subst eL
    simp -dsimp -implicitDefEqProofs [hpl2]
  | false =>
  have hns : ¬ StillL (pathQ g r tr st) g.agents.length (k + 2) := fun hh => by have := hb.2 hh; cases this
  simp -dsimp -implicitDefEqProofs [hpl2]
  rcases seen_or (pathQ g r tr st) g.agents.length (k + 2) with hno | ⟨i, hi⟩
  · have hse := seen_peek (pathL g r tr st (k + 2)) (pathQ g r tr st) hPg (by omega) (by omega) hPl g.agents.length hag (by omega) (-1) (.inl ⟨by rw [hpl2]; exact hno, rfl⟩) 33 true
    rw [hpl2] at hse
    refine eCall.lend [c + 3] hse (by simp) (by simp) (by simp) ?_
    simp -dsimp -implicitDefEqProofs
    exact Again.by ⟨(k + 1, c + 1), hE.on (by omega) hns hno⟩ (Le.to (by simp) (by simp) (by simp)) (by simp; omega)
  · have hse := seen_peek (pathL g r tr st (k + 2)) (pathQ g r tr st) hPg (by omega) (by omega) hPl g.agents.length hag (by omega) (i : Int) (.inr ⟨i, by rw [hpl2]; exact hi, rfl⟩) 33 true
    rw [hpl2] at hse
    obtain ⟨eL, rfl⟩ := hE.seen (by omega) (by omega) hns hi
    subst eL
    refine eCall.lend [c + 3] hse (by simp) (by simp) (by simp) ?_
    simp -dsimp -implicitDefEqProofs [hpl2]
end Go.Proofs.YtglhjjokijdagaaGreat.Sh

