/- A part of the proof: R24, R118, R120, R121, R122 -/
import Derived.Test.YtglhjjokijdagaaGreatL22
set_option linter.unusedSimpArgs false
set_option linter.unusedVariables false
set_option linter.unusedSectionVars false
/- law14.fixed. -/
namespace Go.Proofs.YtglhjjokijdagaaGreat.Sh
open Go Go.RowKit

def fixG : List (List FR) := [[frQ 1, frQ (-1)], [frQ 0, frQ 1]]
theorem fix_out : outF 2 fixG 2 = [[frQ (1 / 2), frQ (1 / 2)], [frQ (3 / 4), frQ (1 / 4)]] := by
  have h0 : chanceW (wAt 2 fixG 0) = [1 / 2, 1 / 2] := by decide +kernel
  have h1 : chanceW (wAt 2 fixG 1) = [3 / 4, 1 / 4] := by decide +kernel
  show [(chanceW (wAt 2 fixG 0)).map frQ, (chanceW (wAt 2 fixG 1)).map frQ] = _
  rw [h0, h1]; rfl
theorem fix_win : win [3, 5, 5] = (1, 5) := by decide +kernel
theorem fix_ok {q : Rat} (h : mz q ≤ 1) : (frQ q).ok ∧ (frQ q).fix = q := ⟨ok_mz (by omega), fix_mz (by omega)⟩
theorem mzs : mz 3 = 1 ∧ mz 5 = 1 ∧ mz 0 = 1 ∧ mz 1 = 1 ∧ mz (-1) = 1 ∧ mz (3 / 4) = 1 := by decide +kernel
theorem three_four : (((3 : Int) : Rat) / ((4 : Int) : Rat)) = 3 / 4 := by decide +kernel

theorem fix_gains : isGains fixG 0 := by
  obtain ⟨m3, m5, m0, m1, mn, m34⟩ := mzs
  have f0 := (fix_ok (q := 0) (by omega)).2
  have f1 := (fix_ok (q := 1) (by omega)).2
  have fn := (fix_ok (q := -1) (by omega)).2
  have g0 : goodX (frQ 0) := by unfold goodX; rw [f0]; exact ⟨by decide, by decide⟩
  have g1 : goodX (frQ 1) := by unfold goodX; rw [f1]; exact ⟨by decide, by decide⟩
  have gn : goodX (frQ (-1)) := by unfold goodX; rw [fn]; exact ⟨by decide, by decide⟩
  refine Or.inr (Or.inr (Or.inr ⟨by decide, fun l hl => ?_, fun l hl => ?_, rfl⟩))
  · simp [fixG] at hl; rcases hl with rfl | rfl <;> simp
  · simp [fixG] at hl
    rcases hl with rfl | rfl
    · refine ⟨by simp, rfl, fun f hf => ?_⟩
      simp at hf; rcases hf with rfl | rfl
      · exact g1
      · exact gn
    · refine ⟨by simp, rfl, fun f hf => ?_⟩
      simp at hf; rcases hf with rfl | rfl
      · exact g0
      · exact g1

set_option maxRecDepth 20000 in
theorem fixed_s : CallsS Tryz.prog 12 [] (B true) := by
  obtain ⟨m3, m5, m0, m1, mn, m34⟩ := mzs
  have i3 := intR_s 3 (by decide) (by decide)
  have i5 := intR_s 5 (by decide) (by decide)
  have i1 := intR_s 1 (by decide) (by decide)
  have in1 := intR_s (-1) (by decide) (by decide)
  have i0 := intR_s 0 (by decide) (by decide)
  rw [show (((3 : Int) : Rat)) = 3 from rfl, ← frS_frQ] at i3
  rw [show (((5 : Int) : Rat)) = 5 from rfl, ← frS_frQ] at i5
  rw [show (((1 : Int) : Rat)) = 1 from rfl, ← frS_frQ] at i1
  rw [show (((-1 : Int) : Rat)) = -1 by decide +kernel, ← frS_frQ] at in1
  rw [show (((0 : Int) : Rat)) = 0 from rfl, ← frS_frQ] at i0
  have mk := makeR_s 3 4 (by decide) (by decide) (by decide) (by decide) (by decide)
  rw [three_four, ← frS_frQ] at mk
  obtain ⟨k3, f3⟩ := fix_ok (q := 3) (by omega)
  obtain ⟨k5, f5⟩ := fix_ok (q := 5) (by omega)
  obtain ⟨k1, f1⟩ := fix_ok (q := 1) (by omega)
  obtain ⟨kn, fn⟩ := fix_ok (q := -1) (by omega)
  obtain ⟨k0, f0⟩ := fix_ok (q := 0) (by omega)
  obtain ⟨k34, f34⟩ := fix_ok (q := 3 / 4) (by omega)
  have hs := secondC_s [frQ 3, frQ 5, frQ 5] (by intro f hf; simp at hf; rcases hf with rfl | rfl; exact k3; exact k5) (by decide)
  rw [show [frQ 3, frQ 5, frQ 5].map FR.fix = [3, 5, 5] by simp [f3, f5], fix_win, ← frS_frQ] at hs
  have hgo : ∀ l ∈ fixG, ∀ f ∈ l, f.ok ∧ mz f.fix ≤ 1 := by
    intro l hl f hf
    simp [fixG] at hl
    rcases hl with rfl | rfl <;> simp at hf <;> rcases hf with rfl | rfl
    · exact ⟨k1, by rw [f1]; omega⟩
    · exact ⟨kn, by rw [fn]; omega⟩
    · exact ⟨k0, by rw [f0]; omega⟩
    · exact ⟨k1, by rw [f1]; omega⟩
  have hw := weighC_s fixG (fun l hl f hf => (hgo l hl f hf).1) (by decide) (by intro l hl; simp [fixG] at hl; rcases hl with rfl | rfl <;> simp) (fun l hl f hf => (hgo l hl f hf).2) 0 fix_gains
  rw [if_pos ⟨rfl, by simp [fixG]⟩, show picks fixG = 2 from rfl, show fixG.length = 2 from rfl, fix_out] at hw
  have s1 := sameR_s (frQ 5) (frQ 5) k5 k5
  have s2 := sameR_s (frQ (3 / 4)) (frQ (3 / 4)) k34 k34
  rw [decide_eq_true rfl] at s1 s2
  unfold fixG at hw
  generalize frQ 3 = A3 at *
  generalize frQ 5 = A5 at *
  generalize frQ 1 = A1 at *
  generalize frQ (-1) = AN at *
  generalize frQ 0 = A0 at *
  generalize frQ (3 / 4) = A34 at *
  generalize frQ (1 / 2) = A12 at *
  generalize frQ (1 / 4) = A14 at *
  refine calls Tryz.func12 rfl (by rfl) (by rfl) (by kernel_rfl) ?_
  simp -dsimp -implicitDefEqProofs [Tryz.f12]
  refine eCall.of i3 (by simp) ?_
  simp -dsimp -implicitDefEqProofs
  refine eCall.of i5 (by simp) ?_
  simp -dsimp -implicitDefEqProofs
  refine eCall.of i5 (by simp) ?_
  simp -dsimp -implicitDefEqProofs [slots]
  refine eCall.of mk (by simp) ?_
  simp -dsimp -implicitDefEqProofs [slots, rowsOf, List.range, List.range.loop]
  refine eCall.of hs (by simp [rowsOf, List.range, List.range.loop]) ?_
  simp -dsimp -implicitDefEqProofs [slots]
  refine eCall.of i1 (by simp) ?_
  simp -dsimp -implicitDefEqProofs [slots]
  refine eCall.of in1 (by simp) ?_
  simp -dsimp -implicitDefEqProofs [slots]
  refine eCall.of i0 (by simp) ?_
  simp -dsimp -implicitDefEqProofs [slots]
  refine eCall.of i1 (by simp) ?_
  simp -dsimp -implicitDefEqProofs [slots, rowsOf, List.range, List.range.loop]
  refine eCall.of hw (by simp [rowsOf, List.range, List.range.loop]) ?_
  simp -dsimp -implicitDefEqProofs [slots]
  refine eCall.of i5 (by simp) ?_
  simp -dsimp -implicitDefEqProofs
  refine eCall.of s1 (by simp) ?_
  simp -dsimp -implicitDefEqProofs
  refine eCall.of s2 (by simp) ?_
  simp -dsimp -implicitDefEqProofs
end Go.Proofs.YtglhjjokijdagaaGreat.Sh

/- The walk of CrowdNone. -/
namespace Go.Proofs.YtglhjjokijdagaaGreat.Sh
open Go Go.RowKit

set_option maxRecDepth 20000 in
theorem bey14_s (g : Gm) (r : List Ce) (hg : g.ok) (hl : lenOk r) (hr : ∀ c ∈ r, c.ok) : CallsS Tryz.prog 7 [gmS g, ruS r] (B (far g || beyondRule r)) := by
  refine calls Tryz.func7 rfl (by rfl) (by rfl) (by kernel_rfl) ?_
  simp -dsimp -implicitDefEqProofs [Tryz.f7]
  refine eCall.of (far_s g hg) (by simp) ?_
  cases h1 : far g with
  | true => simp -dsimp -implicitDefEqProofs
  | false =>
    simp -dsimp -implicitDefEqProofs
    refine eCall.of (beyondRule_s r hl hr) (by simp) ?_
    simp -dsimp -implicitDefEqProofs

def WideL (l : List (List Int)) : Prop := 100 < l.length ∨ ∃ p ∈ l, 100 < p.length
theorem WideL.no {l : List (List Int)} (h : ¬ WideL l) : l.length ≤ 100 ∧ ∀ p ∈ l, p.length ≤ 100 :=
  ⟨Nat.not_lt.1 fun hh => h (.inl hh), fun p hp => Nat.not_lt.1 fun hh => h (.inr ⟨p, hp, hh⟩)⟩

set_option maxRecDepth 20000 in
theorem wide14_s (l : List (List Int)) (hl : l.length ≤ 140737488355328) (hp : ∀ p ∈ l, p.length ≤ 140737488355328) (b : Bool) (hb : b = true ↔ WideL l) : CallsS Tryz.prog 8 [.one (profsS l)] (B b) := by
  refine calls Tryz.func8 rfl (by rfl) (by rfl) (by kernel_rfl) ?_
  simp -dsimp -implicitDefEqProofs [Tryz.f8]
  by_cases c1 : 100 < l.length
  · have c1' : (100 : Int) < (l.length : Int) := by omega
    have c1n : ¬ (l.length : Int) ≤ 100 := by omega
    have hb' := hb.2 (.inl c1)
    simp -dsimp -implicitDefEqProofs [c1, c1', c1n, hb']
  have c1' : (l.length : Int) ≤ 100 := by omega
  have c1n := eq_false (show ¬ (100 : Int) < (l.length : Int) by omega)
  simp -dsimp -implicitDefEqProofs [c1, c1', c1n]
  refine sw_loop_e (fun q : {q : Nat // q ≤ l.length ∧ ∀ i (hi : i < q) (hl : i < l.length), l[i].length ≤ 100} => SS.of [(0, .v (.one (profsS l))), (3, I .i64 q.1)] [] 0)
    (fun q => l.length - q.1) ⟨0, Nat.zero_le _, fun i hi => absurd hi (by omega)⟩ (by kernel_rfl) (Le.to (by simp) (by simp) (by simp)) ?_
  rintro ⟨i, hi, hq⟩
  by_cases a1 : i < l.length
  · have wi : IntKind.i64.wrap ((i : Int) + 1) = ((i + 1 : Nat) : Int) := by rw [wrap_i64 _ (by omega) (by omega)]; rfl
    by_cases c2 : 100 < l[i].length
    · have c2' : (100 : Int) < (l[i].length : Int) := by omega
      have c2n : ¬ (l[i].length : Int) ≤ 100 := by omega
      have hb' := hb.2 (.inr ⟨_, List.getElem_mem a1, c2⟩)
      simp -dsimp -implicitDefEqProofs [a1, c2, c2', c2n, hb']
    · have c2' : (l[i].length : Int) ≤ 100 := by omega
      have c2n := eq_false (show ¬ (100 : Int) < (l[i].length : Int) by omega)
      simp -dsimp -implicitDefEqProofs [a1, c2, c2', c2n]
      refine Again.by ⟨i + 1, a1, fun j hj hl => ?_⟩ (Le.to (by simp [wi]) (by simp) (by simp)) (by simp; omega)
      by_cases e : j = i
      · subst e; omega
      · exact hq j (by omega) hl
  have hi2 : i = l.length := by omega
  subst hi2
  have hb' := nf hb (fun hh => by
    rcases hh with hh | ⟨p, hp, hh⟩
    · exact c1 hh
    · obtain ⟨j, hj, rfl⟩ := List.getElem_of_mem hp
      have := hq j hj hj
      omega)
  simp -dsimp -implicitDefEqProofs [hb']

/-- Truthful of any rule: the lie is not told. -/
theorem truth_any (g : Gm) (r : List Ce) (hs : Seen g r) (hf : far g = false) : ∃ (ok n : Bool) (x y z : Int) (P X Y : List (List S1)), CallsS Tryz.prog 10 [gmS g, ruS r] (.tup [.agg [.int .i64 x, .int .i64 y, .int .i64 z, .sl true 1 P, .bool n, .sl true 1 X, .sl true 1 Y], .one (.bool ok)]) ∧ (ok = true → ∀ a, a < g.agents.length → NoA g r a) := by
  by_cases hg : Good g r
  · obtain ⟨l, ok, h⟩ := isTr_of (g := g) (r := r)
    exact ⟨ok, _, _, _, _, _, _, _, (rtruth_s g r ⟨hs, hf, hg⟩ l ok h), h.iff.1⟩
  · exact ⟨false, false, 0, 0, 0, [], [], [], (rtruthNo_s g r hs hg).res (by simp), fun h => by cases h⟩

@[simp] def rowLog (T S : List (List Int)) (a : Int) : List S1 := [profsS T, profsS S, .int .i64 a]
def idL (n : Nat) : List Int := (List.range n).map fun (k : Nat) => (k : Int)
theorem idL_len (n : Nat) : (idL n).length = n := by simp [idL]
theorem idL_snoc (n : Nat) : idL (n + 1) = idL n ++ [(n : Int)] := by simp [idL, List.range_succ]
theorem idL_get {n k : Nat} (h : k < n) : (idL n)[k]? = some (k : Int) := by simp [idL, h]
theorem TabOk.get {g : Gm} {a : Nat} {tb : List Int} (h : TabOk g a tb) : ∀ k, k < kl g a → ((tb[k]?).getD 0).toNat < kl g a ∧ tb[k]? = some (((tb[k]?).getD 0).toNat : Int) := fun k hk => by
  obtain ⟨t, e1, e2⟩ := h.2 k hk
  rw [e1, Option.getD_some, Int.toNat_natCast]
  exact ⟨e2, rfl⟩
end Go.Proofs.YtglhjjokijdagaaGreat.Sh

/- A crowd: what each has in all, as a result that is written; the reference's Regret. -/
namespace Go.Proofs.YtglhjjokijdagaaGreat.Sh
open Go Go.RowKit

set_option maxRecDepth 20000 in
set_option maxHeartbeats 1000000 in
theorem usesX_s {g : Gm} {r : List Ce} (hP : Play g r) (six : ∀ c ∈ r, CeSix c) {T S : List (List Int)} (hL : LogR g T S) :
    CallsX Tryz.prog 41 [siS g r, .one (profsS T), .one (profsS S)] [] (.v (.one (.ms 0 0 g.agents.length 3 true))) [some ⟨40, flat rowFr (usesC g r (T.zip S) g.agents.length)⟩] := by
  have hs := hL.small
  have hle := hL.len
  have hz := hL.zl
  have hag := (sizeOk_all hP.fine.sz).1
  have ha0 : 0 < g.agents.length := List.length_pos_iff.2 hP.good.2.1.ag
  refine callsX Tryz.func41 rfl (by rfl) (by rfl) (by kernel_rfl) (by simp) ?_
  simp -dsimp -implicitDefEqProofs [Tryz.f41]
  refine sw_loop_e (fun p : {p : Nat × Nat // p.1 ≤ g.agents.length} => SS.of [(1, .v (.one (profsS T))), (2, .v (.one (profsS S))), (3, .v (.one (.mp 0 0))), (7, if p.1.1 = 0 then .v (.one .nils) else .v (.one (.ms (p.1.2 + 1) 0 p.1.1 3 true))), (15, I .i64 g.agents.length), (16, I .i64 p.1.1)] ((0, ⟨87, rowSi g r⟩) :: if p.1.1 = 0 then [] else [(p.1.2 + 1, ⟨40, flat rowFr (usesC g r (T.zip S) p.1.1)⟩)]) (p.1.2 + 2))
    (fun p => g.agents.length - p.1.1) ⟨(0, 0), Nat.zero_le _⟩ (by kernel_rfl) (Le.to (by simp) (by simp) (by simp)) ?_
  rintro ⟨⟨a, c⟩, hi⟩
  simp only at hi
  by_cases a1 : a < g.agents.length
  · have wa : IntKind.i64.wrap ((a : Int) + 1) = ((a + 1 : Nat) : Int) := by rw [wrap_i64 _ (by omega) (by omega)]; rfl
    have h : Sit g r a := ⟨hP, six, a1⟩
    have hfl := flat_snoc (f := rowFr) (frQ (hadQ g r a (T.zip S))) (usesC g r (T.zip S) a)
    rw [← usesC_snoc] at hfl
    have hul := usesC_len g r (T.zip S) a
    have hp : ∀ j, LogP g ((T.zip S).take j) := fun j x hx => hL.p x (mem_take hx)
    simp -dsimp -implicitDefEqProofs [a1]
    refine eCall.of czero_s (by simp) ?_
    simp -dsimp -implicitDefEqProofs
    refine sw_loop_e (fun q : {q : Nat // q ≤ T.length} => SS.of [(1, .v (.one (profsS T))), (2, .v (.one (profsS S))), (3, .v (.one (.mp 0 0))), (7, if a = 0 then .v (.one .nils) else .v (.one (.ms (c + 1) 0 a 3 true))), (8, I .i64 a), (9, .v (.one (.mp (c + 2) 0))), (15, I .i64 g.agents.length), (16, I .i64 a), (20, .v (.one (profsS S))), (21, I .i64 T.length), (22, I .i64 q.1)] ((0, ⟨87, rowSi g r⟩) :: (c + 2, ⟨40, rowFr (frQ (hadQ g r a ((T.zip S).take q.1)))⟩) :: if a = 0 then [] else [(c + 1, ⟨40, flat rowFr (usesC g r (T.zip S) a)⟩)]) (c + 3))
      (fun q => T.length - q.1) ⟨0, Nat.zero_le _⟩ (by kernel_rfl) (Le.to (by simp [hle, st_self]) (by split <;> simp [*, hadQ, sumQ, frQ, ng]) (by simp)) ?_
    rintro ⟨i, hi'⟩
    by_cases b1 : i < T.length
    · have wi : IntKind.i64.wrap ((i : Int) + 1) = ((i + 1 : Nat) : Int) := by rw [wrap_i64 _ (by omega) (by omega)]; rfl
      have b2 : i < S.length := by omega
      have b3 : i < (T.zip S).length := by omega
      have hx := List.getElem_mem b3
      have hg3 := zip_get b1 b2 b3
      have p1 := hL.t _ (List.getElem_mem b1)
      have p2 := hL.s _ (List.getElem_mem b2)
      obtain ⟨k1, k2⟩ := h.knd hL.p _ hx
      obtain ⟨t, t1, t2, t3⟩ := h.own hL.p _ hx
      rw [hg3] at k1 k2 t1 t3
      have l1 : a < T[i].length := by have := p1.1; omega
      have l2 : a < S[i].length := by have := p2.1; omega
      rw [List.getElem?_eq_getElem l1] at k2
      have k3 := Option.some.inj k2
      try simp only at k3 t1 t3
      have hself := h.self p2
      rw [show (S[i][a]?).getD 0 = (t : Int) by rw [t3]; rfl] at hself
      have hw := h.worth p2 k1 t2
      rw [hself] at hw
      have o1 := h.sz (i := 11) (by omega) (h.had_over (hp i) (by rw [List.length_take]; omega))
      have o2 := h.sz (i := 10) (by omega) (h.over p2 (t := (t : Int)) (by omega) (by omega) k1)
      have o3 := h.sz (i := 11) (by omega) (h.had_over (hp (i + 1)) (by rw [List.length_take]; omega))
      have hst : hadQ g r a ((T.zip S).take (i + 1)) = hadQ g r a ((T.zip S).take i) + useP g r a (knd a (T[i], S[i])) S[i] t := by
        unfold hadQ; rw [take_snoc_map _ _ _ b3, sumQ_snoc, hg3, t1]
      have had := fadd_s (frQ (hadQ g r a ((T.zip S).take i))) (frQ (useP g r a (knd a (T[i], S[i])) S[i] t)) (frQ_ok (by omega)) (frQ_ok (by omega))
      rw [fix_frQ o1, fix_frQ o2, ← hst, cap_of o3] at had
      have hwo := rworth_s g r hP.seen hP.far a (knd a (T[i], S[i]) : Nat) S[i] (by have := p2.1; omega) _ hw
      have b2' : i < T.length := b1
      simp -dsimp -implicitDefEqProofs [b1, b2, l1, k3]
      refine eCall.of hwo (by simp) ?_
      simp -dsimp -implicitDefEqProofs
      refine eCall.of had (by simp [frQ, ng]) ?_
      simp -dsimp -implicitDefEqProofs
      exact Again.by ⟨i + 1, b1⟩ (Le.to (by simp [wi, st_self]) (by split <;> simp [*, frQ, ng]) (by simp)) (by simp; omega)
    have hi2 : i = T.length := by omega
    subst hi2
    have htk : (T.zip S).take T.length = T.zip S := List.take_of_length_le (by omega)
    by_cases a0 : a = 0
    · have hif : ∀ {α : Type} (x y : α), (if a = 0 then x else y) = x := fun x y => if_pos a0
      have hte : usesC g r (T.zip S) a = [] := by rw [a0]; rfl
      rw [hte, flat_nil, List.nil_append] at hfl
      simp -dsimp -implicitDefEqProofs [hif, slots, htk]
      exact Again.by ⟨(a + 1, c + 3), a1⟩ (Le.to (by simp [wa, a0, i64_1]) (by simp [hfl, frQ, ng]) (by simp)) (by simp; omega)
    · have hif : ∀ {α : Type} (x y : α), (if a = 0 then x else y) = y := fun x y => if_neg a0
      simp -dsimp -implicitDefEqProofs [hif, slots, hul, htk]
      refine ⟨⟨by omega, by omega⟩, ?_⟩
      exact Again.by ⟨(a + 1, c + 3), a1⟩ (Le.to (by simp [wa]) (by simp [hfl, frQ, ng]) (by simp)) (by simp; omega)
  have ha2 : a = g.agents.length := by omega
  subst ha2
  have hne : ¬ g.agents = [] := List.length_pos_iff.1 ha0
  have hul := usesC_len g r (T.zip S) g.agents.length
  simp -dsimp -implicitDefEqProofs [hne, hul]
  exact RetX.by [] [c + 1] (by simp) (by simp [hne]) (by simp [hne]) (by simp [hne])

theorem tabL_get (g : Gm) (r : List Ce) (a : Nat) (L : Log) {n k : Nat} (h : k < n) : (tabL g r a L n)[k]? = some (tabQ g r a L k : Int) := by simp [tabL, h]

set_option maxRecDepth 20000 in
theorem regretR_no (g : Gm) (r : List Ce) (hs : Seen g r) (hf : far g = false) (T S : List (List Int)) (hT : T.length ≤ 1048576) (hS : S.length ≤ 1048576) (hpT : ∀ p ∈ T, p.length ≤ 1048576) (hpS : ∀ p ∈ S, p.length ≤ 1048576) (a e : Int) (he : isLog g r T S e) (h0 : ¬ e = 0) :
    CallsS Tryz.prog 28 [gmS g, ruS r, .one (profsS T), .one (profsS S), .one (.int .i64 a)] (.tup [.one (intsS []), .agg [.bool false, .nils, .nils], .one (.int .i64 e)]) := by
  refine calls Tryz.func28 rfl (by rfl) (by rfl) (by kernel_rfl) ?_
  simp -dsimp -implicitDefEqProofs [Tryz.f28]
  refine eCall.of (rlogged_s g r hs hf T S hT hS hpT hpS e he) (by simp) ?_
  simp -dsimp -implicitDefEqProofs [h0]

set_option maxRecDepth 20000 in
theorem regretR_out (g : Gm) (r : List Ce) (hP : Play g r) {T S : List (List Int)} (hL : LogR g T S) (hpT : ∀ p ∈ T, p.length ≤ 1048576) (hpS : ∀ p ∈ S, p.length ≤ 1048576) (a : Int) (ha : ¬ (0 ≤ a ∧ a < (g.agents.length : Int))) :
    CallsS Tryz.prog 28 [gmS g, ruS r, .one (profsS T), .one (profsS S), .one (.int .i64 a)] (.tup [.one (intsS []), .agg [.bool false, .nils, .nils], .one (.int .i64 140)]) := by
  have hs := hL.small
  have hle := hL.len
  refine calls Tryz.func28 rfl (by rfl) (by rfl) (by kernel_rfl) ?_
  simp -dsimp -implicitDefEqProofs [Tryz.f28]
  refine eCall.of (rlogged_s g r hP.seen hP.far T S (by omega) (by omega) hpT hpS 0 (.inr (.inr (.inr ⟨hP.good, hL, rfl⟩)))) (by simp) ?_
  by_cases c1 : a < 0
  · simp -dsimp -implicitDefEqProofs [c1]
  · have c2 : (g.agents.length : Int) ≤ a := by omega
    simp -dsimp -implicitDefEqProofs [c1, c2]

set_option maxRecDepth 20000 in
set_option maxHeartbeats 4000000 in
theorem regretR_s {g : Gm} {r : List Ce} {a : Nat} (h : Sit g r a) {T S : List (List Int)} (hL : LogR g T S) :
    CallsS Tryz.prog 28 [gmS g, ruS r, .one (profsS T), .one (profsS S), .one (.int .i64 (a : Int))] (.tup [.one (intsS (tabL g r a (T.zip S) (kl g a))), fS (byQ g r a (tabQ g r a (T.zip S)) (T.zip S) - hadQ g r a (T.zip S)), .one (.int .i64 0)]) := by
  have hP := h.play
  have hs := hL.small
  have hle := hL.len
  have hz := hL.zl
  have ha := h.ha
  have hkl := h.kl
  have hag := (sizeOk_all hP.fine.sz).1
  have hpl : ∀ p, isProf g p → p.length ≤ 1048576 := fun p hp => by have := hp.1; omega
  have hne : ¬ g.agents.length ≤ a := by have := h.ha; omega
  have hk4 := h.kle
  have hlo := rlogged_s g r hP.seen hP.far T S (by omega) (by omega) (fun p hp => hpl p (hL.t p hp)) (fun p hp => hpl p (hL.s p hp)) 0 (.inr (.inr (.inr ⟨hP.good, hL, rfl⟩)))
  have hk0 : ¬ kl g a = 0 := by
    have hh := hP.fine.kinds_pos _ (List.getElem_mem h.ha)
    omega
  refine calls Tryz.func28 rfl (by rfl) (by rfl) (by kernel_rfl) ?_
  simp -dsimp -implicitDefEqProofs [Tryz.f28]
  refine eCall.of hlo (by simp) ?_
  simp -dsimp -implicitDefEqProofs [hne]
  obtain ⟨TB, hTB⟩ : ∃ TB, TB = tabL g r a (T.zip S) := ⟨_, rfl⟩
  have tbl : ∀ n, (TB n).length = n := fun n => by rw [hTB]; exact tabL_len ..
  have tb0 : TB 0 = [] := by rw [hTB]; rfl
  have tbs : ∀ n, TB (n + 1) = TB n ++ [(tabQ g r a (T.zip S) n : Int)] := fun n => by rw [hTB]; exact tabL_snoc ..
  have hby := by14_s h hL (TB (kl g a)) (tabQ g r a (T.zip S)) (fun k hk => ⟨(h.tab hk).lt, by rw [hTB]; exact tabL_get _ _ _ _ hk⟩)
  rw [← hTB]
  refine sw_cut (fun c : Nat => SS.of [(2, .v (.one (profsS T))), (3, .v (.one (profsS S))), (4, I .i64 a), (5, .v (.one (.mp 0 0))), (6, .v (.one (.mp 1 0))), (11, .v (.one (.mp 2 0))), (14, .v (.one (intsS (TB (kl g a)))))] [(0, ⟨26, rowGm g⟩), (1, ⟨29, [cesS r]⟩), (2, ⟨40, [.bool false, .nils, .nils]⟩)] (c + 5)) ?_ ?_
  · refine sw_loop_e (fun p : {p : Nat × Nat // p.1 ≤ kl g a} => SS.of [(2, .v (.one (profsS T))), (3, .v (.one (profsS S))), (4, I .i64 a), (5, .v (.one (.mp 0 0))), (6, .v (.one (.mp 1 0))), (11, .v (.one (.mp 2 0))), (14, if p.1.1 = 0 then .v (.one .nils) else .v (.one (.ms (p.1.2 + 4) 0 p.1.1 1 true))), (15, I .i64 p.1.1)] ((0, ⟨26, rowGm g⟩) :: (1, ⟨29, [cesS r]⟩) :: (2, ⟨40, [.bool false, .nils, .nils]⟩) :: if p.1.1 = 0 then [] else [(p.1.2 + 4, ⟨3, flat rowInt (TB p.1.1)⟩)]) (p.1.2 + 5))
      (fun p => kl g a - p.1.1) ⟨(0, 0), Nat.zero_le _⟩ (by kernel_rfl) (Le.to (by simp) (by simp) (by simp)) ?_
    rintro ⟨⟨k, c⟩, hi⟩
    simp only at hi
    by_cases a1 : k < kl g a
    · have wk : IntKind.i64.wrap ((k : Int) + 1) = ((k + 1 : Nat) : Int) := by rw [wrap_i64 _ (by omega) (by omega)]; rfl
      have a2 : k < g.agents[a].kinds.length := by omega
      have hfl := flat_snoc (f := rowInt) (tabQ g r a (T.zip S) k : Int) (TB k)
      rw [← tbs] at hfl
      have hul := tbl k
      simp -dsimp -implicitDefEqProofs [ha, a2]
      refine sw_loop_e (fun q : {q : Nat × Nat × Nat // q.1 ≤ T.length ∧ (rnds a k ((T.zip S).take q.1)).length = q.2.2} => SS.of [(2, .v (.one (profsS T))), (3, .v (.one (profsS S))), (4, I .i64 a), (5, .v (.one (.mp 0 0))), (6, .v (.one (.mp 1 0))), (11, .v (.one (.mp 2 0))), (14, if k = 0 then .v (.one .nils) else .v (.one (.ms (c + 4) 0 k 1 true))), (15, I .i64 k), (16, if q.1.2.2 = 0 then .v (.one .nils) else .v (.one (.ms (c + q.1.2.1 + 5) 0 q.1.2.2 1 true))), (17, I .i64 q.1.1)] ((0, ⟨26, rowGm g⟩) :: (1, ⟨29, [cesS r]⟩) :: (2, ⟨40, [.bool false, .nils, .nils]⟩) :: ((if k = 0 then [] else [(c + 4, ⟨3, flat rowInt (TB k)⟩)]) ++ if q.1.2.2 = 0 then [] else [(c + q.1.2.1 + 5, ⟨33, flat rowProf (rnds a k ((T.zip S).take q.1.1))⟩)])) (c + q.1.2.1 + 6))
        (fun q => T.length - q.1.1) ⟨(0, 0, 0), Nat.zero_le _, rfl⟩ (by kernel_rfl) (Le.to (by simp [st_self]) (by split <;> simp [*]) (by simp)) ?_
      rintro ⟨⟨i, d, m⟩, hi', hm⟩
      simp only at hi' hm
      have f1 : ¬ c + d + 1 = c := by omega
      have f2 : ¬ c = c + d + 1 := by omega
      have f3 : ¬ c + d + 2 = c := by omega
      have f4 : ¬ c = c + d + 2 := by omega
      have f5 : ¬ c + d + 3 = c := by omega
      have f6 : ¬ c = c + d + 3 := by omega
      have f7 : c + (d + 2) = c + d + 2 := by omega
      have f8 : ¬ c + d + 4 = c := by omega
      have f9 : ¬ c = c + d + 4 := by omega
      by_cases b1 : i < T.length
      · have wi : IntKind.i64.wrap ((i : Int) + 1) = ((i + 1 : Nat) : Int) := by rw [wrap_i64 _ (by omega) (by omega)]; rfl
        have b2 : i < S.length := by omega
        have b3 : i < (T.zip S).length := by omega
        have hx := List.getElem_mem b3
        have hg3 := zip_get b1 b2 b3
        have p1 := hL.t _ (List.getElem_mem b1)
        have p2 := hL.s _ (List.getElem_mem b2)
        obtain ⟨k1, k2⟩ := h.knd hL.p _ hx
        have hrt := rnds_take a k (T.zip S) i b3
        rw [hg3] at k1 k2 hrt
        have l1 : a < T[i].length := by have := p1.1; have := h.ha; omega
        rw [List.getElem?_eq_getElem l1] at k2
        have k3 := Option.some.inj k2
        try simp only at k3 hrt
        by_cases b4 : knd a (T[i], S[i]) = k
        · rw [if_pos b4] at hrt
          have hrl : (rnds a k ((T.zip S).take (i + 1))).length = m + 1 := by rw [hrt, List.length_append, hm]; rfl
          have hfr := flat_snoc (f := rowProf) S[i] (rnds a k ((T.zip S).take i))
          rw [← hrt] at hfr
          have hml : m ≤ 60 := by have := rnds_le a k ((T.zip S).take i); rw [List.length_take] at this; omega
          rw [b4] at k3
          by_cases k0 : k = 0
          · have hifk : ∀ {α : Type} (x y : α), (if k = 0 then x else y) = x := fun x y => if_pos k0
            have htk : TB k = [] := by rw [k0]; exact tb0
            try rw [htk, flat_nil, List.nil_append] at hfl
            by_cases m0 : m = 0
            · have hifm : ∀ {α : Type} (x y : α), (if m = 0 then x else y) = x := fun x y => if_pos m0
              have hte : rnds a k ((T.zip S).take i) = [] := List.length_eq_zero_iff.1 (by rw [hm, m0])
              try rw [hte, flat_nil, List.nil_append] at hfr
              simp -dsimp -implicitDefEqProofs [b1, b2, l1, k3, hifk, hifm, slots, hm, f1, f2, f3, f4, f5, f6]
              exact Again.by ⟨(i + 1, d + 2, m + 1), b1, hrl⟩ (Le.to (by simp [wi, i64_1, hifk, m0, f1, f2, f3, f4, f5, f6, f7, st_self]) (by simp [hifk, hfr, f1, f2, f3, f4, f5, f6, f7, hte]) (by simp; omega)) (by simp; omega)
            · have hifm : ∀ {α : Type} (x y : α), (if m = 0 then x else y) = y := fun x y => if_neg m0
              simp -dsimp -implicitDefEqProofs [b1, b2, l1, k3, hifk, hifm, slots, hm, f1, f2, f3, f4, f5, f6]
              refine ⟨⟨by omega, by omega⟩, ?_⟩
              exact Again.by ⟨(i + 1, d + 2, m + 1), b1, hrl⟩ (Le.to (by simp [wi, i64_1, hifk, hm, f1, f2, f3, f4, f5, f6, f7, st_self]) (by simp [hifk, hfr, f1, f2, f3, f4, f5, f6, f7]) (by simp; omega)) (by simp; omega)
          · have hifk : ∀ {α : Type} (x y : α), (if k = 0 then x else y) = y := fun x y => if_neg k0
            by_cases m0 : m = 0
            · have hifm : ∀ {α : Type} (x y : α), (if m = 0 then x else y) = x := fun x y => if_pos m0
              have hte : rnds a k ((T.zip S).take i) = [] := List.length_eq_zero_iff.1 (by rw [hm, m0])
              try rw [hte, flat_nil, List.nil_append] at hfr
              simp -dsimp -implicitDefEqProofs [b1, b2, l1, k3, hifk, hifm, slots, hm, f1, f2, f3, f4, f5, f6]
              exact Again.by ⟨(i + 1, d + 2, m + 1), b1, hrl⟩ (Le.to (by simp [wi, i64_1, hifk, m0, f1, f2, f3, f4, f5, f6, f7, st_self]) (by simp [hifk, hfr, f1, f2, f3, f4, f5, f6, f7, hte]) (by simp; omega)) (by simp; omega)
            · have hifm : ∀ {α : Type} (x y : α), (if m = 0 then x else y) = y := fun x y => if_neg m0
              simp -dsimp -implicitDefEqProofs [b1, b2, l1, k3, hifk, hifm, slots, hm, f1, f2, f3, f4, f5, f6]
              refine ⟨⟨by omega, by omega⟩, ?_⟩
              exact Again.by ⟨(i + 1, d + 2, m + 1), b1, hrl⟩ (Le.to (by simp [wi, i64_1, hifk, hm, f1, f2, f3, f4, f5, f6, f7, st_self]) (by simp [hifk, hfr, f1, f2, f3, f4, f5, f6, f7]) (by simp; omega)) (by simp; omega)
        · rw [if_neg b4, List.append_nil] at hrt
          have hrl : (rnds a k ((T.zip S).take (i + 1))).length = m := by rw [hrt, hm]
          have k4 : ¬ (knd a (T[i], S[i]) : Int) = (k : Int) := by omega
          by_cases k0 : k = 0
          · have hifk : ∀ {α : Type} (x y : α), (if k = 0 then x else y) = x := fun x y => if_pos k0
            have htk : TB k = [] := by rw [k0]; exact tb0
            try rw [htk, flat_nil, List.nil_append] at hfl
            by_cases m0 : m = 0
            · have hifm : ∀ {α : Type} (x y : α), (if m = 0 then x else y) = x := fun x y => if_pos m0
              have hte : rnds a k ((T.zip S).take i) = [] := List.length_eq_zero_iff.1 (by rw [hm, m0])
              try rw [hte, flat_nil, List.nil_append] at hfr
              simp -dsimp -implicitDefEqProofs [b1, b2, l1, k3, k4, hifk, hifm, f1, f2, f3, f4, f5, f6]
              exact Again.by ⟨(i + 1, d, m), b1, hrl⟩ (Le.to (by simp [wi, hifk, hifm, st_self]) (by simp [hifk, hifm, hrt, f1, f2]) (by simp)) (by simp; omega)
            · have hifm : ∀ {α : Type} (x y : α), (if m = 0 then x else y) = y := fun x y => if_neg m0
              simp -dsimp -implicitDefEqProofs [b1, b2, l1, k3, k4, hifk, hifm, f1, f2, f3, f4, f5, f6]
              exact Again.by ⟨(i + 1, d, m), b1, hrl⟩ (Le.to (by simp [wi, hifk, hifm, st_self]) (by simp [hifk, hifm, hrt, f1, f2]) (by simp)) (by simp; omega)
          · have hifk : ∀ {α : Type} (x y : α), (if k = 0 then x else y) = y := fun x y => if_neg k0
            by_cases m0 : m = 0
            · have hifm : ∀ {α : Type} (x y : α), (if m = 0 then x else y) = x := fun x y => if_pos m0
              have hte : rnds a k ((T.zip S).take i) = [] := List.length_eq_zero_iff.1 (by rw [hm, m0])
              try rw [hte, flat_nil, List.nil_append] at hfr
              simp -dsimp -implicitDefEqProofs [b1, b2, l1, k3, k4, hifk, hifm, f1, f2, f3, f4, f5, f6]
              exact Again.by ⟨(i + 1, d, m), b1, hrl⟩ (Le.to (by simp [wi, hifk, hifm, st_self]) (by simp [hifk, hifm, hrt, f1, f2]) (by simp)) (by simp; omega)
            · have hifm : ∀ {α : Type} (x y : α), (if m = 0 then x else y) = y := fun x y => if_neg m0
              simp -dsimp -implicitDefEqProofs [b1, b2, l1, k3, k4, hifk, hifm, f1, f2, f3, f4, f5, f6]
              exact Again.by ⟨(i + 1, d, m), b1, hrl⟩ (Le.to (by simp [wi, hifk, hifm, st_self]) (by simp [hifk, hifm, hrt, f1, f2]) (by simp)) (by simp; omega)
      have hi2 : i = T.length := by omega
      subst hi2
      have htt : (T.zip S).take T.length = T.zip S := List.take_of_length_le (by omega)
      have hm2 : (rnds a k (T.zip S)).length = m := by rw [← htt]; exact hm
      have hml : m ≤ 60 := by have := rnds_le a k (T.zip S); omega
      have hans := answer_s h (l := rnds a k (T.zip S)) (by omega) (h.rnds hL.p k) a1
      rw [show ansQ g r a k (rnds a k (T.zip S)) = tabQ g r a (T.zip S) k from rfl] at hans
      rw [htt] at hm
      by_cases k0 : k = 0
      · have hifk : ∀ {α : Type} (x y : α), (if k = 0 then x else y) = x := fun x y => if_pos k0
        have htk : TB k = [] := by rw [k0]; exact tb0
        try rw [htk, flat_nil, List.nil_append] at hfl
        by_cases m0 : m = 0
        · have hifm : ∀ {α : Type} (x y : α), (if m = 0 then x else y) = x := fun x y => if_pos m0
          have hte : rnds a k (T.zip S) = [] := List.length_eq_zero_iff.1 (by rw [hm, m0])
          try rw [hte, flat_nil, List.nil_append] at hfr
          simp -dsimp -implicitDefEqProofs [b1, htt, hifk, hifm, slots, f1, f2, f3, f4, f5, f6, f8, f9]
          refine eCall.of hans (by simp [htt, hte, rowsOf, f1, f2, f3, f4, f5, f6]) ?_
          simp -dsimp -implicitDefEqProofs [hifk, hifm, htt, slots, hul, f1, f2, f3, f4, f5, f6, f8, f9]
          exact Again.by ⟨(k + 1, c + d + 3), a1⟩ (Le.to (by simp [wk, i64_1, k0]) (by simp [hfl]) (by simp)) (by simp; omega)
        · have hifm : ∀ {α : Type} (x y : α), (if m = 0 then x else y) = y := fun x y => if_neg m0
          simp -dsimp -implicitDefEqProofs [b1, htt, hifk, hifm, slots, hm, f1, f2, f3, f4, f5, f6, f8, f9]
          refine eCall.of hans (by simp [htt, hm, rowsOf, f1, f2, f3, f4, f5, f6]) ?_
          simp -dsimp -implicitDefEqProofs [hifk, hifm, htt, slots, hul, f1, f2, f3, f4, f5, f6, f8, f9]
          exact Again.by ⟨(k + 1, c + d + 3), a1⟩ (Le.to (by simp [wk, i64_1, k0]) (by simp [hfl]) (by simp)) (by simp; omega)
      · have hifk : ∀ {α : Type} (x y : α), (if k = 0 then x else y) = y := fun x y => if_neg k0
        by_cases m0 : m = 0
        · have hifm : ∀ {α : Type} (x y : α), (if m = 0 then x else y) = x := fun x y => if_pos m0
          have hte : rnds a k (T.zip S) = [] := List.length_eq_zero_iff.1 (by rw [hm, m0])
          try rw [hte, flat_nil, List.nil_append] at hfr
          simp -dsimp -implicitDefEqProofs [b1, htt, hifk, hifm, slots, f1, f2, f3, f4, f5, f6, f8, f9]
          refine eCall.of hans (by simp [htt, hte, rowsOf, f1, f2, f3, f4, f5, f6]) ?_
          simp -dsimp -implicitDefEqProofs [hifk, hifm, htt, slots, hul, f1, f2, f3, f4, f5, f6, f8, f9]
          refine ⟨⟨by omega, by omega⟩, ?_⟩
          exact Again.by ⟨(k + 1, c + d + 3), a1⟩ (Le.to (by simp [wk, i64_1]) (by simp [hfl]) (by simp)) (by simp; omega)
        · have hifm : ∀ {α : Type} (x y : α), (if m = 0 then x else y) = y := fun x y => if_neg m0
          simp -dsimp -implicitDefEqProofs [b1, htt, hifk, hifm, slots, hm, f1, f2, f3, f4, f5, f6, f8, f9]
          refine eCall.of hans (by simp [htt, hm, rowsOf, f1, f2, f3, f4, f5, f6]) ?_
          simp -dsimp -implicitDefEqProofs [hifk, hifm, htt, slots, hul, f1, f2, f3, f4, f5, f6, f8, f9]
          refine ⟨⟨by omega, by omega⟩, ?_⟩
          exact Again.by ⟨(k + 1, c + d + 3), a1⟩ (Le.to (by simp [wk, i64_1]) (by simp [hfl]) (by simp)) (by simp; omega)
    have hk2 : k = kl g a := by omega
    subst hk2
    have hul := tbl (kl g a)
    have a2 : ¬ kl g a < g.agents[a].kinds.length := by omega
    simp -dsimp -implicitDefEqProofs [ha, a2, hk0]
    exact Cut.by c (Le.fzF [c + 4] (Le.to (by simp [hul]) (by simp [hul]) (by simp)))
  intro c
  have q1 := h.sz (i := 11) (by omega) (h.by_over hL.p (by omega) (tabQ g r a (T.zip S)) fun k hk => (h.tab hk).lt)
  have q2 := h.sz (i := 11) (by omega) (h.had_over hL.p (by omega))
  have q3 := h.sz (i := 12) (by omega) (h.sub (h.by_over hL.p (by omega) (tabQ g r a (T.zip S)) fun k hk => (h.tab hk).lt) (h.had_over hL.p (by omega)))
  have hsu := subR_s (frQ (byQ g r a (tabQ g r a (T.zip S)) (T.zip S))) (frQ (hadQ g r a (T.zip S))) (frQ_ok (by omega)) (frQ_ok (by omega))
  rw [fix_frQ q1, fix_frQ q2, cap_of q3] at hsu
  simp -dsimp -implicitDefEqProofs
  refine eCall.of hby (by simp) ?_
  simp -dsimp -implicitDefEqProofs
  refine eCall.of (had14_s h hL) (by simp) ?_
  simp -dsimp -implicitDefEqProofs
  refine eCall.of hsu (by simp [frQ, ng]) ?_
  simp -dsimp -implicitDefEqProofs [frQ, ng]
  try rfl
end Go.Proofs.YtglhjjokijdagaaGreat.Sh

/- A crowd: what each has lost by lies. -/
namespace Go.Proofs.YtglhjjokijdagaaGreat.Sh
open Go Go.RowKit

def lostQ (g : Gm) (r : List Ce) (L : Log) (a : Nat) : Rat := byQ g r a id L - hadQ g r a L
def lostC (g : Gm) (r : List Ce) (L : Log) (n : Nat) : List FR := (List.range n).map fun a => frQ (lostQ g r L a)
theorem lostC_len (g : Gm) (r : List Ce) (L : Log) (n : Nat) : (lostC g r L n).length = n := by simp [lostC]
theorem lostC_snoc (g : Gm) (r : List Ce) (L : Log) (n : Nat) : lostC g r L (n + 1) = lostC g r L n ++ [frQ (lostQ g r L n)] := by simp [lostC, List.range_succ]
theorem lostC_get (g : Gm) (r : List Ce) (L : Log) (n i : Nat) (h : i < (lostC g r L n).length) : (lostC g r L n)[i] = frQ (lostQ g r L i) := by simp [lostC]
/-- What is lost by the first, what the others have. -/
def mixL14 (g : Gm) (r : List Ce) (L : Log) (N i : Nat) : List FR := lostC g r L i ++ (usesC g r L N).drop i
theorem mixL14_len (g : Gm) (r : List Ce) (L : Log) {N i : Nat} (h : i ≤ N) : (mixL14 g r L N i).length = N := by
  unfold mixL14; rw [List.length_append, lostC_len, List.length_drop, usesC_len]; omega
theorem mixL14_get (g : Gm) (r : List Ce) (L : Log) {N i : Nat} (h : i < N) (hh : i < (mixL14 g r L N i).length) : (mixL14 g r L N i)[i] = frQ (hadQ g r i L) := by
  have e1 := lostC_len g r L i
  have e2 := usesC_len g r L N
  simp only [mixL14]
  rw [List.getElem_append_right (by omega)]
  simp [e1, usesC]
theorem mixL14_set (g : Gm) (r : List Ce) (L : Log) {N i : Nat} (h : i < N) : (mixL14 g r L N i).set i (frQ (lostQ g r L i)) = mixL14 g r L N (i + 1) := by
  have e1 := lostC_len g r L i
  have e2 := usesC_len g r L N
  unfold mixL14
  rw [List.set_append_right _ _ (by omega), e1, Nat.sub_self, List.drop_eq_getElem_cons (by omega), List.set_cons_zero, lostC_snoc, List.append_assoc]; rfl

section
variable {g : Gm} {r : List Ce} (hP : Play g r) (six : ∀ c ∈ r, CeSix c) {T S : List (List Int)} (hL : LogR g T S)
include hP six hL
theorem lost_over {a : Nat} (ha : a < g.agents.length) : Over (UD g r) (W ^ 12) (lostQ g r (T.zip S) a) := by
  have h : Sit g r a := ⟨hP, six, ha⟩
  have hz := hL.zl
  have hs := hL.small
  exact h.sub (h.by_over hL.p (by omega) id fun k hk => hk) (h.had_over hL.p (by omega))

set_option maxRecDepth 20000 in
set_option maxHeartbeats 4000000 in
theorem lostR_s : CallsS Tryz.prog 29 [gmS g, ruS r, .one (profsS T), .one (profsS S)] (.tup [.one (frsS (lostC g r (T.zip S) g.agents.length)), .one (.int .i64 0)]) := by
  have hs := hL.small
  have hle := hL.len
  have hz := hL.zl
  have hag := (sizeOk_all hP.fine.sz).1
  have ha0 : 0 < g.agents.length := List.length_pos_iff.2 hP.good.2.1.ag
  have hpl : ∀ p, isProf g p → p.length ≤ 1048576 := fun p hp => by have := hp.1; omega
  have hlo := rlogged_s g r hP.seen hP.far T S (by omega) (by omega) (fun p hp => hpl p (hL.t p hp)) (fun p hp => hpl p (hL.s p hp)) 0 (.inr (.inr (.inr ⟨hP.good, hL, rfl⟩)))
  refine calls Tryz.func29 rfl (by rfl) (by rfl) (by kernel_rfl) ?_
  simp -dsimp -implicitDefEqProofs [Tryz.f29]
  refine eCall.of hlo (by simp) ?_
  simp -dsimp -implicitDefEqProofs
  refine sw_loop_e (fun p : {p : Nat × Nat // p.1 ≤ g.agents.length} => SS.of [(2, .v (.one (profsS T))), (3, .v (.one (profsS S))), (4, .v (.one (.mp 0 0))), (5, .v (.one (.mp 1 0))), (11, if p.1.1 = 0 then .v (.one .nils) else .v (.one (.ms (p.1.2 + 2) 0 p.1.1 3 true))), (12, I .i64 p.1.1)] ((0, ⟨26, rowGm g⟩) :: (1, ⟨29, [cesS r]⟩) :: if p.1.1 = 0 then [] else [(p.1.2 + 2, ⟨40, flat rowFr (lostC g r (T.zip S) p.1.1)⟩)]) (p.1.2 + 3))
    (fun p => g.agents.length - p.1.1) ⟨(0, 0), Nat.zero_le _⟩ (by kernel_rfl) (Le.to (by simp) (by simp) (by simp)) ?_
  rintro ⟨⟨a, c⟩, hi⟩
  simp only at hi
  by_cases a1 : a < g.agents.length
  · have wa : IntKind.i64.wrap ((a : Int) + 1) = ((a + 1 : Nat) : Int) := by rw [wrap_i64 _ (by omega) (by omega)]; rfl
    have h : Sit g r a := ⟨hP, six, a1⟩
    have hkl := h.kl
    have hk4 := h.kle
    have hk0 : ¬ kl g a = 0 := by
      have hh := hP.fine.kinds_pos _ (List.getElem_mem h.ha)
      omega
    have hfl := flat_snoc (f := rowFr) (frQ (lostQ g r (T.zip S) a)) (lostC g r (T.zip S) a)
    rw [← lostC_snoc] at hfl
    have hul := lostC_len g r (T.zip S) a
    have hbt := by14_s h hL (idL (kl g a)) id (fun k hk => ⟨hk, idL_get hk⟩)
    have q1 := h.sz (i := 11) (by omega) (h.by_over hL.p (by omega) id fun k hk => hk)
    have q2 := h.sz (i := 11) (by omega) (h.had_over hL.p (by omega))
    have q3 := h.sz (i := 12) (by omega) (lost_over hP six hL a1)
    have hsu := subR_s (frQ (byQ g r a id (T.zip S))) (frQ (hadQ g r a (T.zip S))) (frQ_ok (by omega)) (frQ_ok (by omega))
    rw [fix_frQ q1, fix_frQ q2, show byQ g r a id (T.zip S) - hadQ g r a (T.zip S) = lostQ g r (T.zip S) a from rfl, cap_of q3] at hsu
    simp -dsimp -implicitDefEqProofs [a1]
    refine sw_cut (fun d : Nat => SS.of [(2, .v (.one (profsS T))), (3, .v (.one (profsS S))), (4, .v (.one (.mp 0 0))), (5, .v (.one (.mp 1 0))), (11, if a = 0 then .v (.one .nils) else .v (.one (.ms (c + 2) 0 a 3 true))), (12, I .i64 a), (13, .v (.one (intsS (idL (kl g a)))))] ((0, ⟨26, rowGm g⟩) :: (1, ⟨29, [cesS r]⟩) :: if a = 0 then [] else [(c + 2, ⟨40, flat rowFr (lostC g r (T.zip S) a)⟩)]) (c + d + 4)) ?_ ?_
    · refine sw_loop_e (fun q : {q : Nat × Nat // q.1 ≤ kl g a} => SS.of [(2, .v (.one (profsS T))), (3, .v (.one (profsS S))), (4, .v (.one (.mp 0 0))), (5, .v (.one (.mp 1 0))), (11, if a = 0 then .v (.one .nils) else .v (.one (.ms (c + 2) 0 a 3 true))), (12, I .i64 a), (13, if q.1.1 = 0 then .v (.one .nils) else .v (.one (.ms (c + q.1.2 + 3) 0 q.1.1 1 true))), (14, I .i64 q.1.1)] ((0, ⟨26, rowGm g⟩) :: (1, ⟨29, [cesS r]⟩) :: ((if a = 0 then [] else [(c + 2, ⟨40, flat rowFr (lostC g r (T.zip S) a)⟩)]) ++ if q.1.1 = 0 then [] else [(c + q.1.2 + 3, ⟨3, flat rowInt (idL q.1.1)⟩)])) (c + q.1.2 + 4))
        (fun q => kl g a - q.1.1) ⟨(0, 0), Nat.zero_le _⟩ (by kernel_rfl) (Le.to (by simp [st_self]) (by split <;> simp [*]) (by simp)) ?_
      rintro ⟨⟨k, d⟩, hk⟩
      simp only at hk
      have hil := idL_len k
      have f1 : ¬ c + d + 1 = c := by omega
      have f2 : ¬ c = c + d + 1 := by omega
      have f3 : ¬ c + d + 2 = c := by omega
      have f4 : ¬ c = c + d + 2 := by omega
      have f5 : ¬ c + d + 3 = c := by omega
      have f6 : ¬ c = c + d + 3 := by omega
      have f7 : c + (d + 2) = c + d + 2 := by omega
      by_cases b1 : k < kl g a
      · have wk : IntKind.i64.wrap ((k : Int) + 1) = ((k + 1 : Nat) : Int) := by rw [wrap_i64 _ (by omega) (by omega)]; rfl
        have b2 : k < g.agents[a].kinds.length := by omega
        have hfk := flat_snoc (f := rowInt) (k : Int) (idL k)
        rw [← idL_snoc] at hfk
        by_cases k0 : k = 0
        · have hifk : ∀ {α : Type} (x y : α), (if k = 0 then x else y) = x := fun x y => if_pos k0
          rw [show idL k = [] by rw [k0]; rfl, flat_nil, List.nil_append] at hfk
          by_cases a0 : a = 0
          · have hifa : ∀ {α : Type} (x y : α), (if a = 0 then x else y) = x := fun x y => if_pos a0
            simp -dsimp -implicitDefEqProofs [a1, b2, hifk, hifa, slots]
            exact Again.by ⟨(k + 1, d + 2), b1⟩ (Le.to (by simp [wk, k0, i64_1, hifa, f7, st_self]) (by simp [hfk, hifa, f7]) (by simp; omega)) (by simp; omega)
          · have hifa : ∀ {α : Type} (x y : α), (if a = 0 then x else y) = y := fun x y => if_neg a0
            simp -dsimp -implicitDefEqProofs [a1, b2, hifk, hifa, slots, f1, f2, f3, f4, f5, f6]
            exact Again.by ⟨(k + 1, d + 2), b1⟩ (Le.to (by simp [wk, k0, i64_1, hifa, f7, st_self]) (by simp [hfk, hifa, f1, f2, f3, f4, f5, f6, f7]) (by simp; omega)) (by simp; omega)
        · have hifk : ∀ {α : Type} (x y : α), (if k = 0 then x else y) = y := fun x y => if_neg k0
          by_cases a0 : a = 0
          · have hifa : ∀ {α : Type} (x y : α), (if a = 0 then x else y) = x := fun x y => if_pos a0
            simp -dsimp -implicitDefEqProofs [a1, b2, hifk, hifa, slots, hil]
            refine ⟨⟨by omega, by omega⟩, ?_⟩
            exact Again.by ⟨(k + 1, d + 2), b1⟩ (Le.to (by simp [wk, hifa, f7, st_self]) (by simp [hfk, hifa, f7]) (by simp; omega)) (by simp; omega)
          · have hifa : ∀ {α : Type} (x y : α), (if a = 0 then x else y) = y := fun x y => if_neg a0
            simp -dsimp -implicitDefEqProofs [a1, b2, hifk, hifa, slots, hil, f1, f2, f3, f4, f5, f6]
            refine ⟨⟨by omega, by omega⟩, ?_⟩
            exact Again.by ⟨(k + 1, d + 2), b1⟩ (Le.to (by simp [wk, hifa, f7, st_self]) (by simp [hfk, hifa, f1, f2, f3, f4, f5, f6, f7]) (by simp; omega)) (by simp; omega)
      have hk2 : k = kl g a := by omega
      subst hk2
      have b2 : ¬ kl g a < g.agents[a].kinds.length := by omega
      by_cases a0 : a = 0
      · have hifa : ∀ {α : Type} (x y : α), (if a = 0 then x else y) = x := fun x y => if_pos a0
        simp -dsimp -implicitDefEqProofs [a1, b2, hk0, hifa]
        exact Cut.by d (Le.fzF [c + d + 3] (Le.to (by simp [hil, hifa]) (by simp [hil, hifa]) (by simp)))
      · have hifa : ∀ {α : Type} (x y : α), (if a = 0 then x else y) = y := fun x y => if_neg a0
        simp -dsimp -implicitDefEqProofs [a1, b2, hk0, hifa, f1, f2]
        exact Cut.by d (Le.fzF [c + d + 3] (Le.to (by simp [hil, hifa, f1, f2]) (by simp [hil, hifa, f1, f2]) (by simp [f1, f2])))
    intro d
    have f1 : ¬ c + d + 1 = c := by omega
    have f2 : ¬ c = c + d + 1 := by omega
    have f3 : ¬ c + d + 2 = c := by omega
    have f4 : ¬ c = c + d + 2 := by omega
    have f5 : ¬ c + d + 3 = c := by omega
    have f6 : ¬ c = c + d + 3 := by omega
    by_cases a0 : a = 0
    · have hifa : ∀ {α : Type} (x y : α), (if a = 0 then x else y) = x := fun x y => if_pos a0
      rw [show lostC g r (T.zip S) a = [] by rw [a0]; rfl, flat_nil, List.nil_append] at hfl
      simp -dsimp -implicitDefEqProofs [hifa]
      refine eCall.of hbt (by simp) ?_
      simp -dsimp -implicitDefEqProofs
      refine eCall.of (had14_s h hL) (by simp) ?_
      simp -dsimp -implicitDefEqProofs
      refine eCall.of hsu (by simp [frQ, ng]) ?_
      simp -dsimp -implicitDefEqProofs [hifa, slots]
      exact Again.by ⟨(a + 1, c + d + 3), a1⟩ (Le.to (by simp [wa, a0, i64_1]) (by simp [hfl, frQ, ng]) (by simp)) (by simp; omega)
    · have hifa : ∀ {α : Type} (x y : α), (if a = 0 then x else y) = y := fun x y => if_neg a0
      simp -dsimp -implicitDefEqProofs [hifa]
      refine eCall.of hbt (by simp) ?_
      simp -dsimp -implicitDefEqProofs
      refine eCall.of (had14_s h hL) (by simp) ?_
      simp -dsimp -implicitDefEqProofs
      refine eCall.of hsu (by simp [frQ, ng]) ?_
      simp -dsimp -implicitDefEqProofs [hifa, slots, hul, f1, f2, f3, f4, f5, f6]
      refine ⟨⟨by omega, by omega⟩, ?_⟩
      exact Again.by ⟨(a + 1, c + d + 3), a1⟩ (Le.to (by simp [wa]) (by simp [hfl, frQ, ng, f1, f2, f3, f4, f5, f6]) (by simp)) (by simp; omega)
  have ha2 : a = g.agents.length := by omega
  subst ha2
  have hne : ¬ g.agents = [] := List.length_pos_iff.1 ha0
  have hul := lostC_len g r (T.zip S) g.agents.length
  simp -dsimp -implicitDefEqProofs [hne, hul]

set_option maxRecDepth 20000 in
set_option maxHeartbeats 4000000 in
theorem lostC_s : CallsS Tryz.prog 30 [gmS g, ruS r, .one (profsS T), .one (profsS S)] (.tup [.one (frsS (lostC g r (T.zip S) g.agents.length)), .one (.int .i64 0)]) := by
  have hs := hL.small
  have hle := hL.len
  have hz := hL.zl
  have hag := (sizeOk_all hP.fine.sz).1
  have ha0 : 0 < g.agents.length := List.length_pos_iff.2 hP.good.2.1.ag
  have hpl : ∀ p, isProf g p → p.length ≤ 1048576 := fun p hp => by have := hp.1; omega
  have hlo := clog_s g r hP.seen hP.far T S (by omega) (by omega) (fun p hp => hpl p (hL.t p hp)) (fun p hp => hpl p (hL.s p hp)) 0 (.inr (.inr (.inr ⟨hP.good, hL, rfl⟩)))
  have m0 : mixL14 g r (T.zip S) g.agents.length 0 = usesC g r (T.zip S) g.agents.length := by simp [mixL14, lostC]
  have m1 : mixL14 g r (T.zip S) g.agents.length g.agents.length = lostC g r (T.zip S) g.agents.length := by
    unfold mixL14; rw [List.drop_eq_nil_of_le (by rw [usesC_len]; exact Nat.le_refl _), List.append_nil]
  refine calls Tryz.func30 rfl (by rfl) (by rfl) (by kernel_rfl) ?_
  simp -dsimp -implicitDefEqProofs [Tryz.f30]
  refine eCall.of hlo (by simp) ?_
  simp -dsimp -implicitDefEqProofs
  refine eCall.lend [] (usesX_s hP six hL) (by simp) (by simp) (by simp) ?_
  simp -dsimp -implicitDefEqProofs
  refine sw_loop_e (fun p : {p : Nat × Nat // p.1 ≤ g.agents.length} => SS.of [(2, .v (.one (profsS T))), (3, .v (.one (profsS S))), (4, .v (.one (.mp 0 0))), (5, .v (.one (.mp 1 0))), (12, .v (.one (.ms 3 0 g.agents.length 3 true))), (33, I .i64 g.agents.length), (34, I .i64 p.1.1)] [(0, ⟨26, rowGm g⟩), (1, ⟨29, [cesS r]⟩), (3, ⟨40, flat rowFr (mixL14 g r (T.zip S) g.agents.length p.1.1)⟩)] (p.1.2 + 4))
    (fun p => g.agents.length - p.1.1) ⟨(0, 0), Nat.zero_le _⟩ (by kernel_rfl) (Le.to (by simp) (by simp [m0]) (by simp)) ?_
  rintro ⟨⟨a, c⟩, hi⟩
  simp only at hi
  have hml := mixL14_len g r (T.zip S) hi
  by_cases a1 : a < g.agents.length
  · have wa : IntKind.i64.wrap ((a : Int) + 1) = ((a + 1 : Nat) : Int) := by rw [wrap_i64 _ (by omega) (by omega)]; rfl
    have h : Sit g r a := ⟨hP, six, a1⟩
    have hp : ∀ j, LogP g ((T.zip S).take j) := fun j x hx => hL.p x (mem_take hx)
    simp -dsimp -implicitDefEqProofs [a1]
    refine eCall.of czero_s (by simp) ?_
    simp -dsimp -implicitDefEqProofs
    refine sw_loop_e (fun q : {q : Nat // q ≤ T.length} => SS.of [(2, .v (.one (profsS T))), (3, .v (.one (profsS S))), (4, .v (.one (.mp 0 0))), (5, .v (.one (.mp 1 0))), (12, .v (.one (.ms 3 0 g.agents.length 3 true))), (13, I .i64 a), (14, .v (.one (.mp (c + 4) 0))), (33, I .i64 g.agents.length), (34, I .i64 a), (38, .v (.one (profsS S))), (39, I .i64 T.length), (40, I .i64 q.1)] [(0, ⟨26, rowGm g⟩), (1, ⟨29, [cesS r]⟩), (3, ⟨40, flat rowFr (mixL14 g r (T.zip S) g.agents.length a)⟩), (c + 4, ⟨40, rowFr (frQ (byQ g r a id ((T.zip S).take q.1)))⟩)] (c + 5))
      (fun q => T.length - q.1) ⟨0, Nat.zero_le _⟩ (by kernel_rfl) (Le.to (by simp [hle]) (by simp [byQ, sumQ, frQ, ng]) (by simp)) ?_
    rintro ⟨i, hi'⟩
    by_cases b1 : i < T.length
    · have wi : IntKind.i64.wrap ((i : Int) + 1) = ((i + 1 : Nat) : Int) := by rw [wrap_i64 _ (by omega) (by omega)]; rfl
      have b2 : i < S.length := by omega
      have b3 : i < (T.zip S).length := by omega
      have hx := List.getElem_mem b3
      have hg3 := zip_get b1 b2 b3
      have p1 := hL.t _ (List.getElem_mem b1)
      have p2 := hL.s _ (List.getElem_mem b2)
      obtain ⟨k1, k2⟩ := h.knd hL.p _ hx
      rw [hg3] at k1 k2
      have l1 : a < T[i].length := by have := p1.1; omega
      rw [List.getElem?_eq_getElem l1] at k2
      have k3 := Option.some.inj k2
      try simp only at k3
      have hw := h.worth p2 k1 k1
      have o1 := h.sz (i := 11) (by omega) (h.by_over (hp i) (by rw [List.length_take]; omega) id fun k hk => hk)
      have o2 := h.sz (i := 10) (by omega) (h.over p2 (t := (knd a (T[i], S[i]) : Int)) (by omega) (by omega) k1)
      have o3 := h.sz (i := 11) (by omega) (h.by_over (hp (i + 1)) (by rw [List.length_take]; omega) id fun k hk => hk)
      have hst : byQ g r a id ((T.zip S).take (i + 1)) = byQ g r a id ((T.zip S).take i) + useP g r a (knd a (T[i], S[i])) S[i] (knd a (T[i], S[i])) := by
        unfold byQ; rw [take_snoc_map _ _ _ b3, sumQ_snoc, hg3]; rfl
      have had := fadd_s (frQ (byQ g r a id ((T.zip S).take i))) (frQ (useP g r a (knd a (T[i], S[i])) S[i] (knd a (T[i], S[i])))) (frQ_ok (by omega)) (frQ_ok (by omega))
      rw [fix_frQ o1, fix_frQ o2, ← hst, cap_of o3] at had
      have hpu := put_s S[i] a (knd a (T[i], S[i])) (hpl _ p2)
      have hwo := rworth_s g r hP.seen hP.far a (knd a (T[i], S[i]) : Nat) (putP S[i] a (knd a (T[i], S[i]))) (by rw [putp_length]; have := hpl _ p2; omega) _ hw
      generalize knd a (T[i], S[i]) = kk at *
      simp -dsimp -implicitDefEqProofs [b1, b2, l1, k3]
      refine eCall.of hpu (by simp) ?_
      simp -dsimp -implicitDefEqProofs
      refine eCall.of hwo (by simp) ?_
      simp -dsimp -implicitDefEqProofs
      refine eCall.of had (by simp [frQ, ng]) ?_
      simp -dsimp -implicitDefEqProofs
      exact Again.by ⟨i + 1, b1⟩ (Le.to (by simp [wi]) (by simp [frQ, ng]) (by simp)) (by simp; omega)
    have hi2 : i = T.length := by omega
    subst hi2
    have htk : (T.zip S).take T.length = T.zip S := List.take_of_length_le (by omega)
    have q1 := h.sz (i := 11) (by omega) (h.by_over hL.p (by omega) id fun k hk => hk)
    have q2 := h.sz (i := 11) (by omega) (h.had_over hL.p (by omega))
    have q3 := h.sz (i := 12) (by omega) (lost_over hP six hL a1)
    have hsu := fsub_s (frQ (byQ g r a id (T.zip S))) (frQ (hadQ g r a (T.zip S))) (frQ_ok (by omega)) (frQ_ok (by omega))
    rw [fix_frQ q1, fix_frQ q2, show byQ g r a id (T.zip S) - hadQ g r a (T.zip S) = lostQ g r (T.zip S) a from rfl, cap_of q3] at hsu
    have hg0 : a < (mixL14 g r (T.zip S) g.agents.length a).length := by omega
    have hgm := mixL14_get g r (T.zip S) a1 hg0
    have hset := set3_flat (f := rowFr) (mixL14 g r (T.zip S) g.agents.length a) a (frQ (lostQ g r (T.zip S) a)) rfl hg0
    rw [mixL14_set g r (T.zip S) a1] at hset
    have hrow := flat_row (e := 3) (f := rowFr) (mixL14 g r (T.zip S) g.agents.length a) a hg0
    rw [hgm] at hrow
    have h33 : 3 ≤ g.agents.length * 3 - a * 3 := by omega
    simp -dsimp -implicitDefEqProofs [htk, a1, hml, hrow, h33, hg0]
    refine eCall.of hsu (by simp [frQ, ng]) ?_
    simp -dsimp -implicitDefEqProofs [htk, a1, hml, hgm, hg0]
    refine ⟨by omega, ?_⟩
    exact Again.by ⟨(a + 1, c + 1), a1⟩ (Le.to (by simp [wa]) (by simp [← hset, frQ, ng]) (by simp)) (by simp; omega)
  have ha2 : a = g.agents.length := by omega
  subst ha2
  have hul := lostC_len g r (T.zip S) g.agents.length
  simp -dsimp -implicitDefEqProofs [m1, hul]
end
end Go.Proofs.YtglhjjokijdagaaGreat.Sh

/- The law of CrowdRegret. -/
namespace Go.Proofs.YtglhjjokijdagaaGreat.Sh
open Go Go.RowKit

theorem byQ_congr {g : Gm} {r : List Ce} {a : Nat} (h : Sit g r a) {L : Log} (hL : LogP g L) {f f' : Nat → Nat} (hf : ∀ k, k < kl g a → f k = f' k) : byQ g r a f L = byQ g r a f' L := by
  unfold byQ
  congr 1
  refine List.map_congr_left fun x hx => ?_
  rw [hf _ (h.knd hL x hx).1]

section
variable (g : Gm) (r : List Ce) (hs : Seen g r) (hf : far g = false) (T S : List (List Int)) (hT : T.length ≤ 1048576) (hS : S.length ≤ 1048576) (hpT : ∀ p ∈ T, p.length ≤ 1048576) (hpS : ∀ p ∈ S, p.length ≤ 1048576) (e : Int) (he : isLog g r T S e) (h0 : ¬ e = 0)
include hs hf hT hS hpT hpS he h0
set_option maxRecDepth 20000 in
theorem lostR_no : CallsS Tryz.prog 29 [gmS g, ruS r, .one (profsS T), .one (profsS S)] (.tup [.one (frsS []), .one (.int .i64 e)]) := by
  refine calls Tryz.func29 rfl (by rfl) (by rfl) (by kernel_rfl) ?_
  simp -dsimp -implicitDefEqProofs [Tryz.f29]
  refine eCall.of (rlogged_s g r hs hf T S hT hS hpT hpS e he) (by simp) ?_
  simp -dsimp -implicitDefEqProofs [h0]

set_option maxRecDepth 20000 in
theorem lostC_no : CallsS Tryz.prog 30 [gmS g, ruS r, .one (profsS T), .one (profsS S)] (.tup [.one (frsS []), .one (.int .i64 e)]) := by
  refine calls Tryz.func30 rfl (by rfl) (by rfl) (by kernel_rfl) ?_
  simp -dsimp -implicitDefEqProofs [Tryz.f30]
  refine eCall.of (clog_s g r hs hf T S hT hS hpT hpS e he) (by simp) ?_
  simp -dsimp -implicitDefEqProofs [h0]

end

set_option maxRecDepth 20000 in
set_option maxHeartbeats 4000000 in
theorem lawRegret_s (g : Gm) (r : List Ce) (T S : List (List Int)) (a : Int) (hg : g.ok) (hl : lenOk r) (hr : ∀ c ∈ r, c.ok) (hT : T.length ≤ 140737488355328) (hS : S.length ≤ 140737488355328) (hpT : ∀ p ∈ T, p.length ≤ 140737488355328) (hpS : ∀ p ∈ S, p.length ≤ 140737488355328) :
    CallsS Tryz.prog 6 [gmS g, ruS r, .agg [profsS T, profsS S, .int .i64 a]] (B true) := by
  have hbe := bey14_s g r hg hl hr
  refine calls Tryz.func6 rfl (by rfl) (by rfl) (by kernel_rfl) ?_
  simp -dsimp -implicitDefEqProofs [Tryz.f6]
  refine eCall.of hbe (by simp) ?_
  cases h1 : far g with
  | true => simp -dsimp -implicitDefEqProofs
  | false =>
  cases h2 : beyondRule r with
  | true => simp -dsimp -implicitDefEqProofs
  | false =>
  obtain ⟨b1, hb1⟩ := boolOf (WideL T)
  obtain ⟨b2, hb2⟩ := boolOf (WideL S)
  simp -dsimp -implicitDefEqProofs
  refine eCall.of (wide14_s T hT hpT b1 hb1) (by simp) ?_
  cases b1 with
  | true => simp -dsimp -implicitDefEqProofs
  | false =>
  simp -dsimp -implicitDefEqProofs
  refine eCall.of (wide14_s S hS hpS b2 hb2) (by simp) ?_
  cases b2 with
  | true => simp -dsimp -implicitDefEqProofs
  | false =>
  obtain ⟨w1, w2⟩ := WideL.no (fun hh => by have := hb1.2 hh; cases this)
  obtain ⟨w3, w4⟩ := WideL.no (fun hh => by have := hb2.2 hh; cases this)
  have hs := seen_of hg hr h1 h2
  have six := six_of hr h2
  have v2 : ∀ p ∈ T, p.length ≤ 1048576 := fun p hp => by have := w2 p hp; omega
  have v4 : ∀ p ∈ S, p.length ≤ 1048576 := fun p hp => by have := w4 p hp; omega
  have hf0 : (FR.mk false [] []).ok := ⟨(by intro x hx; cases hx), (by intro x hx; cases hx), by simp, by simp⟩
  have hsm0 := sameR_s ⟨false, [], []⟩ ⟨false, [], []⟩ hf0 hf0
  rw [decide_eq_true rfl] at hsm0
  have hsi0 := sameInts_s [] [] (by decide) (by decide)
  rw [decide_eq_true rfl] at hsi0
  have hsn0 := sameNumbers_s [] [] (by simp) (by simp) (by simp) rfl
  obtain ⟨e, he⟩ := isLog_of g r T S
  simp -dsimp -implicitDefEqProofs
  by_cases e0 : e = 0
  case neg =>
    refine eCall.of (regretR_no g r hs h1 T S (by omega) (by omega) v2 v4 a e he e0) (by simp) ?_
    simp -dsimp -implicitDefEqProofs
    refine eCall.of (lostR_no g r hs h1 T S (by omega) (by omega) v2 v4 e he e0) (by simp) ?_
    simp -dsimp -implicitDefEqProofs
    refine eCall.of (regretNo_s g r hs h1 T S (by omega) (by omega) v2 v4 a e he e0) (by simp) ?_
    simp -dsimp -implicitDefEqProofs
    refine eCall.of (lostC_no g r hs h1 T S (by omega) (by omega) v2 v4 e he e0) (by simp) ?_
    simp -dsimp -implicitDefEqProofs
    refine eCall.of hsi0 (by simp) ?_
    simp -dsimp -implicitDefEqProofs
    refine eCall.of hsm0 (by simp) ?_
    simp -dsimp -implicitDefEqProofs
    refine eCall.of hsn0 (by simp) ?_
    simp -dsimp -implicitDefEqProofs [e0]
    refine eCall.of fixed_s (by simp) ?_
    simp -dsimp -implicitDefEqProofs
  obtain ⟨hgd, hL⟩ := he.ok.1 e0
  have hP : Play g r := ⟨hs, h1, hgd⟩
  have hag := (sizeOk_all hP.fine.sz).1
  have hll := lostC_len g r (T.zip S) g.agents.length
  have hlz : ∀ x, x < g.agents.length → sz (lostQ g r (T.zip S) x) ≤ 4096 := fun x hx => Sit.sz ⟨hP, six, hx⟩ (i := 12) (by omega) (lost_over hP six hL hx)
  have hlo : ∀ f ∈ lostC g r (T.zip S) g.agents.length, f.ok := fun f hf => by
    obtain ⟨x, hx, rfl⟩ := List.mem_map.1 hf
    exact frQ_ok (by have := hlz x (List.mem_range.1 hx); omega)
  have hsn := sameNumbers_s (lostC g r (T.zip S) g.agents.length) (lostC g r (T.zip S) g.agents.length) hlo hlo (by omega) rfl
  by_cases ha : 0 ≤ a ∧ a < (g.agents.length : Int)
  case neg =>
    refine eCall.of (regretR_out g r hP hL v2 v4 a ha) (by simp) ?_
    simp -dsimp -implicitDefEqProofs
    refine eCall.of (lostR_s hP six hL) (by simp) ?_
    simp -dsimp -implicitDefEqProofs
    refine eCall.of (regretOut_s g r hP hL v2 v4 a ha) (by simp) ?_
    simp -dsimp -implicitDefEqProofs
    refine eCall.of (lostC_s hP six hL) (by simp) ?_
    simp -dsimp -implicitDefEqProofs
    refine eCall.of hsi0 (by simp) ?_
    simp -dsimp -implicitDefEqProofs
    refine eCall.of hsm0 (by simp) ?_
    simp -dsimp -implicitDefEqProofs
    refine eCall.of hsn (by simp) ?_
    simp -dsimp -implicitDefEqProofs
    refine eCall.of fixed_s (by simp) ?_
    simp -dsimp -implicitDefEqProofs
  obtain ⟨A, rfl⟩ : ∃ A : Nat, a = A := ⟨a.toNat, by omega⟩
  have h : Sit g r A := ⟨hP, six, by omega⟩
  have hz := hL.zl
  have hs60 := hL.small
  have hk4 := h.kle
  have htl := tabL_len g r A (T.zip S) (kl g A)
  have hsi := sameInts_s (tabL g r A (T.zip S) (kl g A)) (tabL g r A (T.zip S) (kl g A)) (by omega) (by omega)
  rw [decide_eq_true rfl] at hsi
  have ht1 : ∀ k, k < kl g A → tabQ g r A (T.zip S) k < kl g A := fun k hk => (h.tab hk).lt
  have q2 := h.had_over hL.p (by omega)
  have q3 := h.by_over hL.p (by omega) (tabQ g r A (T.zip S)) ht1
  have z5 := h.sz (by omega) (h.sub q3 q2)
  obtain ⟨M, hM⟩ : ∃ M, M = byQ g r A (tabQ g r A (T.zip S)) (T.zip S) - hadQ g r A (T.zip S) := ⟨_, rfl⟩
  have hr1 := regretR_s h hL
  have hr2 := regret_s h hL
  rw [← hM] at hr1 hr2 z5
  have hsm := sameR_s (frQ M) (frQ M) (frQ_ok (by omega)) (frQ_ok (by omega))
  rw [decide_eq_true rfl] at hsm
  obtain ⟨ok, bn, xx, xy, xz, lP, lX, lY, htr, hno⟩ := truth_any g r hs h1
  refine eCall.of hr1 (by simp) ?_
  simp -dsimp -implicitDefEqProofs
  refine eCall.of (lostR_s hP six hL) (by simp) ?_
  simp -dsimp -implicitDefEqProofs
  refine eCall.of hr2 (by simp) ?_
  simp -dsimp -implicitDefEqProofs
  refine eCall.of (lostC_s hP six hL) (by simp) ?_
  simp -dsimp -implicitDefEqProofs
  refine eCall.of hsi (by simp) ?_
  simp -dsimp -implicitDefEqProofs
  refine eCall.of hsm (by simp [frQ, ng]) ?_
  simp -dsimp -implicitDefEqProofs
  refine eCall.of hsn (by simp) ?_
  simp -dsimp -implicitDefEqProofs
  refine eCall.of htr (by simp) ?_
  simp -dsimp -implicitDefEqProofs
  have hk0 : 0 < kl g A := by
    have hh := hP.fine.kinds_pos _ (List.getElem_mem h.ha)
    have := h.kl
    omega
  have hap : 0 < g.agents.length := by have := h.ha; omega
  cases ok with
  | false =>
    refine sw_loop_e (fun _ : Unit => SS.of [(5, .v (.one (.mp 2 0))), (12, .v (.one (intsS (tabL g r A (T.zip S) (kl g A))))), (13, .v (.one (.mp 4 0))), (15, .v (.one (frsS (lostC g r (T.zip S) g.agents.length)))), (18, B false), (19, I .i64 0)] [(2, ⟨32, rowLog T S A⟩), (4, ⟨40, rowFr (frQ M)⟩)] 6)
      (fun _ => 0) () (by kernel_rfl) (Le.to (by simp) (by simp [frQ, ng]) (by simp)) ?_
    rintro ⟨⟩
    simp -dsimp -implicitDefEqProofs [htl, hk0]
    refine sw_loop_e (fun _ : Unit => SS.of [(5, .v (.one (.mp 2 0))), (13, .v (.one (.mp 4 0))), (15, .v (.one (frsS (lostC g r (T.zip S) g.agents.length)))), (18, B false), (20, I .i64 0)] [(2, ⟨32, rowLog T S A⟩), (4, ⟨40, rowFr (frQ M)⟩)] 6)
      (fun _ => 0) () (by kernel_rfl) (Le.to (by simp) (by simp [frQ, ng]) (by simp)) ?_
    rintro ⟨⟩
    simp -dsimp -implicitDefEqProofs [hll, hap]
    refine eCall.of fixed_s (by simp) ?_
    simp -dsimp -implicitDefEqProofs
  | true =>
  have hno := hno rfl
  have hMl : M = lostQ g r (T.zip S) A := by rw [hM, byQ_congr h hL.p (f := tabQ g r A (T.zip S)) (f' := id) fun k hk => h.tabTruth (hno A h.ha) hL.p hk]; rfl
  have hlp : ∀ x, x < g.agents.length → 0 ≤ lostQ g r (T.zip S) x := fun x hx => by
    have := Sit.hadTruth ⟨hP, six, hx⟩ (hno x hx) hL.p
    unfold lostQ; grind
  have hsg := signR_s (frQ M) (frQ_ok (by omega))
  rw [fix_frQ z5] at hsg
  have hs0 : ∀ q : Rat, 0 ≤ q → ¬ sgnQ q < 0 := fun q hq => by
    unfold sgnQ
    split
    · decide
    · split
      · next hn => exact absurd hq (Rat.not_le.2 hn)
      · decide
  have hM0 := Int.not_lt.1 (hs0 M (by rw [hMl]; exact hlp A h.ha))
  have hlA : A < (lostC g r (T.zip S) g.agents.length).length := by rw [hll]; exact h.ha
  have hlg := lostC_get g r (T.zip S) g.agents.length A hlA
  rw [← hMl] at hlg
  refine sw_loop_e (fun q : {q : Nat // q ≤ kl g A} => SS.of [(5, .v (.one (.mp 2 0))), (12, .v (.one (intsS (tabL g r A (T.zip S) (kl g A))))), (13, .v (.one (.mp 4 0))), (15, .v (.one (frsS (lostC g r (T.zip S) g.agents.length)))), (18, B true), (19, I .i64 q.1)] [(2, ⟨32, rowLog T S A⟩), (4, ⟨40, rowFr (frQ M)⟩)] 6)
    (fun q => kl g A - q.1) ⟨0, Nat.zero_le _⟩ (by kernel_rfl) (Le.to (by simp) (by simp [frQ, ng]) (by simp)) ?_
  rintro ⟨k, hk⟩
  by_cases a1 : k < kl g A
  · have wk : IntKind.i64.wrap ((k : Int) + 1) = ((k + 1 : Nat) : Int) := by rw [wrap_i64 _ (by omega) (by omega)]; rfl
    have hgt := tabL_get g r A (T.zip S) a1
    rw [List.getElem?_eq_getElem (by omega)] at hgt
    have hgt := Option.some.inj hgt
    rw [h.tabTruth (hno A h.ha) hL.p a1] at hgt
    simp -dsimp -implicitDefEqProofs [a1, htl, hgt]
    exact Again.by ⟨k + 1, a1⟩ (Le.to (by simp [wk]) (by simp [frQ, ng]) (by simp)) (by simp; omega)
  have hk2 : k = kl g A := by omega
  subst hk2
  simp -dsimp -implicitDefEqProofs [htl]
  refine sw_loop_e (fun q : {q : Nat // q ≤ g.agents.length} => SS.of [(5, .v (.one (.mp 2 0))), (13, .v (.one (.mp 4 0))), (15, .v (.one (frsS (lostC g r (T.zip S) g.agents.length)))), (18, B true), (20, I .i64 q.1)] [(2, ⟨32, rowLog T S A⟩), (4, ⟨40, rowFr (frQ M)⟩)] 6)
    (fun q => g.agents.length - q.1) ⟨0, Nat.zero_le _⟩ (by kernel_rfl) (Le.to (by simp) (by simp [frQ, ng]) (by simp)) ?_
  rintro ⟨x, hx⟩
  by_cases c1 : x < g.agents.length
  · have wk : IntKind.i64.wrap ((x : Int) + 1) = ((x + 1 : Nat) : Int) := by rw [wrap_i64 _ (by omega) (by omega)]; rfl
    have hlx : x < (lostC g r (T.zip S) g.agents.length).length := by rw [hll]; exact c1
    have hgx := lostC_get g r (T.zip S) g.agents.length x hlx
    have hsx := signR_s (frQ (lostQ g r (T.zip S) x)) (frQ_ok (by have := hlz x c1; omega))
    rw [fix_frQ (hlz x c1)] at hsx
    have hn := hs0 _ (hlp x c1)
    simp -dsimp -implicitDefEqProofs [c1, hll, hlx, hgx]
    refine eCall.of hsx (by simp [frQ, ng]) ?_
    simp -dsimp -implicitDefEqProofs [hn]
    exact Again.by ⟨x + 1, c1⟩ (Le.to (by simp [wk]) (by simp [frQ, ng]) (by simp)) (by simp; omega)
  have hx2 : x = g.agents.length := by omega
  subst hx2
  simp -dsimp -implicitDefEqProofs [hll]
  refine eCall.of hsg (by simp [frQ, ng]) ?_
  simp -dsimp -implicitDefEqProofs [hM0, hlA, hlg]
  refine eCall.of hsm (by simp [frQ, ng]) ?_
  simp -dsimp -implicitDefEqProofs
  refine eCall.of fixed_s (by simp) ?_
  simp -dsimp -implicitDefEqProofs
end Go.Proofs.YtglhjjokijdagaaGreat.Sh

