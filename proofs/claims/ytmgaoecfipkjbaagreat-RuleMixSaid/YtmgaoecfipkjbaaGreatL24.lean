/- A part of the proof: R78, R79, R109 -/
import Derived.Test.YtmgaoecfipkjbaaGreatL23
set_option linter.unusedSimpArgs false
set_option linter.unusedVariables false
set_option linter.unusedSectionVars false
/- Meets, Aim: the reference; the walk of RuleMeets. -/
namespace Go.Proofs.YtmgaoecfipkjbaaGreat.Sh
open Go Go.RowKit

def MeetAll (g : Gm) (r : List Ce) (n : Nd) : Prop := ∀ m, m < r.length → MeetAt g r n m
def isMeets (g : Gm) (r : List Ce) (i : Int) (ok : Bool) : Prop :=
  (∃ (j : Nat) (h : j < g.needs.length), ¬ MeetAll g r g.needs[j] ∧ (∀ k (hk : k < j), MeetAll g r (g.needs[k]'(by omega))) ∧ i = j ∧ ok = false) ∨ ((∀ n ∈ g.needs, MeetAll g r n) ∧ i = -1 ∧ ok = true)
theorem isMeets_of (g : Gm) (r : List Ce) : ∃ i ok, isMeets g r i ok := by
  by_cases h : ∀ n ∈ g.needs, MeetAll g r n
  · exact ⟨_, _, .inr ⟨h, rfl, rfl⟩⟩
  · have : ∃ j, ∃ h : j < g.needs.length, ¬ MeetAll g r g.needs[j] := Classical.byContradiction fun hc => h fun n hn => Classical.byContradiction fun hx => by
      obtain ⟨j, hj, rfl⟩ := List.getElem_of_mem hn
      exact hc ⟨j, hj, hx⟩
    obtain ⟨j, hj⟩ := this
    induction j using Nat.strongRecOn with
    | _ j ih =>
      by_cases hm : ∃ k, k < j ∧ ∃ h : k < g.needs.length, ¬ MeetAll g r g.needs[k]
      · obtain ⟨k, h1, h2⟩ := hm; exact ih k h1 h2
      · obtain ⟨h1, h2⟩ := hj
        exact ⟨_, _, .inl ⟨j, h1, h2, fun k hk => Classical.byContradiction fun hx => hm ⟨k, hk, by omega, hx⟩, rfl, rfl⟩⟩
theorem isMeets.at {g : Gm} {r : List Ce} {i : Int} {ok : Bool} (h : isMeets g r i ok) {j : Nat} (hj : j < g.needs.length) (h1 : ¬ MeetAll g r g.needs[j]) (h2 : ∀ k (hk : k < j), MeetAll g r (g.needs[k]'(by omega))) : i = j ∧ ok = false := by
  rcases h with ⟨k, hk, g1, g2, g3, g4⟩ | ⟨g1, -, -⟩
  · rcases Nat.lt_trichotomy j k with c | c | c
    · exact absurd (g2 j c) h1
    · subst c; exact ⟨g3, g4⟩
    · exact absurd (h2 k c) g1
  · exact absurd (g1 _ (List.getElem_mem hj)) h1
theorem isMeets.none {g : Gm} {r : List Ce} {i : Int} {ok : Bool} (h : isMeets g r i ok) (h1 : ∀ n ∈ g.needs, MeetAll g r n) : i = -1 ∧ ok = true := by
  rcases h with ⟨k, hk, g1, g2, g3, g4⟩ | ⟨-, g3, g4⟩
  · exact absurd (h1 _ (List.getElem_mem hk)) g1
  · exact ⟨g3, g4⟩
theorem bool_of (P : Prop) : ∃ b : Bool, b = true ↔ P := by
  by_cases h : P
  · exact ⟨true, by simp [h]⟩
  · exact ⟨false, by simp [h]⟩

set_option maxRecDepth 20000 in
theorem meetsNeed4_s (g : Gm) (r : List Ce) (h : Play g r) (n : Nd) (hn : n.ok) (hsh : ShapedOk g.agents.length g.outs.length n) (b : Bool) (hb : b = true ↔ MeetAll g r n) : CallsS Tryz.prog 50 [gmS g, ruS r, ndS n] (B b) := by
  have h5 := (sizeOk_all h.fine.sz).2.2.2.2
  have hrl := h.good.2.2.1
  refine calls Tryz.func50 rfl (by rfl) (by rfl) (by kernel_rfl) ?_
  simp -dsimp -implicitDefEqProofs [Tryz.f50]
  refine sw_loop_e (fun p : {p : Nat // p ≤ r.length ∧ ∀ m, m < p → MeetAt g r n m} => SS.of [(3, .v (.one (.mp 0 0))), (4, .v (.one (.mp 1 0))), (5, .v (.one (.mp 2 0))), (7, I .i64 p.1)] [(0, ⟨26, rowGm g⟩), (1, ⟨29, [cesS r]⟩), (2, ⟨81, rowNd n⟩)] 3)
    (fun p => r.length - p.1) ⟨0, Nat.zero_le _, fun m hm => absurd hm (by omega)⟩ (by kernel_rfl) (Le.to (by simp) (by simp) (by simp)) ?_
  rintro ⟨m, hm, hq⟩
  by_cases a1 : m < r.length
  · have wi : IntKind.i64.wrap ((m : Int) + 1) = ((m + 1 : Nat) : Int) := by rw [wrap_i64 _ (by omega) (by omega)]; rfl
    simp -dsimp -implicitDefEqProofs [a1]
    by_cases c : MeetAt g r n m
    · refine eCall.of (meetsAt4_s g r h n hn hsh m a1 true (by simp [c])) (by simp) ?_
      simp -dsimp -implicitDefEqProofs
      refine Again.by ⟨m + 1, a1, fun m' hm' => ?_⟩ (Le.to (by simp [wi]) (by simp) (by simp)) (by simp; omega)
      by_cases e : m' = m
      · rw [e]; exact c
      · exact hq m' (by omega)
    · refine eCall.of (meetsAt4_s g r h n hn hsh m a1 false (by simp [c])) (by simp) ?_
      have hb' := nf hb (fun hh => c (hh m a1))
      simp -dsimp -implicitDefEqProofs [hb']
  have hm2 : m = r.length := by omega
  subst hm2
  have hb' := tf hb hq
  simp -dsimp -implicitDefEqProofs [hb']

set_option maxRecDepth 20000 in
theorem meets4_s (g : Gm) (r : List Ce) (h : Play g r) (i : Int) (ok : Bool) (hi : isMeets g r i ok) : CallsS Tryz.prog 60 [gmS g, ruS r] (.tup [.one (.int .i64 i), .one (.bool ok)]) := by
  have hnl := (sizeOk_all h.fine.sz).2.2.1
  refine calls Tryz.func60 rfl (by rfl) (by rfl) (by kernel_rfl) ?_
  simp -dsimp -implicitDefEqProofs [Tryz.f60]
  refine eCall.of (rightR4_s g r h.seen 0 (.inr (.inr ⟨h.good, rfl⟩))) (by simp) ?_
  simp -dsimp -implicitDefEqProofs
  refine sw_loop_e (fun p : {p : Nat // p ≤ g.needs.length ∧ ∀ k (hk : k < p) (hl : k < g.needs.length), MeetAll g r g.needs[k]} => SS.of [(2, .v (.one (.mp 0 0))), (3, .v (.one (.mp 1 0))), (6, I .i64 p.1)] [(0, ⟨26, rowGm g⟩), (1, ⟨29, [cesS r]⟩)] 2)
    (fun p => g.needs.length - p.1) ⟨0, Nat.zero_le _, fun m hm => absurd hm (by omega)⟩ (by kernel_rfl) (Le.to (by simp) (by simp) (by simp)) ?_
  rintro ⟨k, hk, hq⟩
  by_cases a1 : k < g.needs.length
  · have wi : IntKind.i64.wrap ((k : Int) + 1) = ((k + 1 : Nat) : Int) := by rw [wrap_i64 _ (by omega) (by omega)]; rfl
    obtain ⟨b, hb⟩ := bool_of (MeetAll g r g.needs[k])
    simp -dsimp -implicitDefEqProofs [a1]
    refine eCall.of (meetsNeed4_s g r h g.needs[k] (h.fine.ok.n _ (List.getElem_mem a1)) (h.good.2.1.needs k a1).1 b hb) (by simp) ?_
    cases b with
    | true =>
      have c := hb.1 rfl
      simp -dsimp -implicitDefEqProofs
      refine Again.by ⟨k + 1, a1, fun k' hk' hl' => ?_⟩ (Le.to (by simp [wi]) (by simp) (by simp)) (by simp; omega)
      by_cases e : k' = k
      · subst e; exact c
      · exact hq k' (by omega) hl'
    | false =>
      have c : ¬ MeetAll g r g.needs[k] := fun hh => by have := hb.2 hh; cases this
      obtain ⟨rfl, rfl⟩ := hi.at a1 c (fun k' hk' => hq k' hk' (by omega))
      simp -dsimp -implicitDefEqProofs
  have hm2 : k = g.needs.length := by omega
  subst hm2
  obtain ⟨rfl, rfl⟩ := hi.none (fun n hn => by obtain ⟨k, hk, rfl⟩ := List.getElem_of_mem hn; exact hq k hk hk)
  simp -dsimp -implicitDefEqProofs

set_option maxRecDepth 20000 in
theorem rmeetsAll_s (g : Gm) (r : List Ce) (h : Play g r) (i : Int) (ok : Bool) (hi : isMeets g r i ok) : CallsS Tryz.prog 62 [gmS g, ruS r] (.tup [.one (.int .i64 i), .one (.bool ok)]) := by
  have hnl := (sizeOk_all h.fine.sz).2.2.1
  refine calls Tryz.func62 rfl (by rfl) (by rfl) (by kernel_rfl) ?_
  simp -dsimp -implicitDefEqProofs [Tryz.f62]
  refine eCall.of (open_s g r h.seen h.good) (by simp) ?_
  simp -dsimp -implicitDefEqProofs
  refine sw_loop_e (fun p : {p : Nat × Nat // p.1 ≤ g.needs.length ∧ ∀ k (hk : k < p.1) (hl : k < g.needs.length), MeetAll g r g.needs[k]} => SS.of [(6, .v (.one (.mp 2 0))), (19, .v (.one (ndsS g.needs))), (20, I .i64 g.needs.length), (21, I .i64 p.1.1)] [(2, ⟨106, rowTb g r⟩)] (p.1.2 + 3))
    (fun p => g.needs.length - p.1.1) ⟨(0, 0), Nat.zero_le _, fun m hm => absurd hm (by simp)⟩ (by kernel_rfl) (Le.to (by simp) (by simp) (by simp)) ?_
  rintro ⟨⟨k, c⟩, hk, hq⟩
  simp only at hk hq
  by_cases a1 : k < g.needs.length
  · have wi : IntKind.i64.wrap ((k : Int) + 1) = ((k + 1 : Nat) : Int) := by rw [wrap_i64 _ (by omega) (by omega)]; rfl
    obtain ⟨b, hb⟩ := bool_of (MeetAll g r g.needs[k])
    simp -dsimp -implicitDefEqProofs [a1]
    refine eCall.of (rmeets_s g r h g.needs[k] (h.fine.ok.n _ (List.getElem_mem a1)) (h.good.2.1.needs k a1).1 b hb) (by simp) ?_
    cases b with
    | true =>
      have c1 := hb.1 rfl
      simp -dsimp -implicitDefEqProofs
      refine Again.by ⟨(k + 1, c + 1), a1, fun k' hk' hl' => ?_⟩ (Le.to (by simp [wi]) (by simp) (by simp)) (by simp; omega)
      by_cases e : k' = k
      · subst e; exact c1
      · exact hq k' (by simp only at hk'; omega) hl'
    | false =>
      have c1 : ¬ MeetAll g r g.needs[k] := fun hh => by have := hb.2 hh; cases this
      obtain ⟨rfl, rfl⟩ := hi.at a1 c1 (fun k' hk' => hq k' hk' (by omega))
      simp -dsimp -implicitDefEqProofs
  have hm2 : k = g.needs.length := by omega
  subst hm2
  obtain ⟨rfl, rfl⟩ := hi.none (fun n hn => by obtain ⟨k, hk, rfl⟩ := List.getElem_of_mem hn; exact hq k hk hk)
  simp -dsimp -implicitDefEqProofs

set_option maxRecDepth 20000 in
theorem rmeetsNo_s (g : Gm) (r : List Ce) (h : Seen g r) (hg : ¬ Good g r) : CallsS Tryz.prog 62 [gmS g, ruS r] (.tup [.one (.int .i64 (-1)), .one (.bool false)]) := by
  refine calls Tryz.func62 rfl (by rfl) (by rfl) (by kernel_rfl) ?_
  simp -dsimp -implicitDefEqProofs [Tryz.f62]
  refine eCall.of (openNo_s g r h hg) (by simp) ?_
  simp -dsimp -implicitDefEqProofs
set_option maxRecDepth 20000 in
theorem meetsNo4_s (g : Gm) (r : List Ce) (h : Seen g r) (hg : ¬ Good g r) : CallsS Tryz.prog 60 [gmS g, ruS r] (.tup [.one (.int .i64 (-1)), .one (.bool false)]) := by
  obtain ⟨e, he, h0⟩ := isGood_of g r
  have h0 : ¬ e = 0 := fun h => hg (h0.1 h)
  refine calls Tryz.func60 rfl (by rfl) (by rfl) (by kernel_rfl) ?_
  simp -dsimp -implicitDefEqProofs [Tryz.f60]
  refine eCall.of (rightR4_s g r h e he) (by simp) ?_
  simp -dsimp -implicitDefEqProofs [h0]
end Go.Proofs.YtmgaoecfipkjbaaGreat.Sh

/- The reference's Aim; the walk of RuleMeets. -/
namespace Go.Proofs.YtmgaoecfipkjbaaGreat.Sh
open Go Go.RowKit

def minF (b x : Rat) : Rat := if x < b then x else b
theorem mst_minF : ∀ (l : List Rat) (b : Rat), l.foldl (mst ltQ) (some b) = some (l.foldl minF b)
  | [], b => rfl
  | x :: l, b => by
    rw [List.foldl_cons, List.foldl_cons, show mst ltQ (some b) x = some (minF b x) by simp only [mst, ltQ, minF, decide_eq_true_eq]; split <;> rfl]
    exact mst_minF l _
theorem low_minF {g : Gm} {r : List Ce} (h : Play g r) : lowQ g r = (usesL g r).foldl minF (useQ g r 0 0) := by
  have hne := uses_ne h
  have h1 : 0 < r.length := by
    have := prod_pos (l := g.agents) (fun a ha => (h.good.2.1.all a ha).1) g.agents.length (Nat.le_refl _)
    rwa [List.take_length, ← h.good.2.2.1] at this
  have h2 : 0 < g.agents.length := List.length_pos_iff.2 h.good.2.1.ag
  have hd : ∃ t, usesL g r = useQ g r 0 0 :: t := by
    unfold usesL usesTo usesP
    obtain ⟨a, ha⟩ : ∃ a, r.length = a + 1 := ⟨r.length - 1, by omega⟩
    obtain ⟨b, hb⟩ : ∃ b, g.agents.length = b + 1 := ⟨g.agents.length - 1, by omega⟩
    rw [ha, hb, List.range_succ_eq_map (n := a), List.flatMap_cons, List.range_succ_eq_map (n := b), List.map_cons]
    exact ⟨_, rfl⟩
  obtain ⟨t, ht⟩ := hd
  rw [lowQ, ht, List.foldl_cons, List.foldl_cons, show mst ltQ none (useQ g r 0 0) = some (useQ g r 0 0) from rfl, mst_minF]
  show t.foldl minF (useQ g r 0 0) = t.foldl minF (minF (useQ g r 0 0) (useQ g r 0 0))
  rw [show minF (useQ g r 0 0) (useQ g r 0 0) = useQ g r 0 0 by unfold minF; split <;> rfl]
theorem fold_minF {q : Rat} (hq : mz q ≤ 222) : ∀ (l : List Rat), (∀ x ∈ l, mz x ≤ 222) → ∀ b, mz b ≤ 222 → mz (l.foldl minF b) ≤ 222
  | [], _, b, hb => hb
  | x :: l, h, b, hb => by
    rw [List.foldl_cons]
    refine fold_minF hq l (fun y hy => h y (List.mem_cons_of_mem _ hy)) _ ?_
    unfold minF; split
    · exact h x (List.mem_cons_self ..)
    · exact hb
def lowN (g : Gm) (r : List Ce) (n p : Nat) : Rat := (usesTo g r n ++ usesP g r n p).foldl minF (useQ g r 0 0)
theorem lowN_step (g : Gm) (r : List Ce) (n p : Nat) : lowN g r n (p + 1) = minF (lowN g r n p) (useQ g r n p) := by
  unfold lowN; rw [usesP_step, ← List.append_assoc, List.foldl_append]; rfl
theorem lowN_next (g : Gm) (r : List Ce) (n : Nat) : lowN g r (n + 1) 0 = lowN g r n g.agents.length := by
  unfold lowN; rw [usesTo_succ]; simp [usesP]
theorem lowN_mz {g : Gm} {r : List Ce} (h : Play g r) {n p : Nat} (hn : n < r.length) (hp : p ≤ g.agents.length) : mz (lowN g r n p) ≤ 222 := by
  have h0 : mz (useQ g r 0 0) ≤ 222 := (Spot.use ⟨h, List.length_pos_iff.2 h.good.2.1.ag, by omega⟩).1
  refine fold_minF h0 _ (fun x hx => ?_) _ h0
  obtain ⟨t, ht⟩ := uses_pre g r hn hp
  exact mem_uses h (by rw [← ht]; exact List.mem_append_left _ hx)

set_option maxRecDepth 20000 in
theorem weightR_s (g : Gm) (r : List Ce) (h : Play g r) (n : Nat) (hn : n < r.length) : CallsS Tryz.prog 130 [gmS g, .one (intsS (atG g n))] (.v (fS (wgt g n))) := by
  have hf := h.fine
  obtain ⟨h1, -, -, h4, h5⟩ := sizeOk_all hf.sz
  have hrl := h.good.2.2.1
  have hal := atG_length g n
  have i1 := intR_s 1 (by decide) (by decide)
  have hid := ridx_s g r h.seen (atG g n) (by omega) (n : Int) (.inl ⟨⟨h.good.1, h.good.2.1⟩, at_isProf (by omega), (whr_at (by omega)).symm⟩)
  refine calls Tryz.func130 rfl (by rfl) (by rfl) (by kernel_rfl) ?_
  simp -dsimp -implicitDefEqProofs [Tryz.f130]
  refine eCall.of hid (by simp) ?_
  simp -dsimp -implicitDefEqProofs [show ¬ ((n : Int) < 0) by omega]
  refine eCall.of i1 (by simp) ?_
  simp -dsimp -implicitDefEqProofs
  refine sw_loop_e (fun p : {p : Nat // p ≤ g.agents.length} => SS.of [(1, .v (.one (intsS (atG g n)))), (2, .v (.one (.mp 0 0))), (4, .v (.one (.mp 1 0))), (5, .v (.one (.mp 2 0))), (6, I .i64 p.1)] [(0, ⟨26, rowGm g⟩), (1, ⟨37, [.bool false, .nils, .nils]⟩), (2, ⟨37, rowFr (frQ (wgtTo g n p.1))⟩)] 3)
    (fun p => g.agents.length - p.1) ⟨0, Nat.zero_le _⟩ (by kernel_rfl) (Le.to (by simp) (by simp [wgtTo, frQ, ng]) (by simp)) ?_
  rintro ⟨i, hi⟩
  by_cases a1 : i < g.agents.length
  · have wi : IntKind.i64.wrap ((i : Int) + 1) = ((i + 1 : Nat) : Int) := by rw [wrap_i64 _ (by omega) (by omega)]; rfl
    have hs : Spot g r i n := ⟨h, a1, hn⟩
    obtain ⟨k1, k2⟩ := hs.kof
    have a2 : i < (atG g n).length := by omega
    have k1' : (atG g n)[i] = (kOf g n i : Int) := by rw [List.getElem?_eq_getElem a2] at k1; exact Option.some.inj k1
    have hkd := (h.kd (List.getElem_mem a1) (List.getElem_mem k2)).1
    have m0 := wgtTo_mz h hn i hi
    have m1 := wgtTo_mz h hn (i + 1) a1
    have z0 := (cap_mz (show mz (wgtTo g n i) ≤ 2048 by omega)).2
    obtain ⟨c1, z1⟩ := cap_mz (show mz (wgtTo g n (i + 1)) ≤ 2048 by omega)
    have hmu := mulR_s (frQ (wgtTo g n i)) (g.agents[i].kinds[kOf g n i]).weight (frQ_ok (by omega)) hkd.ok.2.1
    rw [fix_frQ z0, show wgtTo g n i * (g.agents[i].kinds[kOf g n i]).weight.fix = wgtTo g n (i + 1) by rw [wgtTo, kdAt_eq a1 k2], c1] at hmu
    simp -dsimp -implicitDefEqProofs [a1, a2, k1', k2, hal]
    refine eCall.of hmu (by simp [frQ, ng]) ?_
    simp -dsimp -implicitDefEqProofs
    exact Again.by ⟨i + 1, a1⟩ (Le.to (by simp [wi]) (by simp [frQ, ng]) (by simp)) (by simp; omega)
  have hi2 : i = g.agents.length := by omega
  subst hi2
  simp -dsimp -implicitDefEqProofs [wgt, hal, frQ, ng]
  try rfl

set_option maxRecDepth 20000 in
theorem total4_s (g : Gm) (r : List Ce) (h : Play g r) (n : Nat) (hn : n < r.length) : CallsS Tryz.prog 129 [gmS g, ruS r, .one (.int .i64 (n : Int))] (.v (fS (totTo g r n g.agents.length))) := by
  have hf := h.fine
  obtain ⟨h1, -, -, h4, h5⟩ := sizeOk_all hf.sz
  have hrl := h.good.2.2.1
  have hal := atG_length g n
  have i0 := intR_s 0 (by decide) (by decide)
  refine calls Tryz.func129 rfl (by rfl) (by rfl) (by kernel_rfl) ?_
  simp -dsimp -implicitDefEqProofs [Tryz.f129]
  refine eCall.of (at_s g hf n (by omega)) (by simp) ?_
  simp -dsimp -implicitDefEqProofs
  refine eCall.of i0 (by simp) ?_
  simp -dsimp -implicitDefEqProofs
  refine sw_loop_e (fun p : {p : Nat // p ≤ g.agents.length} => SS.of [(2, I .i64 n), (3, .v (.one (.mp 0 0))), (4, .v (.one (.mp 1 0))), (6, .v (.one (.mp 2 0))), (7, .v (.one (intsS (atG g n)))), (8, .v (.one (.mp 3 0))), (9, I .i64 p.1)] [(0, ⟨26, rowGm g⟩), (1, ⟨29, [cesS r]⟩), (2, ⟨37, [.bool false, .nils, .nils]⟩), (3, ⟨37, rowFr (frQ (totTo g r n p.1))⟩)] 4)
    (fun p => g.agents.length - p.1) ⟨0, Nat.zero_le _⟩ (by kernel_rfl) (Le.to (by simp) (by simp [totTo, frQ, ng]) (by simp)) ?_
  rintro ⟨a, ha⟩
  by_cases a1 : a < g.agents.length
  · have wa : IntKind.i64.wrap ((a : Int) + 1) = ((a + 1 : Nat) : Int) := by rw [wrap_i64 _ (by omega) (by omega)]; rfl
    have hsp : Spot g r a n := ⟨h, a1, hn⟩
    obtain ⟨k1, k2⟩ := hsp.kof
    have al : a < (atG g n).length := by rw [atG_length]; exact a1
    have k1' : (atG g n)[a] = (kOf g n a : Int) := by rw [List.getElem?_eq_getElem al] at k1; exact Option.some.inj k1
    have hP := hsp.pair hn k2
    obtain ⟨d1, d2, d3⟩ := hP.dot
    have hdo := dotF_s _ _ 31 hP.cf.ok.2.2.1 hP.kf.ok.2.2.2.2 hP.len d1 (by omega)
    have hdz := sz_cap (sumQ (dotL (ceAt r n).lot (kdAt g a (kOf g n a)).worth))
    have e1 : cap (sumQ (dotL (ceAt r n).lot (kdAt g a (kOf g n a)).worth)) = sumQ (dotL r[n].lot (g.agents[a].kinds[kOf g n a]).worth) := by
      rw [ceAt_eq hn, kdAt_eq a1 k2]; exact (cap_mz (by omega)).1
    rw [← e1] at hdo
    have htz := totTo_sz g r n a
    have hda := addR_s (frQ (totTo g r n a)) (frQ (cap (sumQ (dotL (ceAt r n).lot (kdAt g a (kOf g n a)).worth)))) (frQ_ok (by omega)) (frQ_ok (by omega))
    rw [fix_frQ htz, fix_frQ hdz, show cap (totTo g r n a + cap (sumQ (dotL (ceAt r n).lot (kdAt g a (kOf g n a)).worth))) = totTo g r n (a + 1) from rfl] at hda
    simp -dsimp -implicitDefEqProofs [a1, al, k1', k2, hal, hn]
    refine eCall.of hdo (by simp) ?_
    simp -dsimp -implicitDefEqProofs
    refine eCall.of hda (by simp [frQ, ng]) ?_
    simp -dsimp -implicitDefEqProofs
    exact Again.by ⟨a + 1, a1⟩ (Le.to (by simp [wa]) (by simp [frQ, ng]) (by simp)) (by simp; omega)
  have ha2 : a = g.agents.length := by omega
  subst ha2
  simp -dsimp -implicitDefEqProofs [hal, frQ, ng]
  try rfl

set_option maxRecDepth 20000 in
set_option maxHeartbeats 1000000 in
theorem worst4_s (g : Gm) (r : List Ce) (h : Play g r) : CallsS Tryz.prog 127 [gmS g, ruS r] (.v (fS (lowQ g r))) := by
  have hf := h.fine
  obtain ⟨h1, -, -, h4, h5⟩ := sizeOk_all hf.sz
  have hrl := h.good.2.2.1
  have hr0 : 0 < r.length := by
    have := prod_pos (l := g.agents) (fun a ha => (h.good.2.1.all a ha).1) g.agents.length (Nat.le_refl _)
    rwa [List.take_length, ← h.good.2.2.1] at this
  have ha0 : 0 < g.agents.length := List.length_pos_iff.2 h.good.2.1.ag
  have use : ∀ {a n : Nat} (hs : Spot g r a n), CallsS Tryz.prog 102 [gmS g, ruS r, .one (.int .i64 (a : Int)), .one (.int .i64 (kOf g n a : Int)), .one (.int .i64 (n : Int))] (.v (fS (useQ g r n a))) := fun {a n} hs => by
    obtain ⟨k1, k2⟩ := hs.kof
    have hu : useQ g r n a = hasQ (r[n]'hs.hn) ((g.agents[a]'hs.ha).kinds[kOf g n a]) a := by unfold useQ; rw [ceAt_eq hs.hn, kdAt_eq hs.ha k2]
    rw [hu]
    exact hasP_s g r a (kOf g n a) n hs.ha k2 hs.hn (hs.pair hs.hn k2)
  have s0 : Spot g r 0 0 := ⟨h, ha0, hr0⟩
  obtain ⟨k1, k2⟩ := s0.kof
  have al0 : 0 < (atG g 0).length := by rw [atG_length]; exact ha0
  have k10 : (atG g 0)[0] = (kOf g 0 0 : Int) := by rw [List.getElem?_eq_getElem al0] at k1; exact Option.some.inj k1
  refine calls Tryz.func127 rfl (by rfl) (by rfl) (by kernel_rfl) ?_
  simp -dsimp -implicitDefEqProofs [Tryz.f127]
  refine eCall.of (at_s g hf 0 (by omega)) (by simp) ?_
  simp -dsimp -implicitDefEqProofs [al0, k10]
  refine eCall.of (use s0) (by simp) ?_
  simp -dsimp -implicitDefEqProofs
  refine sw_loop_e (fun p : {p : Nat × Nat // p.1 ≤ r.length} => SS.of [(2, .v (.one (.mp 0 0))), (3, .v (.one (.mp 1 0))), (4, .v (.one (.mp 2 0))), (6, .v (.one (.mp 3 0))), (7, I .i64 p.1.1)] [(0, ⟨26, rowGm g⟩), (1, ⟨29, [cesS r]⟩), (2, ⟨37, [.bool false, .nils, .nils]⟩), (3, ⟨37, rowFr (frQ (lowN g r p.1.1 0))⟩)] (p.1.2 + 4))
    (fun p => r.length - p.1.1) ⟨(0, 0), Nat.zero_le _⟩ (by kernel_rfl) (Le.to (by simp) (by simp [lowN, usesTo, usesP, frQ, ng]) (by simp)) ?_
  rintro ⟨⟨n, c⟩, hn⟩
  simp only at hn
  by_cases a1 : n < r.length
  · have wn : IntKind.i64.wrap ((n : Int) + 1) = ((n + 1 : Nat) : Int) := by rw [wrap_i64 _ (by omega) (by omega)]; rfl
    have hal := atG_length g n
    simp -dsimp -implicitDefEqProofs [a1]
    refine eCall.of (at_s g hf n (by omega)) (by simp) ?_
    simp -dsimp -implicitDefEqProofs
    refine sw_loop_e (fun p : {p : Nat × Nat // p.1 ≤ g.agents.length} => SS.of [(2, .v (.one (.mp 0 0))), (3, .v (.one (.mp 1 0))), (4, .v (.one (.mp 2 0))), (5, .v (.one (intsS (atG g n)))), (6, .v (.one (.mp 3 0))), (7, I .i64 n), (8, I .i64 p.1.1)] [(0, ⟨26, rowGm g⟩), (1, ⟨29, [cesS r]⟩), (2, ⟨37, [.bool false, .nils, .nils]⟩), (3, ⟨37, rowFr (frQ (lowN g r n p.1.1))⟩)] (p.1.2 + 4))
      (fun p => g.agents.length - p.1.1) ⟨(0, c), Nat.zero_le _⟩ (by kernel_rfl) (Le.to (by simp) (by simp) (by simp)) ?_
    rintro ⟨⟨a, d⟩, ha⟩
    simp only at ha
    by_cases a2 : a < g.agents.length
    · have wa : IntKind.i64.wrap ((a : Int) + 1) = ((a + 1 : Nat) : Int) := by rw [wrap_i64 _ (by omega) (by omega)]; rfl
      have hs : Spot g r a n := ⟨h, a2, a1⟩
      obtain ⟨k1, k2⟩ := hs.kof
      have al : a < (atG g n).length := by omega
      have k1' : (atG g n)[a] = (kOf g n a : Int) := by rw [List.getElem?_eq_getElem al] at k1; exact Option.some.inj k1
      have z1 := (cap_mz (show mz (useQ g r n a) ≤ 2048 by have := hs.use.1; omega)).2
      have z2 := (cap_mz (show mz (lowN g r n a) ≤ 2048 by have := lowN_mz h a1 ha; omega)).2
      have hcm := cmpR_s (frQ (useQ g r n a)) (frQ (lowN g r n a)) (frQ_ok (by omega)) (frQ_ok (by omega))
      rw [fix_frQ z1, fix_frQ z2] at hcm
      have hst := lowN_step g r n a
      simp -dsimp -implicitDefEqProofs [al, k1', hal, a2]
      refine eCall.of (use hs) (by simp) ?_
      simp -dsimp -implicitDefEqProofs
      refine eCall.of hcm (by simp [frQ, ng]) ?_
      by_cases c1 : useQ g r n a < lowN g r n a
      · rw [minF, if_pos c1] at hst
        simp -dsimp -implicitDefEqProofs [cmpQ_neg.2 c1]
        exact Again.by ⟨(a + 1, d + 1), a2⟩ (Le.to (by simp [wa]) (by simp [hst, frQ, ng]) (by simp)) (by simp; omega)
      · rw [minF, if_neg c1] at hst
        simp -dsimp -implicitDefEqProofs [mt cmpQ_neg.1 c1]
        exact Again.by ⟨(a + 1, d + 1), a2⟩ (Le.to (by simp [wa]) (by simp [hst]) (by simp)) (by simp; omega)
    have ha2 : a = g.agents.length := by omega
    subst ha2
    have hnx := lowN_next g r n
    simp -dsimp -implicitDefEqProofs [hal]
    exact Again.by ⟨(n + 1, d), a1⟩ (Le.to (by simp [wn]) (by simp [hnx]) (by simp)) (by simp; omega)
  have hn2 : n = r.length := by omega
  subst hn2
  have he : lowQ g r = lowN g r r.length 0 := by rw [low_minF h]; unfold lowN usesL; simp [usesP]
  simp -dsimp -implicitDefEqProofs [he, frQ, ng]
  try rfl

theorem aimQ_sz {g : Gm} {r : List Ce} (h : Play g r) : sz (aimQ g r) ≤ 4096 := by
  unfold aimQ
  split
  · rw [low_minF h]
    have h0 : mz (useQ g r 0 0) ≤ 222 := (Spot.use ⟨h, List.length_pos_iff.2 h.good.2.1.ag, by
      have := prod_pos (l := g.agents) (fun a ha => (h.good.2.1.all a ha).1) g.agents.length (Nat.le_refl _)
      rwa [List.take_length, ← h.good.2.2.1] at this⟩).1
    have := fold_minF h0 (usesL g r) (fun x hx => mem_uses h hx) _ h0
    exact (cap_mz (by omega)).2
  · exact aimTo_sz g r _

end Go.Proofs.YtmgaoecfipkjbaaGreat.Sh

/- The law of mixtures. -/
namespace Go.Proofs.YtmgaoecfipkjbaaGreat.Sh
open Go Go.RowKit

theorem IsMix.cases {g : Gm} {a b : List Ce} {w : Rat} {res : List Ce} {e : Int} (hm : IsMix g a b w res e) (ha : Seen g a) (hb : Seen g b) (hfar : far g = false) (sa : ∀ c ∈ a, CeSix c) (sb : ∀ c ∈ b, CeSix c) (w6 : mz w ≤ 6) :
    (res = [] ∧ ¬ e = 0) ∨ (res = mixR w a b ∧ e = 0 ∧ Mx g a b w ∧ Play g (mixR w a b)) := by
  by_cases h1 : sizeOk g = true ∧ RightOk g
  · by_cases h2 : RuleOk g a ∧ RuleOk g b
    · by_cases h3 : 0 ≤ w ∧ w ≤ 1
      · by_cases h4 : ∀ c ∈ mixR w a b, FitsOk g c
        · obtain ⟨r1, r2⟩ := hm.good h1 h2 h3 h4
          have hx : Mx g a b w := ⟨⟨ha, hfar, h1.1, h1.2, h2.1⟩, ⟨hb, hfar, h1.1, h1.2, h2.2⟩, sa, sb, w6, h3.1, h3.2⟩
          exact .inr ⟨r1, r2, hx, hx.play h4⟩
        · obtain ⟨r1, r2⟩ := hm.cell h1 h2 h3 h4; exact .inl ⟨r1, by omega⟩
      · obtain ⟨r1, r2⟩ := hm.lot h1 h2 h3; exact .inl ⟨r1, by omega⟩
    · obtain ⟨r1, r2⟩ := hm.rule h1 h2; exact .inl ⟨r1, by omega⟩
  · obtain ⟨r1, r2⟩ := hm.game h1; exact .inl ⟨r1, by omega⟩

theorem low_mz {g : Gm} {r : List Ce} (h : Play g r) : mz (lowQ g r) ≤ 222 := by
  rw [low_minF h]
  have h0 : mz (useQ g r 0 0) ≤ 222 := (Spot.use ⟨h, List.length_pos_iff.2 h.good.2.1.ag, by
    have := prod_pos (l := g.agents) (fun a ha => (h.good.2.1.all a ha).1) g.agents.length (Nat.le_refl _)
    rwa [List.take_length, ← h.good.2.2.1] at this⟩).1
  exact fold_minF h0 (usesL g r) (fun x hx => mem_uses h hx) _ h0

theorem aim_over {g : Gm} {r : List Ce} (h : Play g r) (six : ∀ c ∈ r, CeSix c) (h2 : ¬ g.aim = 2) : Over (DA g r) (W ^ 23) (aimQ g r) := by
  have h16 := (sizeOk_all h.fine.sz).2.2.2.2
  have hrl := h.good.2.2.1
  rw [aimQ, if_neg h2, aimTo_sum h six r.length (Nat.le_refl _)]
  exact sum_over h six (fun n hn => List.mem_range.1 hn) (by rw [List.length_range]; omega)

/-- The mean of two aims is told as it is. -/
theorem Mx.mean {g : Gm} {a b : List Ce} {w : Rat} (h : Mx g a b w) : Sh.sz (w * aimQ g a) ≤ 4096 ∧ Sh.sz ((1 - w) * aimQ g b) ≤ 4096 ∧ Sh.sz (mixQ w (aimQ g a) (aimQ g b)) ≤ 4096 := by
  by_cases h2 : g.aim = 2
  · have e1 : aimQ g a = lowQ g a := if_pos h2
    have e2 : aimQ g b = lowQ g b := if_pos h2
    rw [e1, e2]
    have m1 := low_mz h.pa
    have m2 := low_mz h.pb
    have m3 := h.w6
    have m4 := h.w8
    have m5 := mz_mul w (lowQ g a)
    have m6 := mz_mul (1 - w) (lowQ g b)
    have m7 := mz_add (w * lowQ g a) ((1 - w) * lowQ g b)
    unfold mixQ
    exact ⟨(cap_mz (by omega)).2, (cap_mz (by omega)).2, (cap_mz (by omega)).2⟩
  · exact h.sz (aim_over h.pa h.sa h2) (aim_over h.pb h.sb h2)

theorem Mx.aim {g : Gm} {a b : List Ce} {w : Rat} (h : Mx g a b w) (hr : Play g (mixR w a b)) (h2 : ¬ g.aim = 2) : aimQ g (mixR w a b) = mixQ w (aimQ g a) (aimQ g b) := by
  rw [aimQ, aimQ, aimQ, if_neg h2, if_neg h2, if_neg h2, h.lenR, h.aimTo hr _ (Nat.le_refl _), ← h.len]

theorem mixL_right {w : Rat} (hw : mz w ≤ 6) (l m : List FR) (hl : ∀ f ∈ l, mz f.fix ≤ 6) (hm : ∀ f ∈ m, mz f.fix ≤ 6) : ∀ f ∈ mixL w l m, f.right = true := fun f hf => by
  obtain ⟨i, hi, rfl⟩ := List.getElem_of_mem hf
  have hi' := hi
  unfold mixL at hi'
  rw [List.length_zipWith] at hi'
  have e : (mixL w l m)[i] = mixF w (l[i]'(by omega)) (m[i]'(by omega)) := by simp [mixL]
  have g1 := hl _ (List.getElem_mem (show i < l.length by omega))
  have g2 := hm _ (List.getElem_mem (show i < m.length by omega))
  have g3 := mixQ_mz hw g1 g2
  rw [e]
  exact right_frQ (cap_mz (by omega)).2
theorem Mx.right {g : Gm} {a b : List Ce} {w : Rat} (h : Mx g a b w) : ∀ c ∈ mixR w a b, (∀ f ∈ c.lot, f.right = true) ∧ ∀ f ∈ c.pay, f.right = true := fun c hc => by
  obtain ⟨i, hi, rfl⟩ := List.getElem_of_mem hc
  have hi' : i < a.length := by rw [← h.lenR]; exact hi
  obtain ⟨c1, c2, -⟩ := h.cells hi'
  rw [← ceAt_eq hi, h.ce hi']
  exact ⟨mixL_right h.w6 _ _ c1.lot c2.lot, mixL_right h.w6 _ _ c1.pay c2.pay⟩
theorem Mx.meets {g : Gm} {a b : List Ce} {w : Rat} (h : Mx g a b w) (hr : Play g (mixR w a b)) {i : Nat} (hi : i < g.needs.length) (h1 : MeetAll g a g.needs[i]) (h2 : MeetAll g b g.needs[i]) : MeetAll g (mixR w a b) g.needs[i] := fun m hm => by
  have hm' : m < a.length := by rw [← h.lenR]; exact hm
  exact h.meet hr (hr.good.2.1.needs i hi).1 hm' (h1 m hm') (h2 m (by rw [← h.len]; exact hm'))

set_option maxRecDepth 20000 in
set_option maxHeartbeats 1000000 in
theorem lawMix_s (g : Gm) (a b : List Ce) (w : FR) (hg : g.ok) (la : lenOk a) (ha : ∀ c ∈ a, c.ok) (lb : lenOk b) (hb : ∀ c ∈ b, c.ok) (hw : w.ok) : CallsS Tryz.prog 10 [gmS g, .agg (cesS a :: cesS b :: rowFr w)] (B true) := by
  have hba := bey4_s g a hg la ha
  have hbb := bey4_s g b hg lb hb
  refine calls_cut 11 (fun _ : PLift (Mx g a b w.fix ∧ Play g (mixR w.fix a b)) => SS.of [(2, .v (.one (.mp 0 0))), (5, .v (.one (.mp 2 0))), (6, .v (.one (.mp 3 0))), (7, .v (.one (.mp 4 0))), (10, .v (.one (.mp 6 0)))] [(0, ⟨26, rowGm g⟩), (2, ⟨29, [cesS a]⟩), (3, ⟨29, [cesS b]⟩), (4, ⟨37, rowFr w⟩), (6, ⟨29, [cesS (mixR w.fix a b)]⟩)] 10) Tryz.func10 rfl (by rfl) (by rfl) (by rfl) (by kernel_rfl) (by kernel_rfl) ?_ ?_
  · simp -dsimp -implicitDefEqProofs
    refine eCall.of hba (by simp) ?_
    cases h1 : far g with
    | true => simp -dsimp -implicitDefEqProofs
    | false =>
    cases h2 : beyondRule a with
    | true => simp -dsimp -implicitDefEqProofs
    | false =>
    rw [h1, Bool.false_or] at hbb
    simp -dsimp -implicitDefEqProofs
    refine eCall.of hbb (by simp) ?_
    cases h3 : beyondRule b with
    | true => simp -dsimp -implicitDefEqProofs
    | false =>
    simp -dsimp -implicitDefEqProofs
    refine eCall.of (big_s w hw) (by simp) ?_
    by_cases h6 : 6 < w.big
    · have h6' : (6 : Int) < (w.big : Int) := by omega
      simp -dsimp -implicitDefEqProofs [h6, h6']
    have h6' : ¬ (6 : Int) < (w.big : Int) := by omega
    have w6 : mz w.fix ≤ 6 := fixBig hw (by omega) (by omega)
    have sa := six_of ha h2
    have sb := six_of hb h3
    have hsa := seen_of hg ha h1 h2
    have hsb := seen_of hg hb h1 h3
    obtain ⟨res, e, hm⟩ := isMix_of g a b w.fix
    simp -dsimp -implicitDefEqProofs [h6, h6']
    refine eCall.of (mix4_s g a b w hsa hsb h1 sa sb hw w6 res e hm) (by simp) ?_
    simp -dsimp -implicitDefEqProofs
    refine eCall.of (mix_s g a b w hsa hsb h1 sa sb hw w6 res e hm) (by simp) ?_
    simp -dsimp -implicitDefEqProofs
    rcases hm.cases hsa hsb h1 sa sb w6 with ⟨rfl, he⟩ | ⟨rfl, rfl, hx, hr⟩
    · have hs := same4_s [] (by simp) (by simp) (by simp) (by simp)
      refine eCall.of hs (by simp) ?_
      simp -dsimp -implicitDefEqProofs [he]
      refine eCall.of hs (by simp) ?_
      simp -dsimp -implicitDefEqProofs
      refine eCall.of fixed_s (by simp) ?_
      simp -dsimp -implicitDefEqProofs
    have hrl := hx.lenR
    have hsc := hx.seen.ce
    obtain ⟨q1, q2, -⟩ := sizeOk_all hr.fine.sz
    have hs := same4_s (mixR w.fix a b) (fun c hc => (hsc c hc).ok) hx.right (by have := hsa.len; omega) (fun c hc => by
      obtain ⟨c1, c2, c3⟩ := hr.ce hc
      omega)
    obtain ⟨l1, ok1, t1⟩ := isTr_of (g := g) (r := a)
    obtain ⟨l2, ok2, t2⟩ := isTr_of (g := g) (r := b)
    obtain ⟨l3, ok3, t3⟩ := isTr_of (g := g) (r := mixR w.fix a b)
    refine eCall.of hs (by simp) ?_
    simp -dsimp -implicitDefEqProofs
    refine eCall.of (rtruth_s g a hx.pa l1 ok1 t1) (by simp) ?_
    simp -dsimp -implicitDefEqProofs
    refine eCall.of (rtruth_s g b hx.pb l2 ok2 t2) (by simp) ?_
    simp -dsimp -implicitDefEqProofs
    refine eCall.of (rtruth_s g _ hr l3 ok3 t3) (by simp) ?_
    have hok : ok1 = true → ok2 = true → ok3 = true := fun c1 c2 => t3.iff.2 fun x hx' => hx.noA hx' (t1.iff.1 c1 x hx') (t2.iff.1 c2 x hx')
    cases ok1 with
    | false =>
      simp -dsimp -implicitDefEqProofs
      exact Cut.by ⟨hx, hr⟩ (Le.to (by simp) (by simp) (by simp))
    | true =>
    cases ok2 with
    | false =>
      simp -dsimp -implicitDefEqProofs
      exact Cut.by ⟨hx, hr⟩ (Le.to (by simp) (by simp) (by simp))
    | true =>
    obtain rfl := hok rfl rfl
    simp -dsimp -implicitDefEqProofs
    exact Cut.by ⟨hx, hr⟩ (Le.to (by simp) (by simp) (by simp))
  rintro ⟨hx, hr⟩
  have hnl := (sizeOk_all hr.fine.sz).2.2.1
  simp -dsimp -implicitDefEqProofs
  refine sw_loop_e (fun p : {p : Nat // p ≤ g.needs.length} => SS.of [(2, .v (.one (.mp 0 0))), (5, .v (.one (.mp 2 0))), (6, .v (.one (.mp 3 0))), (7, .v (.one (.mp 4 0))), (10, .v (.one (.mp 6 0))), (18, I .i64 p.1)] [(0, ⟨26, rowGm g⟩), (2, ⟨29, [cesS a]⟩), (3, ⟨29, [cesS b]⟩), (4, ⟨37, rowFr w⟩), (6, ⟨29, [cesS (mixR w.fix a b)]⟩)] 10)
    (fun p => g.needs.length - p.1) ⟨0, Nat.zero_le _⟩ (by kernel_rfl) (Le.to (by simp) (by simp) (by simp)) ?_
  rintro ⟨i, hi⟩
  by_cases a1 : i < g.needs.length
  · have wi : IntKind.i64.wrap ((i : Int) + 1) = ((i + 1 : Nat) : Int) := by rw [wrap_i64 _ (by omega) (by omega)]; rfl
    have hno := hr.fine.ok.n _ (List.getElem_mem a1)
    have hsh := (hr.good.2.1.needs i a1).1
    obtain ⟨b1, hb1⟩ := bool_of (MeetAll g a g.needs[i])
    obtain ⟨b2, hb2⟩ := bool_of (MeetAll g b g.needs[i])
    obtain ⟨b3, hb3⟩ := bool_of (MeetAll g (mixR w.fix a b) g.needs[i])
    have hbb : b1 = true → b2 = true → b3 = true := fun c1 c2 => hb3.2 (hx.meets hr a1 (hb1.1 c1) (hb2.1 c2))
    have m1 := meetsNeed4_s g a hx.pa g.needs[i] hno hsh b1 hb1
    have m2 := meetsNeed4_s g b hx.pb g.needs[i] hno hsh b2 hb2
    have m3 := meetsNeed4_s g _ hr g.needs[i] hno hsh b3 hb3
    simp -dsimp -implicitDefEqProofs [a1]
    refine eCall.of m1 (by simp) ?_
    cases b1 with
    | false =>
      simp -dsimp -implicitDefEqProofs
      exact Again.by ⟨i + 1, a1⟩ (Le.to (by simp [wi]) (by simp) (by simp)) (by simp; omega)
    | true =>
    simp -dsimp -implicitDefEqProofs [a1]
    refine eCall.of m2 (by simp) ?_
    cases b2 with
    | false =>
      simp -dsimp -implicitDefEqProofs
      exact Again.by ⟨i + 1, a1⟩ (Le.to (by simp [wi]) (by simp) (by simp)) (by simp; omega)
    | true =>
    obtain rfl := hbb rfl rfl
    simp -dsimp -implicitDefEqProofs [a1]
    refine eCall.of m3 (by simp) ?_
    simp -dsimp -implicitDefEqProofs
    exact Again.by ⟨i + 1, a1⟩ (Le.to (by simp [wi]) (by simp) (by simp)) (by simp; omega)
  have hi2 : i = g.needs.length := by omega
  subst hi2
  obtain ⟨z1, z2, z3⟩ := hx.mean
  have y1 := aimQ_sz hx.pa
  have y2 := aimQ_sz hx.pb
  have y3 := aimQ_sz hr
  have y4 := (cap_mz (show mz (1 - w.fix) ≤ 2048 by have := hx.w8; omega)).2
  have c1 := mulR_s w (frQ (aimQ g a)) hw (frQ_ok (by omega))
  rw [fix_frQ y1, cap_of z1] at c1
  obtain ⟨one, h1e, hone⟩ : ∃ q : Rat, q = 1 ∧ CallsS Tryz.prog 53 [.one (.int .i64 1)] (.v (fS q)) := ⟨1, rfl, intR_s 1 (by decide) (by decide)⟩
  have y5 : sz one ≤ 4096 := by rw [h1e]; decide +kernel
  have c2 := subR_s (frQ one) w (frQ_ok (by omega)) hw
  rw [fix_frQ y5, show one - w.fix = 1 - w.fix by rw [h1e], cap_of y4] at c2
  have c3 := mulR_s (frQ (1 - w.fix)) (frQ (aimQ g b)) (frQ_ok (by omega)) (frQ_ok (by omega))
  rw [fix_frQ y2, fix_frQ y4, cap_of z2] at c3
  have c4 := addR_s (frQ (w.fix * aimQ g a)) (frQ ((1 - w.fix) * aimQ g b)) (frQ_ok (by omega)) (frQ_ok (by omega))
  rw [fix_frQ z1, fix_frQ z2, show w.fix * aimQ g a + (1 - w.fix) * aimQ g b = mixQ w.fix (aimQ g a) (aimQ g b) from rfl, cap_of z3] at c4
  have c5 := cmpR_s (frQ (aimQ g (mixR w.fix a b))) (frQ (mixQ w.fix (aimQ g a) (aimQ g b))) (frQ_ok (by omega)) (frQ_ok (by omega))
  have c6 := sameR_s (frQ (aimQ g (mixR w.fix a b))) (frQ (mixQ w.fix (aimQ g a) (aimQ g b))) (frQ_ok (by omega)) (frQ_ok (by omega))
  rw [fix_frQ y3, fix_frQ z3] at c5 c6
  simp -dsimp -implicitDefEqProofs
  refine eCall.of (raim_s g a hx.pa) (by simp) ?_
  simp -dsimp -implicitDefEqProofs
  refine eCall.of c1 (by simp [frQ, ng]) ?_
  simp -dsimp -implicitDefEqProofs
  refine eCall.of hone (by simp) ?_
  simp -dsimp -implicitDefEqProofs
  refine eCall.of c2 (by simp [frQ, ng]) ?_
  simp -dsimp -implicitDefEqProofs
  refine eCall.of (raim_s g b hx.pb) (by simp) ?_
  simp -dsimp -implicitDefEqProofs
  refine eCall.of c3 (by simp [frQ, ng]) ?_
  simp -dsimp -implicitDefEqProofs
  refine eCall.of c4 (by simp [frQ, ng]) ?_
  by_cases h2 : g.aim = 2
  · have h2' := eq_true h2
    have hlow : ¬ aimQ g (mixR w.fix a b) < mixQ w.fix (aimQ g a) (aimQ g b) := by
      rw [aimQ, aimQ, aimQ, if_pos h2, if_pos h2, if_pos h2]
      exact Rat.not_lt.2 (hx.low hr)
    have hc0 : 0 ≤ cmpQ (aimQ g (mixR w.fix a b)) (mixQ w.fix (aimQ g a) (aimQ g b)) := Int.not_lt.1 (mt cmpQ_neg.1 hlow)
    simp -dsimp -implicitDefEqProofs [h2']
    refine eCall.of (raim_s g _ hr) (by simp) ?_
    simp -dsimp -implicitDefEqProofs
    refine eCall.of c5 (by simp [frQ, ng]) ?_
    simp -dsimp -implicitDefEqProofs [hc0]
    refine eCall.of fixed_s (by simp) ?_
    simp -dsimp -implicitDefEqProofs
  have h2' := eq_false h2
  rw [hx.aim hr h2, decide_eq_true rfl] at c6
  have c7 := raim_s g _ hr
  rw [hx.aim hr h2] at c7
  simp -dsimp -implicitDefEqProofs [h2']
  refine eCall.of c7 (by simp) ?_
  simp -dsimp -implicitDefEqProofs
  refine eCall.of c6 (by simp [frQ, ng]) ?_
  simp -dsimp -implicitDefEqProofs
  refine eCall.of fixed_s (by simp) ?_
  simp -dsimp -implicitDefEqProofs
end Go.Proofs.YtmgaoecfipkjbaaGreat.Sh

