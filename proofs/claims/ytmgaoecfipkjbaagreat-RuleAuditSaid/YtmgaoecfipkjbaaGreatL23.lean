/- A part of the proof: R79, R80, R81, R82, R83 -/
import Derived.Test.YtmgaoecfipkjbaaGreatL22
set_option linter.unusedSimpArgs false
set_option linter.unusedVariables false
/- The reference's Aim; the walk of RuleMeets. -/
namespace Go.Proofs.YtmgaoecfipkjbaaGreat.Sh
open Go Go.RowKit

def minF (b x : Rat) : Rat := if x < b then x else b
theorem mst_minF : ∀ (l : List Rat) (b : Rat), l.foldl (mst ltQ) (some b) = some (l.foldl minF b)
  | [], b => rfl
  | x :: l, b => by
    rw [List.foldl_cons, List.foldl_cons, show mst ltQ (some b) x = some (minF b x) by simp only [mst, ltQ, minF, decide_eq_true_eq]; split <;> rfl]
    exact mst_minF l _
theorem low_minF {g : Gm} {r : List Ce} (h : Play g r) : lowQ g r = (usesL g r).foldl minF (useQ g r 0 0) := by
  have hne := uses_ne h
  have h1 : 0 < r.length := by
    have := prod_pos (l := g.agents) (fun a ha => (h.good.2.1.all a ha).1) g.agents.length (Nat.le_refl _)
    rwa [List.take_length, ← h.good.2.2.1] at this
  have h2 : 0 < g.agents.length := List.length_pos_iff.2 h.good.2.1.ag
  have hd : ∃ t, usesL g r = useQ g r 0 0 :: t := by
    unfold usesL usesTo usesP
    obtain ⟨a, ha⟩ : ∃ a, r.length = a + 1 := ⟨r.length - 1, by omega⟩
    obtain ⟨b, hb⟩ : ∃ b, g.agents.length = b + 1 := ⟨g.agents.length - 1, by omega⟩
    rw [ha, hb, List.range_succ_eq_map (n := a), List.flatMap_cons, List.range_succ_eq_map (n := b), List.map_cons]
    exact ⟨_, rfl⟩
  obtain ⟨t, ht⟩ := hd
  rw [lowQ, ht, List.foldl_cons, List.foldl_cons, show mst ltQ none (useQ g r 0 0) = some (useQ g r 0 0) from rfl, mst_minF]
  show t.foldl minF (useQ g r 0 0) = t.foldl minF (minF (useQ g r 0 0) (useQ g r 0 0))
  rw [show minF (useQ g r 0 0) (useQ g r 0 0) = useQ g r 0 0 by unfold minF; split <;> rfl]
theorem fold_minF {q : Rat} (hq : mz q ≤ 68) : ∀ (l : List Rat), (∀ x ∈ l, mz x ≤ 68) → ∀ b, mz b ≤ 68 → mz (l.foldl minF b) ≤ 68
  | [], _, b, hb => hb
  | x :: l, h, b, hb => by
    rw [List.foldl_cons]
    refine fold_minF hq l (fun y hy => h y (List.mem_cons_of_mem _ hy)) _ ?_
    unfold minF; split
    · exact h x (List.mem_cons_self ..)
    · exact hb
def lowN (g : Gm) (r : List Ce) (n p : Nat) : Rat := (usesTo g r n ++ usesP g r n p).foldl minF (useQ g r 0 0)
theorem lowN_step (g : Gm) (r : List Ce) (n p : Nat) : lowN g r n (p + 1) = minF (lowN g r n p) (useQ g r n p) := by
  unfold lowN; rw [usesP_step, ← List.append_assoc, List.foldl_append]; rfl
theorem lowN_next (g : Gm) (r : List Ce) (n : Nat) : lowN g r (n + 1) 0 = lowN g r n g.agents.length := by
  unfold lowN; rw [usesTo_succ]; simp [usesP]
theorem lowN_mz {g : Gm} {r : List Ce} (h : Play g r) {n p : Nat} (hn : n < r.length) (hp : p ≤ g.agents.length) : mz (lowN g r n p) ≤ 68 := by
  have h0 : mz (useQ g r 0 0) ≤ 68 := (Spot.use ⟨h, List.length_pos_iff.2 h.good.2.1.ag, by omega⟩).1
  refine fold_minF h0 _ (fun x hx => ?_) _ h0
  obtain ⟨t, ht⟩ := uses_pre g r hn hp
  exact mem_uses h (by rw [← ht]; exact List.mem_append_left _ hx)

set_option maxRecDepth 20000 in
theorem weightR_s (g : Gm) (r : List Ce) (h : Play g r) (n : Nat) (hn : n < r.length) : CallsS Tryz.prog 130 [gmS g, .one (intsS (atG g n))] (.v (fS (wgt g n))) := by
  have hf := h.fine
  obtain ⟨h1, -, -, h4, h5⟩ := sizeOk_all hf.sz
  have hrl := h.good.2.2.1
  have hal := atG_length g n
  have i1 := intR_s 1 (by decide) (by decide)
  have hid := ridx_s g r h.seen (atG g n) (by omega) (n : Int) (.inl ⟨⟨h.good.1, h.good.2.1⟩, at_isProf (by omega), (whr_at (by omega)).symm⟩)
  refine calls Tryz.func130 rfl (by rfl) (by rfl) (by kernel_rfl) ?_
  simp -dsimp -implicitDefEqProofs [Tryz.f130]
  refine eCall.of hid (by simp) ?_
  simp -dsimp -implicitDefEqProofs [show ¬ ((n : Int) < 0) by omega]
  refine eCall.of i1 (by simp) ?_
  simp -dsimp -implicitDefEqProofs
  refine sw_loop_e (fun p : {p : Nat // p ≤ g.agents.length} => SS.of [(1, .v (.one (intsS (atG g n)))), (2, .v (.one (.mp 0 0))), (4, .v (.one (.mp 1 0))), (5, .v (.one (.mp 2 0))), (6, I .i64 p.1)] [(0, ⟨26, rowGm g⟩), (1, ⟨37, [.bool false, .nils, .nils]⟩), (2, ⟨37, rowFr (frQ (wgtTo g n p.1))⟩)] 3)
    (fun p => g.agents.length - p.1) ⟨0, Nat.zero_le _⟩ (by kernel_rfl) (Le.to (by simp) (by simp [wgtTo, frQ, ng]) (by simp)) ?_
  rintro ⟨i, hi⟩
  by_cases a1 : i < g.agents.length
  · have wi : IntKind.i64.wrap ((i : Int) + 1) = ((i + 1 : Nat) : Int) := by rw [wrap_i64 _ (by omega) (by omega)]; rfl
    have hs : Spot g r i n := ⟨h, a1, hn⟩
    obtain ⟨k1, k2⟩ := hs.kof
    have a2 : i < (atG g n).length := by omega
    have k1' : (atG g n)[i] = (kOf g n i : Int) := by rw [List.getElem?_eq_getElem a2] at k1; exact Option.some.inj k1
    have hkd := (h.kd (List.getElem_mem a1) (List.getElem_mem k2)).1
    have m0 := wgtTo_mz h hn i hi
    have m1 := wgtTo_mz h hn (i + 1) a1
    have z0 := (cap_mz (show mz (wgtTo g n i) ≤ 2048 by omega)).2
    obtain ⟨c1, z1⟩ := cap_mz (show mz (wgtTo g n (i + 1)) ≤ 2048 by omega)
    have hmu := mulR_s (frQ (wgtTo g n i)) (g.agents[i].kinds[kOf g n i]).weight (frQ_ok (by omega)) hkd.ok.2.1
    rw [fix_frQ z0, show wgtTo g n i * (g.agents[i].kinds[kOf g n i]).weight.fix = wgtTo g n (i + 1) by rw [wgtTo, kdAt_eq a1 k2], c1] at hmu
    simp -dsimp -implicitDefEqProofs [a1, a2, k1', k2, hal]
    refine eCall.of hmu (by simp [frQ, ng]) ?_
    simp -dsimp -implicitDefEqProofs
    exact Again.by ⟨i + 1, a1⟩ (Le.to (by simp [wi]) (by simp [frQ, ng]) (by simp)) (by simp; omega)
  have hi2 : i = g.agents.length := by omega
  subst hi2
  simp -dsimp -implicitDefEqProofs [wgt, hal, frQ, ng]
  try rfl

set_option maxRecDepth 20000 in
theorem total4_s (g : Gm) (r : List Ce) (h : Play g r) (n : Nat) (hn : n < r.length) : CallsS Tryz.prog 129 [gmS g, ruS r, .one (.int .i64 (n : Int))] (.v (fS (totTo g r n g.agents.length))) := by
  have hf := h.fine
  obtain ⟨h1, -, -, h4, h5⟩ := sizeOk_all hf.sz
  have hrl := h.good.2.2.1
  have hal := atG_length g n
  have i0 := intR_s 0 (by decide) (by decide)
  refine calls Tryz.func129 rfl (by rfl) (by rfl) (by kernel_rfl) ?_
  simp -dsimp -implicitDefEqProofs [Tryz.f129]
  refine eCall.of (at_s g hf n (by omega)) (by simp) ?_
  simp -dsimp -implicitDefEqProofs
  refine eCall.of i0 (by simp) ?_
  simp -dsimp -implicitDefEqProofs
  refine sw_loop_e (fun p : {p : Nat // p ≤ g.agents.length} => SS.of [(2, I .i64 n), (3, .v (.one (.mp 0 0))), (4, .v (.one (.mp 1 0))), (6, .v (.one (.mp 2 0))), (7, .v (.one (intsS (atG g n)))), (8, .v (.one (.mp 3 0))), (9, I .i64 p.1)] [(0, ⟨26, rowGm g⟩), (1, ⟨29, [cesS r]⟩), (2, ⟨37, [.bool false, .nils, .nils]⟩), (3, ⟨37, rowFr (frQ (totTo g r n p.1))⟩)] 4)
    (fun p => g.agents.length - p.1) ⟨0, Nat.zero_le _⟩ (by kernel_rfl) (Le.to (by simp) (by simp [totTo, frQ, ng]) (by simp)) ?_
  rintro ⟨a, ha⟩
  by_cases a1 : a < g.agents.length
  · have wa : IntKind.i64.wrap ((a : Int) + 1) = ((a + 1 : Nat) : Int) := by rw [wrap_i64 _ (by omega) (by omega)]; rfl
    have hsp : Spot g r a n := ⟨h, a1, hn⟩
    obtain ⟨k1, k2⟩ := hsp.kof
    have al : a < (atG g n).length := by rw [atG_length]; exact a1
    have k1' : (atG g n)[a] = (kOf g n a : Int) := by rw [List.getElem?_eq_getElem al] at k1; exact Option.some.inj k1
    have hP := hsp.pair hn k2
    obtain ⟨d1, d2, d3⟩ := hP.dot
    have hdo := dotF_s _ _ 9 hP.cf.ok.2.2.1 hP.kf.ok.2.2.2.2 hP.len d1 (by omega)
    have hdz := sz_cap (sumQ (dotL (ceAt r n).lot (kdAt g a (kOf g n a)).worth))
    have e1 : cap (sumQ (dotL (ceAt r n).lot (kdAt g a (kOf g n a)).worth)) = sumQ (dotL r[n].lot (g.agents[a].kinds[kOf g n a]).worth) := by
      rw [ceAt_eq hn, kdAt_eq a1 k2]; exact (cap_mz (by omega)).1
    rw [← e1] at hdo
    have htz := totTo_sz g r n a
    have hda := addR_s (frQ (totTo g r n a)) (frQ (cap (sumQ (dotL (ceAt r n).lot (kdAt g a (kOf g n a)).worth)))) (frQ_ok (by omega)) (frQ_ok (by omega))
    rw [fix_frQ htz, fix_frQ hdz, show cap (totTo g r n a + cap (sumQ (dotL (ceAt r n).lot (kdAt g a (kOf g n a)).worth))) = totTo g r n (a + 1) from rfl] at hda
    simp -dsimp -implicitDefEqProofs [a1, al, k1', k2, hal, hn]
    refine eCall.of hdo (by simp) ?_
    simp -dsimp -implicitDefEqProofs
    refine eCall.of hda (by simp [frQ, ng]) ?_
    simp -dsimp -implicitDefEqProofs
    exact Again.by ⟨a + 1, a1⟩ (Le.to (by simp [wa]) (by simp [frQ, ng]) (by simp)) (by simp; omega)
  have ha2 : a = g.agents.length := by omega
  subst ha2
  simp -dsimp -implicitDefEqProofs [hal, frQ, ng]
  try rfl

set_option maxRecDepth 20000 in
set_option maxHeartbeats 1000000 in
theorem worst4_s (g : Gm) (r : List Ce) (h : Play g r) : CallsS Tryz.prog 127 [gmS g, ruS r] (.v (fS (lowQ g r))) := by
  have hf := h.fine
  obtain ⟨h1, -, -, h4, h5⟩ := sizeOk_all hf.sz
  have hrl := h.good.2.2.1
  have hr0 : 0 < r.length := by
    have := prod_pos (l := g.agents) (fun a ha => (h.good.2.1.all a ha).1) g.agents.length (Nat.le_refl _)
    rwa [List.take_length, ← h.good.2.2.1] at this
  have ha0 : 0 < g.agents.length := List.length_pos_iff.2 h.good.2.1.ag
  have use : ∀ {a n : Nat} (hs : Spot g r a n), CallsS Tryz.prog 102 [gmS g, ruS r, .one (.int .i64 (a : Int)), .one (.int .i64 (kOf g n a : Int)), .one (.int .i64 (n : Int))] (.v (fS (useQ g r n a))) := fun {a n} hs => by
    obtain ⟨k1, k2⟩ := hs.kof
    have hu : useQ g r n a = hasQ (r[n]'hs.hn) ((g.agents[a]'hs.ha).kinds[kOf g n a]) a := by unfold useQ; rw [ceAt_eq hs.hn, kdAt_eq hs.ha k2]
    rw [hu]
    exact hasP_s g r a (kOf g n a) n hs.ha k2 hs.hn (hs.pair hs.hn k2)
  have s0 : Spot g r 0 0 := ⟨h, ha0, hr0⟩
  obtain ⟨k1, k2⟩ := s0.kof
  have al0 : 0 < (atG g 0).length := by rw [atG_length]; exact ha0
  have k10 : (atG g 0)[0] = (kOf g 0 0 : Int) := by rw [List.getElem?_eq_getElem al0] at k1; exact Option.some.inj k1
  refine calls Tryz.func127 rfl (by rfl) (by rfl) (by kernel_rfl) ?_
  simp -dsimp -implicitDefEqProofs [Tryz.f127]
  refine eCall.of (at_s g hf 0 (by omega)) (by simp) ?_
  simp -dsimp -implicitDefEqProofs [al0, k10]
  refine eCall.of (use s0) (by simp) ?_
  simp -dsimp -implicitDefEqProofs
  refine sw_loop_e (fun p : {p : Nat × Nat // p.1 ≤ r.length} => SS.of [(2, .v (.one (.mp 0 0))), (3, .v (.one (.mp 1 0))), (4, .v (.one (.mp 2 0))), (6, .v (.one (.mp 3 0))), (7, I .i64 p.1.1)] [(0, ⟨26, rowGm g⟩), (1, ⟨29, [cesS r]⟩), (2, ⟨37, [.bool false, .nils, .nils]⟩), (3, ⟨37, rowFr (frQ (lowN g r p.1.1 0))⟩)] (p.1.2 + 4))
    (fun p => r.length - p.1.1) ⟨(0, 0), Nat.zero_le _⟩ (by kernel_rfl) (Le.to (by simp) (by simp [lowN, usesTo, usesP, frQ, ng]) (by simp)) ?_
  rintro ⟨⟨n, c⟩, hn⟩
  simp only at hn
  by_cases a1 : n < r.length
  · have wn : IntKind.i64.wrap ((n : Int) + 1) = ((n + 1 : Nat) : Int) := by rw [wrap_i64 _ (by omega) (by omega)]; rfl
    have hal := atG_length g n
    simp -dsimp -implicitDefEqProofs [a1]
    refine eCall.of (at_s g hf n (by omega)) (by simp) ?_
    simp -dsimp -implicitDefEqProofs
    refine sw_loop_e (fun p : {p : Nat × Nat // p.1 ≤ g.agents.length} => SS.of [(2, .v (.one (.mp 0 0))), (3, .v (.one (.mp 1 0))), (4, .v (.one (.mp 2 0))), (5, .v (.one (intsS (atG g n)))), (6, .v (.one (.mp 3 0))), (7, I .i64 n), (8, I .i64 p.1.1)] [(0, ⟨26, rowGm g⟩), (1, ⟨29, [cesS r]⟩), (2, ⟨37, [.bool false, .nils, .nils]⟩), (3, ⟨37, rowFr (frQ (lowN g r n p.1.1))⟩)] (p.1.2 + 4))
      (fun p => g.agents.length - p.1.1) ⟨(0, c), Nat.zero_le _⟩ (by kernel_rfl) (Le.to (by simp) (by simp) (by simp)) ?_
    rintro ⟨⟨a, d⟩, ha⟩
    simp only at ha
    by_cases a2 : a < g.agents.length
    · have wa : IntKind.i64.wrap ((a : Int) + 1) = ((a + 1 : Nat) : Int) := by rw [wrap_i64 _ (by omega) (by omega)]; rfl
      have hs : Spot g r a n := ⟨h, a2, a1⟩
      obtain ⟨k1, k2⟩ := hs.kof
      have al : a < (atG g n).length := by omega
      have k1' : (atG g n)[a] = (kOf g n a : Int) := by rw [List.getElem?_eq_getElem al] at k1; exact Option.some.inj k1
      have z1 := (cap_mz (show mz (useQ g r n a) ≤ 2048 by have := hs.use.1; omega)).2
      have z2 := (cap_mz (show mz (lowN g r n a) ≤ 2048 by have := lowN_mz h a1 ha; omega)).2
      have hcm := cmpR_s (frQ (useQ g r n a)) (frQ (lowN g r n a)) (frQ_ok (by omega)) (frQ_ok (by omega))
      rw [fix_frQ z1, fix_frQ z2] at hcm
      have hst := lowN_step g r n a
      simp -dsimp -implicitDefEqProofs [al, k1', hal, a2]
      refine eCall.of (use hs) (by simp) ?_
      simp -dsimp -implicitDefEqProofs
      refine eCall.of hcm (by simp [frQ, ng]) ?_
      by_cases c1 : useQ g r n a < lowN g r n a
      · rw [minF, if_pos c1] at hst
        simp -dsimp -implicitDefEqProofs [cmpQ_neg.2 c1]
        exact Again.by ⟨(a + 1, d + 1), a2⟩ (Le.to (by simp [wa]) (by simp [hst, frQ, ng]) (by simp)) (by simp; omega)
      · rw [minF, if_neg c1] at hst
        simp -dsimp -implicitDefEqProofs [mt cmpQ_neg.1 c1]
        exact Again.by ⟨(a + 1, d + 1), a2⟩ (Le.to (by simp [wa]) (by simp [hst]) (by simp)) (by simp; omega)
    have ha2 : a = g.agents.length := by omega
    subst ha2
    have hnx := lowN_next g r n
    simp -dsimp -implicitDefEqProofs [hal]
    exact Again.by ⟨(n + 1, d), a1⟩ (Le.to (by simp [wn]) (by simp [hnx]) (by simp)) (by simp; omega)
  have hn2 : n = r.length := by omega
  subst hn2
  have he : lowQ g r = lowN g r r.length 0 := by rw [low_minF h]; unfold lowN usesL; simp [usesP]
  simp -dsimp -implicitDefEqProofs [he, frQ, ng]
  try rfl

set_option maxRecDepth 20000 in
set_option maxHeartbeats 1000000 in
theorem aim4_s (g : Gm) (r : List Ce) (h : Play g r) : CallsS Tryz.prog 61 [gmS g, ruS r] (.v (fS (aimQ g r))) := by
  have hf := h.fine
  obtain ⟨h1, -, -, h4, h5⟩ := sizeOk_all hf.sz
  have hrl := h.good.2.2.1
  have i0 := intR_s 0 (by decide) (by decide)
  refine calls Tryz.func61 rfl (by rfl) (by rfl) (by kernel_rfl) ?_
  simp -dsimp -implicitDefEqProofs [Tryz.f61]
  refine eCall.of (rightR4_s g r h.seen 0 (.inr (.inr ⟨h.good, rfl⟩))) (by simp) ?_
  by_cases c2 : g.aim = 2
  · have c2' := eq_true c2
    have hai : aimQ g r = lowQ g r := if_pos c2
    simp -dsimp -implicitDefEqProofs [c2']
    refine eCall.of (worst4_s g r h) (by simp) ?_
    simp -dsimp -implicitDefEqProofs [hai, frQ, ng]
    try rfl
  have c2' := eq_false c2
  have hai : aimQ g r = aimTo g r r.length := if_neg c2
  simp -dsimp -implicitDefEqProofs [c2']
  refine eCall.of i0 (by simp) ?_
  simp -dsimp -implicitDefEqProofs
  refine sw_loop_e (fun p : {p : Nat × Nat // p.1 ≤ r.length} => SS.of [(2, .v (.one (.mp 0 0))), (3, .v (.one (.mp 1 0))), (4, .v (.one (.mp 2 0))), (5, .v (.one (.mp 3 0))), (6, I .i64 p.1.1)] [(0, ⟨26, rowGm g⟩), (1, ⟨29, [cesS r]⟩), (2, ⟨37, [.bool false, .nils, .nils]⟩), (3, ⟨37, rowFr (frQ (aimTo g r p.1.1))⟩)] (p.1.2 + 4))
    (fun p => r.length - p.1.1) ⟨(0, 0), Nat.zero_le _⟩ (by kernel_rfl) (Le.to (by simp) (by simp [aimTo, frQ, ng]) (by simp)) ?_
  rintro ⟨⟨n, c⟩, hn⟩
  simp only at hn
  by_cases a1 : n < r.length
  · have wn : IntKind.i64.wrap ((n : Int) + 1) = ((n + 1 : Nat) : Int) := by rw [wrap_i64 _ (by omega) (by omega)]; rfl
    have hce := h.ce (List.getElem_mem a1)
    have hpay := paidR_s r[n] (hce.1.pays (by have := hce.2.2; omega))
    rw [show paidQ r[n] = paidQ (ceAt r n) by rw [ceAt_eq a1]] at hpay
    have hwz := wgt_sz h a1
    have hpz := partQ_sz g r n
    have haz := aimTo_sz g r n
    have hmu := mulR_s (frQ (wgt g n)) (frQ (partQ g r n)) (frQ_ok (by omega)) (frQ_ok (by omega))
    rw [fix_frQ hwz, fix_frQ hpz] at hmu
    have hcz := sz_cap (wgt g n * partQ g r n)
    have had := addR_s (frQ (aimTo g r n)) (frQ (cap (wgt g n * partQ g r n))) (frQ_ok (by omega)) (frQ_ok (by omega))
    rw [fix_frQ haz, fix_frQ hcz, show cap (aimTo g r n + cap (wgt g n * partQ g r n)) = aimTo g r (n + 1) from rfl] at had
    simp -dsimp -implicitDefEqProofs [a1]
    refine eCall.of hpay (by simp) ?_
    by_cases c1 : g.aim = 1
    · have c1' := eq_true c1
      have hpt : partQ g r n = totTo g r n g.agents.length := if_pos c1
      rw [hpt] at hmu had
      simp -dsimp -implicitDefEqProofs [c1']
      refine eCall.of (total4_s g r h n a1) (by simp) ?_
      simp -dsimp -implicitDefEqProofs
      refine eCall.of (at_s g hf n (by omega)) (by simp) ?_
      simp -dsimp -implicitDefEqProofs
      refine eCall.of (weightR_s g r h n a1) (by simp) ?_
      simp -dsimp -implicitDefEqProofs
      refine eCall.of hmu (by simp [frQ, ng]) ?_
      simp -dsimp -implicitDefEqProofs
      refine eCall.of had (by simp [frQ, ng]) ?_
      simp -dsimp -implicitDefEqProofs
      exact Again.by ⟨(n + 1, c + 1), a1⟩ (Le.to (by simp [wn]) (by simp [frQ, ng]) (by simp)) (by simp; omega)
    · have c1' := eq_false c1
      have hpt : partQ g r n = paidQ (ceAt r n) := if_neg c1
      rw [hpt] at hmu had
      simp -dsimp -implicitDefEqProofs [c1']
      refine eCall.of (at_s g hf n (by omega)) (by simp) ?_
      simp -dsimp -implicitDefEqProofs
      refine eCall.of (weightR_s g r h n a1) (by simp) ?_
      simp -dsimp -implicitDefEqProofs
      refine eCall.of hmu (by simp [frQ, ng]) ?_
      simp -dsimp -implicitDefEqProofs
      refine eCall.of had (by simp [frQ, ng]) ?_
      simp -dsimp -implicitDefEqProofs
      exact Again.by ⟨(n + 1, c + 1), a1⟩ (Le.to (by simp [wn]) (by simp [frQ, ng]) (by simp)) (by simp; omega)
  have hn2 : n = r.length := by omega
  subst hn2
  simp -dsimp -implicitDefEqProofs [hai, frQ, ng]
  try rfl

set_option maxRecDepth 20000 in
theorem aimNo4_s (g : Gm) (r : List Ce) (h : Seen g r) (hg : ¬ Good g r) : CallsS Tryz.prog 61 [gmS g, ruS r] (.v (fS 0)) := by
  obtain ⟨e, he, h0⟩ := isGood_of g r
  have h0 : ¬ e = 0 := fun h => hg (h0.1 h)
  have i0 := intR_s 0 (by decide) (by decide)
  refine calls Tryz.func61 rfl (by rfl) (by rfl) (by kernel_rfl) ?_
  simp -dsimp -implicitDefEqProofs [Tryz.f61]
  refine eCall.of (rightR4_s g r h e he) (by simp) ?_
  simp -dsimp -implicitDefEqProofs [h0]
  refine eCall.of i0 (by simp) ?_
  simp -dsimp -implicitDefEqProofs [frQ, ng]

theorem aimQ_sz {g : Gm} {r : List Ce} (h : Play g r) : sz (aimQ g r) ≤ 4096 := by
  unfold aimQ
  split
  · rw [low_minF h]
    have h0 : mz (useQ g r 0 0) ≤ 68 := (Spot.use ⟨h, List.length_pos_iff.2 h.good.2.1.ag, by
      have := prod_pos (l := g.agents) (fun a ha => (h.good.2.1.all a ha).1) g.agents.length (Nat.le_refl _)
      rwa [List.take_length, ← h.good.2.2.1] at this⟩).1
    have := fold_minF h0 (usesL g r) (fun x hx => mem_uses h hx) _ h0
    exact (cap_mz (by omega)).2
  · exact aimTo_sz g r _

set_option maxRecDepth 20000 in
theorem lawMeets_s (g : Gm) (r : List Ce) (hg : g.ok) (hl : lenOk r) (hr : ∀ c ∈ r, c.ok) : CallsS Tryz.prog 13 [gmS g, ruS r] (B true) := by
  refine calls Tryz.func13 rfl (by rfl) (by rfl) (by kernel_rfl) ?_
  simp -dsimp -implicitDefEqProofs [Tryz.f13]
  refine eCall.of (bey4_s g r hg hl hr) (by simp) ?_
  cases h1 : far g with
  | true => simp -dsimp -implicitDefEqProofs
  | false =>
  cases h2 : beyondRule r with
  | true => simp -dsimp -implicitDefEqProofs
  | false =>
  have hs := seen_of hg hr h1 h2
  by_cases hgd : Good g r
  · have hp : Play g r := ⟨hs, h1, hgd⟩
    obtain ⟨i, ok, hi⟩ := isMeets_of g r
    have hz := aimQ_sz hp
    simp -dsimp -implicitDefEqProofs
    refine eCall.of (meets4_s g r hp i ok hi) (by simp) ?_
    simp -dsimp -implicitDefEqProofs
    refine eCall.of (aim4_s g r hp) (by simp) ?_
    simp -dsimp -implicitDefEqProofs
    refine eCall.of (rmeetsAll_s g r hp i ok hi) (by simp) ?_
    simp -dsimp -implicitDefEqProofs
    refine eCall.of (raim_s g r hp) (by simp) ?_
    simp -dsimp -implicitDefEqProofs
    refine eCall.of (exact_s (frQ (aimQ g r)) (frQ_ok (by omega))) (by simp [frQ, ng]) ?_
    simp -dsimp -implicitDefEqProofs
    refine eCall.of fixed_s (by simp) ?_
    simp -dsimp -implicitDefEqProofs
  · simp -dsimp -implicitDefEqProofs
    refine eCall.of (meetsNo4_s g r hs hgd) (by simp) ?_
    simp -dsimp -implicitDefEqProofs
    refine eCall.of (aimNo4_s g r hs hgd) (by simp) ?_
    simp -dsimp -implicitDefEqProofs
    refine eCall.of (rmeetsNo_s g r hs hgd) (by simp) ?_
    simp -dsimp -implicitDefEqProofs
    refine eCall.of (raimNo_s g r hs hgd) (by simp) ?_
    simp -dsimp -implicitDefEqProofs
    refine eCall.of (exact_s (frQ 0) (by decide +kernel)) (by simp [frQ, ng]) ?_
    simp -dsimp -implicitDefEqProofs
    refine eCall.of fixed_s (by simp) ?_
    simp -dsimp -implicitDefEqProofs
end Go.Proofs.YtmgaoecfipkjbaaGreat.Sh

/- Audits: what a report would have gained. -/
namespace Go.Proofs.YtmgaoecfipkjbaaGreat.Sh
open Go Go.RowKit

/-- One entry's part. -/
def addT (g : Gm) (r : List Ce) (a k told : Nat) (z : Rat) (s : Sn) : Rat :=
  if s.prof[a]? = some (k : Int) then cap (z + cap ((s.count : Rat) * gainQ g r a (whr g s.prof).toNat told)) else z
def totA (g : Gm) (r : List Ce) (log : List Sn) (a k told : Nat) : Rat := log.foldl (addT g r a k told) 0
def totN (g : Gm) (r : List Ce) (log : List Sn) (a k told n : Nat) : Rat := (log.take n).foldl (addT g r a k told) 0
theorem totN_step {g : Gm} {r : List Ce} {log : List Sn} {a k told n : Nat} (h : n < log.length) : totN g r log a k told (n + 1) = addT g r a k told (totN g r log a k told n) log[n] := by
  unfold totN; rw [takeSnoc log n h, List.foldl_append]; rfl
theorem addT_sz {g : Gm} {r : List Ce} {a k told : Nat} {z : Rat} (hz : sz z ≤ 4096) (s : Sn) : sz (addT g r a k told z s) ≤ 4096 := by
  unfold addT; split
  · exact sz_cap _
  · exact hz
theorem totN_sz (g : Gm) (r : List Ce) (log : List Sn) (a k told : Nat) : ∀ n, sz (totN g r log a k told n) ≤ 4096 := by
  intro n
  unfold totN
  generalize log.take n = l
  have : ∀ (l : List Sn) z, sz z ≤ 4096 → sz (l.foldl (addT g r a k told) z) ≤ 4096 := by
    intro l
    induction l with
    | nil => intro z h; exact h
    | cons s l ih => intro z h; exact ih _ (addT_sz h s)
  exact this l 0 (by decide +kernel)
theorem totA_sz (g : Gm) (r : List Ce) (log : List Sn) (a k told : Nat) : sz (totA g r log a k told) ≤ 4096 := by
  have := totN_sz g r log a k told log.length
  unfold totN at this
  rwa [List.take_length] at this

/-- All entries are profiles, and no count is below 0. -/
def LogOk (g : Gm) (log : List Sn) : Prop := ∀ s ∈ log, isProf g s.prof ∧ 0 ≤ s.count

theorem cap_le {q : Rat} (h : q ≤ 0) : cap q ≤ 0 := by
  unfold cap; split
  · exact Rat.le_refl
  · exact h

theorem whr_lt {g : Gm} {r : List Ce} (h : Play g r) {p : List Int} (hp : isProf g p) : ∃ n : Nat, whr g p = (n : Int) ∧ n < r.length ∧ atG g n = p := by
  have hw := whrTo_le (g := g) (p := p) g.agents.length (Nat.le_refl _) hp.2
  rw [List.take_length] at hw
  have hrl := h.good.2.2.1
  exact ⟨(whr g p).toNat, by unfold whr at *; omega, by unfold whr at *; omega, at_whr hp⟩

theorem tot_le {g : Gm} {r : List Ce} (h : Play g r) {log : List Sn} (hl : LogOk g log) {a k told : Nat} (ha : a < g.agents.length) (ht : told < kl g a) (hno : NoA g r a) : totA g r log a k told ≤ 0 := by
  unfold totA
  have : ∀ (l : List Sn) z, (∀ s ∈ l, isProf g s.prof ∧ 0 ≤ s.count) → z ≤ 0 → l.foldl (addT g r a k told) z ≤ 0 := by
    intro l
    induction l with
    | nil => intro z _ h; exact h
    | cons s l ih =>
      intro z hs hz
      refine ih _ (fun s' hs' => hs s' (List.mem_cons_of_mem _ hs')) ?_
      obtain ⟨hp, hc⟩ := hs s (List.mem_cons_self ..)
      obtain ⟨n, h1, h2, -⟩ := whr_lt h hp
      unfold addT
      split
      · have hg : gainQ g r a n told ≤ 0 := Rat.not_lt.1 (hno n h2 told ht)
        rw [h1, Int.toNat_natCast]
        have hm : (s.count : Rat) * gainQ g r a n told ≤ 0 := by
          have h0 : (0 : Rat) ≤ (s.count : Rat) := by exact_mod_cast hc
          have := Rat.mul_nonneg h0 (show 0 ≤ -gainQ g r a n told by grind)
          grind
        have := cap_le hm
        exact cap_le (by grind)
      · exact hz
  exact this log 0 hl Rat.le_refl

theorem tot_own {g : Gm} {r : List Ce} (h : Play g r) {log : List Sn} (hl : LogOk g log) {a k : Nat} (ha : a < g.agents.length) : totA g r log a k k = 0 := by
  unfold totA
  have : ∀ (l : List Sn), (∀ s ∈ l, isProf g s.prof ∧ 0 ≤ s.count) → l.foldl (addT g r a k k) 0 = 0 := by
    intro l
    induction l with
    | nil => intro _; rfl
    | cons s l ih =>
      intro hs
      rw [List.foldl_cons]
      obtain ⟨hp, hc⟩ := hs s (List.mem_cons_self ..)
      obtain ⟨n, h1, h2, h3⟩ := whr_lt h hp
      have e : addT g r a k k 0 s = 0 := by
        unfold addT
        split
        · rename_i hk
          have hsp : Spot g r a n := ⟨h, ha, h2⟩
          obtain ⟨k1, k2⟩ := hsp.kof
          rw [h3, hk] at k1
          have : k = kOf g n a := by have := Option.some.inj k1; omega
          rw [h1, Int.toNat_natCast, this, gain_own hsp, Rat.mul_zero, show cap 0 = 0 by decide +kernel, Rat.zero_add]
          decide +kernel
        · rfl
      rw [e]
      exact ih (fun s' hs' => hs s' (List.mem_cons_of_mem _ hs'))
  exact this log hl

def tlA (g : Gm) (r : List Ce) (log : List Sn) (a k t : Nat) : Li := ⟨a, k, t, [], totA g r log a k t⟩
def noAK (a k : Nat) : Li := ⟨a, k, -1, [], 0⟩
def othersA (g : Gm) (r : List Ce) (log : List Sn) (a k p : Nat) : List Li := ((List.range p).filter fun t => t != k).map (tlA g r log a k)
def orZ (z : Li) (m : Option Li) : Li := match m with
  | none => z
  | some l => if 0 < l.gain then l else z
def bestAK (g : Gm) (r : List Ce) (log : List Sn) (a k : Nat) : Li := orZ (noAK a k) ((othersA g r log a k (kl g a)).foldl (mst gtL) none)
def auditA (g : Gm) (r : List Ce) (log : List Sn) (a : Nat) : List Li := (List.range (kl g a)).map (bestAK g r log a)
def auditTo (g : Gm) (r : List Ce) (log : List Sn) (a : Nat) : List Li := (List.range a).flatMap (auditA g r log)
def auditL (g : Gm) (r : List Ce) (log : List Sn) : List Li := auditTo g r log g.agents.length

theorem bst_orZ {z : Li} (hz : z.gain = 0) : ∀ (l : List Li) (m : Option Li), l.foldl bst (orZ z m) = orZ z (l.foldl (mst gtL) m)
  | [], m => rfl
  | x :: l, m => by
    rw [List.foldl_cons, List.foldl_cons, ← bst_orZ hz l]
    congr 1
    cases m with
    | none => simp only [orZ, mst, bst, hz]
    | some b =>
      by_cases c1 : 0 < b.gain
      · by_cases c2 : b.gain < x.gain
        · have : 0 < x.gain := by grind
          simp only [orZ, mst, bst, gtL, c1, c2, this, if_true, decide_true]
        · simp only [orZ, mst, bst, gtL, c1, c2, if_true, if_false, decide_false, Bool.false_eq_true]
      · by_cases c2 : b.gain < x.gain
        · simp only [orZ, mst, bst, gtL, c1, c2, hz, if_true, if_false, decide_true]
        · have : ¬ 0 < x.gain := by grind
          simp only [orZ, mst, bst, gtL, c1, c2, this, hz, if_false, decide_false, Bool.false_eq_true]

def bstTo (g : Gm) (r : List Ce) (log : List Sn) (a k t : Nat) : Li := (List.range t).foldl (fun b t => bst b (tlA g r log a k t)) (noAK a k)
theorem bstTo_step (g : Gm) (r : List Ce) (log : List Sn) (a k t : Nat) : bstTo g r log a k (t + 1) = bst (bstTo g r log a k t) (tlA g r log a k t) := by
  unfold bstTo; rw [List.range_succ, List.foldl_append]; rfl
theorem othersA_own {g : Gm} {r : List Ce} {log : List Sn} {a k : Nat} : othersA g r log a k (k + 1) = othersA g r log a k k := by
  unfold othersA; rw [List.range_succ, List.filter_append]; simp
theorem othersA_step {g : Gm} {r : List Ce} {log : List Sn} {a k t : Nat} (h : t ≠ k) : othersA g r log a k (t + 1) = othersA g r log a k t ++ [tlA g r log a k t] := by
  unfold othersA; rw [List.range_succ, List.filter_append]; simp [h]
theorem bstTo_eq {g : Gm} {r : List Ce} (h : Play g r) {log : List Sn} (hl : LogOk g log) {a k : Nat} (ha : a < g.agents.length) : ∀ t, bstTo g r log a k t = (othersA g r log a k t).foldl bst (noAK a k) ∧ 0 ≤ (bstTo g r log a k t).gain
  | 0 => ⟨rfl, Rat.le_refl⟩
  | t + 1 => by
    obtain ⟨h1, h2⟩ := bstTo_eq h hl ha (k := k) t
    rw [bstTo_step]
    by_cases e : t = k
    · subst e
      have : bst (bstTo g r log a t t) (tlA g r log a t t) = bstTo g r log a t t := by
        unfold bst
        rw [if_neg]
        show ¬ _ < totA g r log a t t
        rw [tot_own h hl ha]
        exact Rat.not_lt.2 h2
      rw [this, othersA_own]
      exact ⟨h1, h2⟩
    · rw [othersA_step e, List.foldl_append, ← h1]
      refine ⟨rfl, ?_⟩
      unfold bst
      split
      · rename_i c; exact Rat.le_of_lt (by grind)
      · exact h2
theorem bstTo_best {g : Gm} {r : List Ce} (h : Play g r) {log : List Sn} (hl : LogOk g log) {a k : Nat} (ha : a < g.agents.length) : bstTo g r log a k (kl g a) = bestAK g r log a k := by
  rw [(bstTo_eq h hl ha _).1]
  exact bst_orZ rfl _ none
end Go.Proofs.YtmgaoecfipkjbaaGreat.Sh

/- Audits: the reference. -/
namespace Go.Proofs.YtmgaoecfipkjbaaGreat.Sh
open Go Go.RowKit

def loggedB (log : List Sn) : Bool := log.all (fun s => decide (s.prof.length ≤ 100)) && decide (log.length ≤ 100)

set_option maxRecDepth 20000 in
theorem logged_s (log : List Sn) (hl : log.length ≤ 140737488355328) : CallsS Tryz.prog 54 [.one (snsS log)] (B (loggedB log)) := by
  refine calls Tryz.func54 rfl (by rfl) (by rfl) (by kernel_rfl) ?_
  simp -dsimp -implicitDefEqProofs [Tryz.f54]
  refine sw_loop_e (fun p : {p : Nat // p ≤ log.length ∧ ∀ s ∈ log.take p, s.prof.length ≤ 100} => SS.of [(0, .v (.one (snsS log))), (3, I .i64 p.1)] [] 0)
    (fun p => log.length - p.1) ⟨0, Nat.zero_le _, by simp⟩ (by kernel_rfl) (Le.to (by simp) (by simp) (by simp)) ?_
  rintro ⟨i, hi, hq⟩
  by_cases a1 : i < log.length
  · have wi : IntKind.i64.wrap ((i : Int) + 1) = ((i + 1 : Nat) : Int) := by rw [wrap_i64 _ (by omega) (by omega)]; rfl
    by_cases c : (100 : Int) < (log[i].prof.length : Int)
    · have hb : loggedB log = false := by
        unfold loggedB
        rw [show log.all (fun s => decide (s.prof.length ≤ 100)) = false from ?_, Bool.false_and]
        rw [List.all_eq_false]
        exact ⟨log[i], List.getElem_mem a1, by simp; omega⟩
      simp -dsimp -implicitDefEqProofs [a1, c, hb]
    · simp -dsimp -implicitDefEqProofs [a1, c]
      refine Again.by ⟨i + 1, a1, fun s hs => ?_⟩ (Le.to (by simp [wi]) (by simp) (by simp)) (by simp; omega)
      rw [List.take_add_one, List.getElem?_eq_getElem a1] at hs
      rcases List.mem_append.1 hs with hs | hs
      · exact hq s hs
      · simp at hs; subst hs; omega
  have hi2 : i = log.length := by omega
  subst hi2
  rw [List.take_length] at hq
  have hb : loggedB log = decide ((log.length : Int) ≤ 100) := by
    unfold loggedB
    rw [List.all_eq_true.2 (fun s hs => decide_eq_true (hq s hs)), Bool.true_and]
    rw [Bool.eq_iff_iff, decide_eq_true_iff, decide_eq_true_iff]; omega
  simp -dsimp -implicitDefEqProofs [hb]
  try rfl

/-- A log that is fit to be looked at. -/
structure LogFine (log : List Sn) : Prop where
  ok : ∀ s ∈ log, s.ok
  len : log.length ≤ 100
  pl : ∀ s ∈ log, s.prof.length ≤ 100
theorem loggedB_fine {log : List Sn} (ho : ∀ s ∈ log, s.ok) (h : loggedB log = true) : LogFine log := by
  unfold loggedB at h
  simp only [Bool.and_eq_true, decide_eq_true_eq] at h
  exact ⟨ho, h.2, fun s hs => by have := List.all_eq_true.1 h.1 s hs; simpa using this⟩

set_option maxRecDepth 20000 in
set_option maxHeartbeats 1000000 in
theorem total4A_s (g : Gm) (r : List Ce) (h : Play g r) (log : List Sn) (hlf : LogFine log) (hlo : LogOk g log) (a k told : Nat) (ha : a < g.agents.length) (hk : k < g.agents[a].kinds.length) (ht : told < g.agents[a].kinds.length) :
    CallsS Tryz.prog 118 [gmS g, ruS r, .one (snsS log), .one (.int .i64 (a : Int)), .one (.int .i64 (k : Int)), .one (.int .i64 (told : Int))] (.v (fS (totA g r log a k told))) := by
  have hf := h.fine
  have i0 := intR_s 0 (by decide) (by decide)
  have hll := hlf.len
  refine calls Tryz.func118 rfl (by rfl) (by rfl) (by kernel_rfl) ?_
  simp -dsimp -implicitDefEqProofs [Tryz.f118]
  refine eCall.of i0 (by simp) ?_
  simp -dsimp -implicitDefEqProofs
  refine sw_loop_e (fun p : {p : Nat // p ≤ log.length} => SS.of [(2, .v (.one (snsS log))), (3, I .i64 a), (4, I .i64 k), (5, I .i64 told), (6, .v (.one (.mp 0 0))), (7, .v (.one (.mp 1 0))), (12, .v (.one (.mp 2 0))), (13, .v (.one (.mp 3 0))), (14, I .i64 p.1)] [(0, ⟨26, rowGm g⟩), (1, ⟨29, [cesS r]⟩), (2, ⟨37, [.bool false, .nils, .nils]⟩), (3, ⟨37, rowFr (frQ (totN g r log a k told p.1))⟩)] 4)
    (fun p => log.length - p.1) ⟨0, Nat.zero_le _⟩ (by kernel_rfl) (Le.to (by simp) (by simp [totN, frQ, ng]) (by simp)) ?_
  rintro ⟨i, hi⟩
  by_cases a1 : i < log.length
  · have wi : IntKind.i64.wrap ((i : Int) + 1) = ((i + 1 : Nat) : Int) := by rw [wrap_i64 _ (by omega) (by omega)]; rfl
    have hst := totN_step (g := g) (r := r) (a := a) (k := k) (told := told) a1
    obtain ⟨hp, hc⟩ := hlo _ (List.getElem_mem a1)
    obtain ⟨o1, o2, o3⟩ := hlf.ok _ (List.getElem_mem a1)
    obtain ⟨n, w1, w2, w3⟩ := whr_lt h hp
    have hsp : Spot g r a n := ⟨h, ha, w2⟩
    obtain ⟨k1, k2⟩ := hsp.kof
    rw [w3] at k1
    have al : a < log[i].prof.length := by rw [hp.1]; exact ha
    have k1' : (log[i].prof)[a] = (kOf g n a : Int) := by rw [List.getElem?_eq_getElem al] at k1; exact Option.some.inj k1
    unfold addT at hst
    rw [k1, w1, Int.toNat_natCast] at hst
    by_cases c : kOf g n a = k
    · subst c
      rw [if_pos rfl] at hst
      have ic := intR_s log[i].count o3.1 o3.2
      have cz := sz_int log[i].count o3.1 o3.2
      have gz := (cap_mz (show mz (gainQ g r a n told) ≤ 2048 by have := hsp.gain_mz ht; omega)).2
      have hmu := mulR_s (frQ (log[i].count : Rat)) (frQ (gainQ g r a n told)) (frQ_ok (by omega)) (frQ_ok (by omega))
      rw [fix_frQ (show sz (log[i].count : Rat) ≤ 4096 by omega), fix_frQ gz] at hmu
      have tz := totN_sz g r log a (kOf g n a) told i
      have pz := sz_cap ((log[i].count : Rat) * gainQ g r a n told)
      have had := addR_s (frQ (totN g r log a (kOf g n a) told i)) (frQ (cap ((log[i].count : Rat) * gainQ g r a n told))) (frQ_ok (by omega)) (frQ_ok (by omega))
      rw [fix_frQ tz, fix_frQ pz, ← hst] at had
      have hw := where_s g hf log[i].prof hp
      rw [w1] at hw
      simp -dsimp -implicitDefEqProofs [a1, al, k1']
      refine eCall.of ic (by simp) ?_
      simp -dsimp -implicitDefEqProofs [a1]
      refine eCall.of hw (by simp) ?_
      simp -dsimp -implicitDefEqProofs
      refine eCall.of (gainR_s g r a n told hsp ht) (by simp) ?_
      simp -dsimp -implicitDefEqProofs
      refine eCall.of hmu (by simp [frQ, ng]; try rfl) ?_
      simp -dsimp -implicitDefEqProofs
      refine eCall.of had (by simp [frQ, ng]) ?_
      simp -dsimp -implicitDefEqProofs
      exact Again.by ⟨i + 1, a1⟩ (Le.to (by simp [wi]) (by simp [frQ, ng]) (by simp)) (by simp; omega)
    · have c' : ¬ (kOf g n a : Int) = (k : Int) := by omega
      rw [if_neg (fun e => c' (Option.some.inj e))] at hst
      simp -dsimp -implicitDefEqProofs [a1, al, k1', c, c']
      exact Again.by ⟨i + 1, a1⟩ (Le.to (by simp [wi]) (by simp [hst]) (by simp)) (by simp; omega)
  have hi2 : i = log.length := by omega
  subst hi2
  simp -dsimp -implicitDefEqProofs [totA, totN, frQ, ng]
  try rfl

theorem auditTo_succ (g : Gm) (r : List Ce) (log : List Sn) (a : Nat) : auditTo g r log (a + 1) = auditTo g r log a ++ auditA g r log a := by
  unfold auditTo; rw [List.range_succ, List.flatMap_append]; simp
def auditK (g : Gm) (r : List Ce) (log : List Sn) (a k : Nat) : List Li := auditTo g r log a ++ (List.range k).map (bestAK g r log a)
theorem auditK_step (g : Gm) (r : List Ce) (log : List Sn) (a k : Nat) : auditK g r log a (k + 1) = auditK g r log a k ++ [bestAK g r log a k] := by
  unfold auditK; rw [List.range_succ, List.map_append, List.append_assoc]; rfl
theorem auditK_zero (g : Gm) (r : List Ce) (log : List Sn) (a : Nat) : auditK g r log a 0 = auditTo g r log a := by simp [auditK]
theorem auditK_all (g : Gm) (r : List Ce) (log : List Sn) (a : Nat) : auditK g r log a (kl g a) = auditTo g r log (a + 1) := by rw [auditTo_succ]; rfl
theorem auditK_len {g : Gm} {r : List Ce} (h : Play g r) (log : List Sn) {a k : Nat} (ha : a ≤ g.agents.length) (hk : k ≤ 4) : (auditK g r log a k).length ≤ 4 * a + k := by
  have h1 : ∀ a, a ≤ g.agents.length → (auditTo g r log a).length ≤ 4 * a := by
    intro a
    induction a with
    | zero => intro _; simp [auditTo]
    | succ a ih =>
      intro ha
      rw [auditTo_succ, List.length_append]
      have := ih (by omega)
      have h4 := (sizeOk_all h.fine.sz).2.2.2.1 _ (List.getElem_mem (l := g.agents) (n := a) ha)
      have : (auditA g r log a).length = kl g a := by simp [auditA]
      rw [kl_eq ha] at this
      omega
  have := h1 a ha
  simp [auditK]; omega

def isAud (g : Gm) (r : List Ce) (log : List Sn) (l : List Li) (e : Int) : Prop :=
  (¬ Good g r ∧ isGood g r e ∧ l = []) ∨ (Good g r ∧ ¬ LogOk g log ∧ l = [] ∧ e = 3) ∨ (Good g r ∧ LogOk g log ∧ l = auditL g r log ∧ e = 0)

theorem bestAK_ok {g : Gm} {r : List Ce} (log : List Sn) (a k : Nat) : (bestAK g r log a k).ok ∧ (bestAK g r log a k).prof = [] := by
  unfold bestAK
  cases e : (othersA g r log a k (kl g a)).foldl (mst gtL) none with
  | none => exact ⟨⟨by show lenOk []; decide, by show sz 0 ≤ 4096; decide +kernel⟩, rfl⟩
  | some y =>
    unfold orZ
    simp only
    split
    · have hy := (mst_mem gtL _ _ e).resolve_right (by simp)
      obtain ⟨t, -, rfl⟩ := List.mem_map.1 hy
      exact ⟨⟨by show lenOk []; decide, totA_sz g r log a k t⟩, rfl⟩
    · exact ⟨⟨by show lenOk []; decide, by show sz 0 ≤ 4096; decide +kernel⟩, rfl⟩
theorem bstTo_sz {g : Gm} {r : List Ce} (log : List Sn) (a k : Nat) : ∀ t, sz (bstTo g r log a k t).gain ≤ 4096
  | 0 => by show sz 0 ≤ 4096; decide +kernel
  | t + 1 => by
    rw [bstTo_step]
    unfold bst
    split
    · exact totA_sz g r log a k t
    · exact bstTo_sz log a k t
theorem bstTo_form {g : Gm} {r : List Ce} (log : List Sn) (a k : Nat) : ∀ t, (bstTo g r log a k t).agent = a ∧ (bstTo g r log a k t).kind = k ∧ (bstTo g r log a k t).prof = []
  | 0 => ⟨rfl, rfl, rfl⟩
  | t + 1 => by
    rw [bstTo_step]
    unfold bst
    split
    · exact ⟨rfl, rfl, rfl⟩
    · exact bstTo_form log a k t
end Go.Proofs.YtmgaoecfipkjbaaGreat.Sh

/- Audits: the walk of the reference. -/
namespace Go.Proofs.YtmgaoecfipkjbaaGreat.Sh
open Go Go.RowKit

theorem subV_refl' : ∀ (l : List SV), subV l l
  | [] => trivial
  | a :: l => ⟨by simp, subV_refl' l⟩
theorem st_self (x : ST) : x.sub x = True := by
  cases x with
  | v a => simp
  | tup l => exact eq_true (subV_refl' l)

theorem notLog {g : Gm} {log : List Sn} {i : Nat} (h : i < log.length) (hn : ¬ (isProf g log[i].prof ∧ 0 ≤ log[i].count)) : ¬ LogOk g log := fun hh => hn (hh _ (List.getElem_mem h))

set_option maxRecDepth 20000 in
set_option maxHeartbeats 4000000 in
theorem audit4_s (g : Gm) (r : List Ce) (hs : Seen g r) (hfar : far g = false) (log : List Sn) (hlf : LogFine log) (l : List Li) (e : Int) (hr : isAud g r log l e) : CallsS Tryz.prog 55 [gmS g, ruS r, .one (snsS log)] (.tup [.one (lisS l), .one (.int .i64 e)]) := by
  have hll := hlf.len
  refine calls Tryz.func55 rfl (by rfl) (by rfl) (by kernel_rfl) ?_
  simp -dsimp -implicitDefEqProofs [Tryz.f55]
  obtain ⟨eg, hg1, hg2⟩ := isGood_of g r
  refine eCall.of (rightR4_s g r hs eg hg1) (by simp) ?_
  by_cases hgd : Good g r
  case neg =>
    have h0 : ¬ eg = 0 := fun h => hgd (hg2.1 h)
    rcases hr with ⟨-, h1, rfl⟩ | ⟨h1, -⟩ | ⟨h1, -⟩
    · have : e = eg := by
        rcases h1 with ⟨a1, a2⟩ | ⟨a1, a2, a3⟩ | ⟨a1, a2⟩ <;> rcases hg1 with ⟨b1, b2⟩ | ⟨b1, b2, b3⟩ | ⟨b1, b2⟩ <;> first | omega | exact absurd a1 b1 | exact absurd b1 a1 | exact absurd b1 hgd | exact absurd a1 hgd
      subst this
      simp -dsimp -implicitDefEqProofs [h0]
    · exact absurd h1 hgd
    · exact absurd h1 hgd
  have h : Play g r := ⟨hs, hfar, hgd⟩
  have hf := h.fine
  obtain ⟨q1, -, -, q4, q5⟩ := sizeOk_all hf.sz
  obtain rfl : eg = 0 := hg2.2 hgd
  have hbad : ¬ LogOk g log → l = [] ∧ e = 3 := fun hn => by
    rcases hr with ⟨h1, -⟩ | ⟨-, -, h2, h3⟩ | ⟨-, h2, -⟩
    · exact absurd hgd h1
    · exact ⟨h2, h3⟩
    · exact absurd h2 hn
  have hgood : LogOk g log → l = auditL g r log ∧ e = 0 := fun hn => by
    rcases hr with ⟨h1, -⟩ | ⟨-, h2, -⟩ | ⟨-, -, h2, h3⟩
    · exact absurd hgd h1
    · exact absurd hn h2
    · exact ⟨h2, h3⟩
  simp -dsimp -implicitDefEqProofs
  refine sw_loop_e (fun p : {p : Nat // p ≤ log.length ∧ ∀ s ∈ log.take p, isProf g s.prof ∧ 0 ≤ s.count} => SS.of [(2, .v (.one (snsS log))), (3, .v (.one (.mp 0 0))), (4, .v (.one (.mp 1 0))), (9, I .i64 p.1)] [(0, ⟨26, rowGm g⟩), (1, ⟨29, [cesS r]⟩)] 2)
    (fun p => log.length - p.1) ⟨0, Nat.zero_le _, by simp⟩ (by kernel_rfl) (Le.to (by simp) (by simp) (by simp)) ?_
  rintro ⟨i, hi, hq⟩
  by_cases a1 : i < log.length
  · have wi : IntKind.i64.wrap ((i : Int) + 1) = ((i + 1 : Nat) : Int) := by rw [wrap_i64 _ (by omega) (by omega)]; rfl
    obtain ⟨ix, hix⟩ := isIdx2_of g log[i].prof
    have hid := ridx_s g r hs log[i].prof (by have := hlf.pl _ (List.getElem_mem a1); omega) ix hix
    simp -dsimp -implicitDefEqProofs [a1]
    refine eCall.of hid (by simp) ?_
    by_cases hp : isProf g log[i].prof
    · have e1 : ix = whr g log[i].prof := by
        rcases hix with h | h
        · exact h.2.2
        · exact absurd ⟨⟨hgd.1, hgd.2.1⟩, hp⟩ h.1
      obtain ⟨n, w1, -, -⟩ := whr_lt h hp
      have e2 : ¬ ix < 0 := by omega
      by_cases hc : log[i].count < 0
      · obtain ⟨rfl, rfl⟩ := hbad (notLog a1 (fun hh => by omega))
        simp -dsimp -implicitDefEqProofs [e2, hc, a1]
      · simp -dsimp -implicitDefEqProofs [e2, hc, a1]
        refine Again.by ⟨i + 1, a1, fun s hs => ?_⟩ (Le.to (by simp [wi]) (by simp) (by simp)) (by simp; omega)
        rw [List.take_add_one, List.getElem?_eq_getElem a1] at hs
        rcases List.mem_append.1 hs with hs | hs
        · exact hq s hs
        · simp at hs; subst hs; exact ⟨hp, by omega⟩
    · have e1 : ix = -1 := by
        rcases hix with h | h
        · exact absurd h.2.1 hp
        · exact h.2
      subst e1
      obtain ⟨rfl, rfl⟩ := hbad (notLog a1 (fun hh => hp hh.1))
      simp -dsimp -implicitDefEqProofs
  have hi2 : i = log.length := by omega
  subst hi2
  rw [List.take_length] at hq
  have hlo : LogOk g log := hq
  obtain ⟨rfl, rfl⟩ := hgood hlo
  simp -dsimp -implicitDefEqProofs
  -- the agents
  refine sw_loop_e (fun p : {p : Nat × Nat // p.1 ≤ g.agents.length} => SS.of [(2, .v (.one (snsS log))), (3, .v (.one (.mp 0 0))), (4, .v (.one (.mp 1 0))), (10, if (auditTo g r log p.1.1).length = 0 then .v (.one .nils) else .v (.one (.ms (p.1.2 + 2) 0 (auditTo g r log p.1.1).length 7 true))), (11, I .i64 p.1.1)]
      ((0, ⟨26, rowGm g⟩) :: (1, ⟨29, [cesS r]⟩) :: if (auditTo g r log p.1.1).length = 0 then [] else [(p.1.2 + 2, ⟨39, flat rowLi (auditTo g r log p.1.1)⟩)]) (p.1.2 + 3))
    (fun p => g.agents.length - p.1.1) ⟨(0, 0), Nat.zero_le _⟩ (by kernel_rfl) (Le.to (by simp [auditTo]) (by simp [auditTo]) (by simp)) ?_
  rintro ⟨⟨a, c⟩, ha⟩
  simp only at ha
  by_cases a1 : a < g.agents.length
  · have wa : IntKind.i64.wrap ((a : Int) + 1) = ((a + 1 : Nat) : Int) := by rw [wrap_i64 _ (by omega) (by omega)]; rfl
    have hk4 := q4 _ (List.getElem_mem a1)
    have hkl := kl_eq a1
    simp -dsimp -implicitDefEqProofs [a1]
    refine sw_loop_e (fun p : {p : Nat × Nat // p.1 ≤ g.agents[a].kinds.length} => SS.of [(2, .v (.one (snsS log))), (3, .v (.one (.mp 0 0))), (4, .v (.one (.mp 1 0))), (10, if (auditK g r log a p.1.1).length = 0 then .v (.one .nils) else .v (.one (.ms (p.1.2 + 2) 0 (auditK g r log a p.1.1).length 7 true))), (11, I .i64 a), (12, I .i64 p.1.1)]
        ((0, ⟨26, rowGm g⟩) :: (1, ⟨29, [cesS r]⟩) :: if (auditK g r log a p.1.1).length = 0 then [] else [(p.1.2 + 2, ⟨39, flat rowLi (auditK g r log a p.1.1)⟩)]) (p.1.2 + 3))
      (fun p => g.agents[a].kinds.length - p.1.1) ⟨(0, c), Nat.zero_le _⟩ (by kernel_rfl) (Le.to (by simp [auditK_zero, st_self]) (by simp only [auditK_zero]; split <;> simp [*]) (by simp)) ?_
    rintro ⟨⟨k, c⟩, hk⟩
    simp only at hk
    have hlen := auditK_len h log (k := k) (Nat.le_of_lt a1) (by omega)
    by_cases a2 : k < g.agents[a].kinds.length
    · have wk : IntKind.i64.wrap ((k : Int) + 1) = ((k + 1 : Nat) : Int) := by rw [wrap_i64 _ (by omega) (by omega)]; rfl
      have hstep := auditK_step g r log a k
      have hfl := flat_snoc (f := rowLi) (bestAK g r log a k) (auditK g r log a k)
      rw [← hstep] at hfl
      have hl1 : (auditK g r log a (k + 1)).length = (auditK g r log a k).length + 1 := by rw [hstep]; simp
      generalize hL : auditK g r log a k = L at *
      have nl := noLie_s (a : Int) (k : Int)
      simp -dsimp -implicitDefEqProofs [a1, a2]
      refine eCall.of nl (by simp) ?_
      simp -dsimp -implicitDefEqProofs
      refine sw_loop_e (fun p : {p : Nat × Nat // p.1 ≤ g.agents[a].kinds.length ∧ c ≤ p.2} => SS.of [(2, .v (.one (snsS log))), (3, .v (.one (.mp 0 0))), (4, .v (.one (.mp 1 0))), (10, if L.length = 0 then .v (.one .nils) else .v (.one (.ms (c + 2) 0 L.length 7 true))), (11, I .i64 a), (12, I .i64 k), (13, .v (.one (.mp (c + 3) 0))), (14, I .i64 p.1.1)]
          ((0, ⟨26, rowGm g⟩) :: (1, ⟨29, [cesS r]⟩) :: (c + 3, ⟨39, rowLi (bstTo g r log a k p.1.1)⟩) :: if L.length = 0 then [] else [(c + 2, ⟨39, flat rowLi L⟩)]) (p.1.2 + 4))
        (fun p => g.agents[a].kinds.length - p.1.1) ⟨(0, c), Nat.zero_le _, Nat.le_refl _⟩ (by kernel_rfl) (Le.to (by simp [st_self]) (by split <;> simp [*, bstTo, noAK, noLi, frQ, ng]) (by simp)) ?_
      rintro ⟨⟨t, d⟩, ht, hd⟩
      simp only at ht hd
      have x1 : ¬ d + 2 = c := by omega
      have x2 : ¬ c = d + 2 := by omega
      have x3 : ¬ d + 1 = c := by omega
      have x4 : ¬ c = d + 1 := by omega
      have x5 : ¬ d + 3 = c := by omega
      have x6 : ¬ c = d + 3 := by omega
      by_cases a3 : t < g.agents[a].kinds.length
      · have wt : IntKind.i64.wrap ((t : Int) + 1) = ((t + 1 : Nat) : Int) := by rw [wrap_i64 _ (by omega) (by omega)]; rfl
        have hst := bstTo_step g r log a k t
        have z1 := totA_sz g r log a k t
        have z2 := bstTo_sz (g := g) (r := r) log a k t
        obtain ⟨f1, f2, f3⟩ := bstTo_form (g := g) (r := r) log a k t
        have hcm := cmpR_s (frQ (totA g r log a k t)) (frQ (bstTo g r log a k t).gain) (frQ_ok (by omega)) (frQ_ok (by omega))
        rw [fix_frQ z1, fix_frQ z2] at hcm
        simp -dsimp -implicitDefEqProofs [a1, a3]
        refine eCall.of (total4A_s g r h log hlf hlo a k t a1 a2 a3) (by simp) ?_
        simp -dsimp -implicitDefEqProofs [x1, x2, x3, x4, x5, x6]
        refine eCall.of hcm (by simp [frQ, ng]) ?_
        by_cases c1 : (bstTo g r log a k t).gain < totA g r log a k t
        · rw [bst, if_pos (show (bstTo g r log a k t).gain < (tlA g r log a k t).gain from c1)] at hst
          simp -dsimp -implicitDefEqProofs [cmpQ_pos.2 c1, x1, x2, x3, x4, x5, x6]
          exact Again.by ⟨(t + 1, d + 1), a3, by simp only; omega⟩ (Le.to (by simp [wt, st_self]) (by split <;> simp [*, tlA, frQ, ng]) (by simp)) (by simp; omega)
        · rw [bst, if_neg (show ¬ (bstTo g r log a k t).gain < (tlA g r log a k t).gain from c1)] at hst
          simp -dsimp -implicitDefEqProofs [mt cmpQ_pos.1 c1, x1, x2, x3, x4, x5, x6]
          exact Again.by ⟨(t + 1, d + 1), a3, by simp only; omega⟩ (Le.to (by simp [wt, st_self]) (by split <;> simp [*]) (by simp)) (by simp; omega)
      have ht2 : t = kl g a := by omega
      subst ht2
      have hbb := bstTo_best h hlo (k := k) a1
      rw [hbb]
      by_cases l0 : L.length = 0
      · have hL0 : L = [] := List.length_eq_zero_iff.1 l0
        rw [hL0, flat_nil, List.nil_append] at hfl
        simp -dsimp -implicitDefEqProofs [a1, hkl, l0, slots, x1, x2, x3, x4, x5, x6]
        exact Again.by ⟨(k + 1, d + 3), by omega⟩ (Le.to (by simp [wk, hl1, l0]) (by simp [hfl, hl1, l0]) (by simp)) (by simp; omega)
      · simp -dsimp -implicitDefEqProofs [a1, hkl, l0, slots, x1, x2, x3, x4, x5, x6]
        refine ⟨by omega, ?_⟩
        exact Again.by ⟨(k + 1, d + 3), by omega⟩ (Le.to (by simp [wk, hl1, x1, x2, x3, x4, x5, x6]) (by simp [hfl, hl1, x1, x2, x3, x4, x5, x6]) (by simp)) (by simp; omega)
    have hk2 : k = kl g a := by omega
    subst hk2
    have hall := auditK_all g r log a
    rw [hall]
    simp -dsimp -implicitDefEqProofs [a1, hkl]
    exact Again.by ⟨(a + 1, c), a1⟩ (Le.to (by simp [wa, st_self]) (by split <;> simp [*]) (by simp)) (by simp; omega)
  have ha2 : a = g.agents.length := by omega
  subst ha2
  by_cases l0 : (auditTo g r log g.agents.length).length = 0
  · have hL0 : auditL g r log = [] := List.length_eq_zero_iff.1 l0
    simp -dsimp -implicitDefEqProofs [l0, hL0]
  · simp -dsimp -implicitDefEqProofs [l0, auditL]
end Go.Proofs.YtmgaoecfipkjbaaGreat.Sh

/- Audits: the program. -/
namespace Go.Proofs.YtmgaoecfipkjbaaGreat.Sh
open Go Go.RowKit

theorem fmake1 (p : Int) (h0 : -9223372036854775808 ≤ p) (h1 : p < 9223372036854775808) : CallsS Tryz.prog 85 [.one (.int .i64 p), .one (.int .i64 1)] (.tup [fS (p : Rat), .one (.int .i64 0)]) := by
  have h := fmake_s p 1 h0 h1 (by decide) (by decide) (by decide)
  rw [show (p : Rat) / ((1 : Int) : Rat) = (p : Rat) by rw [show ((1 : Int) : Rat) = 1 from rfl, Rat.div_def, show (1 : Rat)⁻¹ = 1 by decide +kernel, Rat.mul_one]] at h
  exact h

set_option maxRecDepth 20000 in
set_option maxHeartbeats 1000000 in
theorem rtotal_s (g : Gm) (r : List Ce) (h : Play g r) (log : List Sn) (hlf : LogFine log) (hlo : LogOk g log) (a k told : Nat) (ha : a < g.agents.length) (hk : k < g.agents[a].kinds.length) (ht : told < g.agents[a].kinds.length) :
    CallsS Tryz.prog 120 [tbS g r, .one (snsS log), .one (.int .i64 (a : Int)), .one (.int .i64 (k : Int)), .one (.int .i64 (told : Int))] (.v (fS (totA g r log a k told))) := by
  have hf := h.fine
  have hll := hlf.len
  refine calls Tryz.func120 rfl (by rfl) (by rfl) (by kernel_rfl) ?_
  simp -dsimp -implicitDefEqProofs [Tryz.f120]
  refine eCall.of rzero_s (by simp) ?_
  simp -dsimp -implicitDefEqProofs
  refine sw_loop_e (fun p : {p : Nat × Nat // p.1 ≤ log.length} => SS.of [(2, I .i64 a), (3, I .i64 k), (4, I .i64 told), (5, .v (.one (.mp 0 0))), (10, .v (.one (.mp 1 0))), (11, .v (.one (.mp 2 0))), (19, .v (.one (snsS log))), (20, I .i64 log.length), (21, I .i64 p.1.1)] [(0, ⟨106, rowTb g r⟩), (1, ⟨37, [.bool false, .nils, .nils]⟩), (2, ⟨37, rowFr (frQ (totN g r log a k told p.1.1))⟩)] (p.1.2 + 3))
    (fun p => log.length - p.1.1) ⟨(0, 0), Nat.zero_le _⟩ (by kernel_rfl) (Le.to (by simp) (by simp [totN, frQ, ng]) (by simp)) ?_
  rintro ⟨⟨i, c⟩, hi⟩
  simp only at hi
  by_cases a1 : i < log.length
  · have wi : IntKind.i64.wrap ((i : Int) + 1) = ((i + 1 : Nat) : Int) := by rw [wrap_i64 _ (by omega) (by omega)]; rfl
    have hst := totN_step (g := g) (r := r) (a := a) (k := k) (told := told) a1
    obtain ⟨hp, hc⟩ := hlo _ (List.getElem_mem a1)
    obtain ⟨o1, o2, o3⟩ := hlf.ok _ (List.getElem_mem a1)
    obtain ⟨n, w1, w2, w3⟩ := whr_lt h hp
    have hsp : Spot g r a n := ⟨h, ha, w2⟩
    obtain ⟨k1, k2⟩ := hsp.kof
    rw [w3] at k1
    have al : a < log[i].prof.length := by rw [hp.1]; exact ha
    have k1' : (log[i].prof)[a] = (kOf g n a : Int) := by rw [List.getElem?_eq_getElem al] at k1; exact Option.some.inj k1
    unfold addT at hst
    rw [k1, w1, Int.toNat_natCast] at hst
    by_cases cc : kOf g n a = k
    · have hgm := hsp.gain_mz ht
      obtain ⟨gc, gz⟩ := cap_mz (show mz (gainQ g r a n told) ≤ 2048 by omega)
      obtain ⟨t1, t2⟩ := hsp.toAt ht
      have hP := hsp.pair w2 k2
      have hP2 := hsp.pair t2 k2
      have hz := (cap_mz (show mz (hasQ r[n] g.agents[a].kinds[kOf g n a] a) ≤ 2048 by have := hP.has; omega)).2
      have hz2 := (cap_mz (show mz (hasQ r[toAt g n a told] g.agents[a].kinds[kOf g n a] a) ≤ 2048 by have := hP2.has; omega)).2
      have hsb := fsub_s (frQ (hasQ r[toAt g n a told] g.agents[a].kinds[kOf g n a] a)) (frQ (hasQ r[n] g.agents[a].kinds[kOf g n a] a)) (frQ_ok (by omega)) (frQ_ok (by omega))
      rw [fix_frQ hz2, fix_frQ hz, show hasQ r[toAt g n a told] g.agents[a].kinds[kOf g n a] a - hasQ r[n] g.agents[a].kinds[kOf g n a] a = gainQ g r a n told by unfold gainQ; rw [ceAt_eq t2, ceAt_eq w2, kdAt_eq ha k2], gc] at hsb
      have hid := sidx_s g r h.seen log[i].prof (by have := hlf.pl _ (List.getElem_mem a1); omega) (n : Int) (.inl ⟨⟨h.good.1, h.good.2.1⟩, hp, w1.symm⟩)
      have haf := after_s g r a n told hsp ht
      have hh1 := rhas_s g r r[n] a (kOf g n a) ha k2 hP
      have hh2 := rhas_s g r r[toAt g n a told] a (kOf g n a) ha k2 hP2
      subst cc
      rw [if_pos rfl] at hst
      have cz := sz_int log[i].count o3.1 o3.2
      have hmu := fmul_s (frQ (log[i].count : Rat)) (frQ (gainQ g r a n told)) (frQ_ok (by omega)) (frQ_ok (by omega))
      rw [fix_frQ (show sz (log[i].count : Rat) ≤ 4096 by omega), fix_frQ gz] at hmu
      have tz := totN_sz g r log a (kOf g n a) told i
      have pz := sz_cap ((log[i].count : Rat) * gainQ g r a n told)
      have had := fadd_s (frQ (totN g r log a (kOf g n a) told i)) (frQ (cap ((log[i].count : Rat) * gainQ g r a n told))) (frQ_ok (by omega)) (frQ_ok (by omega))
      rw [fix_frQ tz, fix_frQ pz, ← hst] at had
      simp -dsimp -implicitDefEqProofs [a1, al, k1']
      refine eCall.of hid (by simp) ?_
      simp -dsimp -implicitDefEqProofs [w2]
      refine eCall.of haf (by simp [w3]) ?_
      simp -dsimp -implicitDefEqProofs
      refine eCall.of hh2 (by simp) ?_
      simp -dsimp -implicitDefEqProofs
      refine eCall.of hh1 (by simp) ?_
      simp -dsimp -implicitDefEqProofs
      refine eCall.of hsb (by simp [frQ, ng]) ?_
      simp -dsimp -implicitDefEqProofs
      refine eCall.of (fmake1 log[i].count o3.1 o3.2) (by simp) ?_
      simp -dsimp -implicitDefEqProofs
      refine eCall.of hmu (by simp [frQ, ng]; try rfl) ?_
      simp -dsimp -implicitDefEqProofs
      refine eCall.of had (by simp [frQ, ng]) ?_
      simp -dsimp -implicitDefEqProofs
      exact Again.by ⟨(i + 1, c + 4), a1⟩ (Le.to (by simp [wi]) (by simp [frQ, ng]) (by simp)) (by simp; omega)
    · have c' : ¬ (kOf g n a : Int) = (k : Int) := by omega
      rw [if_neg (fun e => c' (Option.some.inj e))] at hst
      simp -dsimp -implicitDefEqProofs [a1, al, k1', cc, c']
      exact Again.by ⟨(i + 1, c + 1), a1⟩ (Le.to (by simp [wi]) (by simp [hst]) (by simp)) (by simp; omega)
  have hi2 : i = log.length := by omega
  subst hi2
  simp -dsimp -implicitDefEqProofs [totA, totN, frQ, ng]
  try rfl

set_option maxRecDepth 20000 in
theorem audit2_s (x y : Li) (hx : x.ok) (hy : y.ok) : CallsS Tryz.prog 121 [liS x, liS y] (B (gtL x y)) := by
  have x2 := hx.2
  have y2 := hy.2
  have hc := fcmp_s (frQ x.gain) (frQ y.gain) (frQ_ok (by omega)) (frQ_ok (by omega))
  rw [fix_frQ x2, fix_frQ y2] at hc
  unfold gtL
  refine calls Tryz.func121 rfl (by rfl) (by rfl) (by kernel_rfl) ?_
  simp -dsimp -implicitDefEqProofs [Tryz.f121]
  refine eCall.of hc (by simp [frQ, ng]) ?_
  by_cases c : y.gain < x.gain
  · simp -dsimp -implicitDefEqProofs [cmpQ_pos.2 c, c]
  · simp -dsimp -implicitDefEqProofs [mt cmpQ_pos.1 c, c]

theorem othersA_pre (g : Gm) (r : List Ce) (log : List Sn) (a k : Nat) {p N : Nat} (h : p ≤ N) : othersA g r log a k p <+: othersA g r log a k N := by
  unfold othersA
  obtain ⟨d, rfl⟩ : ∃ d, N = p + d := ⟨N - p, by omega⟩
  rw [List.range_add, List.filter_append, List.map_append]
  exact List.prefix_append _ _

set_option maxRecDepth 20000 in
set_option maxHeartbeats 1000000 in
theorem audit1_it (g : Gm) (r : List Ce) (h : Play g r) (log : List Sn) (hlf : LogFine log) (hlo : LogOk g log) (a k : Nat) (ha : a < g.agents.length) (hk : k < g.agents[a].kinds.length) :
    IterS Tryz.prog 119 [.rp true (rowGm g), .rp true [.int .i64 (a : Int)], .rp true [.int .i64 (k : Int)], .rp true (rowTb g r), .rp true [snsS log]] (itemsL (othersA g r log a k (kl g a))) := by
  have hk4 := (sizeOk_all h.fine.sz).2.2.2.1 _ (List.getElem_mem ha)
  have hkl := kl_eq ha
  refine iterS2 Tryz.func119 rfl (by rfl) (by kernel_rfl) (by rfl) (by kernel_rfl) ?_
  intro v J S base hy hJ0
  simp -dsimp -implicitDefEqProofs [Tryz.f119, ha]
  have hpw : ∀ p, p ≤ kl g a → itemsL (othersA g r log a k p) <+: itemsL (othersA g r log a k (kl g a)) := fun p hp => by
    obtain ⟨t, ht⟩ := othersA_pre g r log a k hp
    exact ⟨itemsL t, by rw [← ht]; simp [itemsL]⟩
  refine sw_loop_e (fun p : {p : Nat // p ≤ kl g a} => (SS.of [(0, .v (.one (.val v))), (2, .v (.one (.rp true [.int .i64 (a : Int)]))), (3, .v (.one (.rp true [.int .i64 (k : Int)]))), (4, .v (.one (.rp true (rowTb g r)))), (5, .v (.one (.rp true [snsS log]))), (14, I .i64 (kl g a)), (15, I .i64 p.1)] [] 0).wx ⟨[], J (itemsL (othersA g r log a k p.1)), base⟩)
    (fun p => kl g a - p.1) ⟨0, Nat.zero_le _⟩ (by kernel_rfl) (Le.toX (by simp [hkl]) (by simp) (by simp) (by simp [othersA, itemsL])) ?_
  rintro ⟨t, ht⟩
  by_cases a3 : t < g.agents[a].kinds.length
  · have wt : IntKind.i64.wrap ((t : Int) + 1) = ((t + 1 : Nat) : Int) := by rw [wrap_i64 _ (by omega) (by omega)]; rfl
    by_cases c1 : t = k
    · subst c1
      have ho := othersA_own (g := g) (r := r) (log := log) (a := a) (k := t)
      simp -dsimp -implicitDefEqProofs [hkl, a3]
      exact Again.by ⟨t + 1, by omega⟩ (Le.toX (by simp [wt, hkl]) (by simp) (by simp) (by simp [ho])) (by simp; omega)
    · have c1' : ¬ (t : Int) = (k : Int) := by omega
      have hyi := hy (itemsL (othersA g r log a k t)) [liS (tlA g r log a k t)] (by
        have := hpw (t + 1) (by omega)
        rw [othersA_step c1] at this
        simpa [itemsL] using this)
      have hnx : itemsL (othersA g r log a k t) ++ [[liS (tlA g r log a k t)]] = itemsL (othersA g r log a k (t + 1)) := by rw [othersA_step c1]; simp [itemsL]
      rw [hnx] at hyi
      simp -dsimp -implicitDefEqProofs [hkl, a3, c1, c1']
      refine eCall.of (rtotal_s g r h log hlf hlo a k t ha hk a3) (by simp) ?_
      simp -dsimp -implicitDefEqProofs
      refine ⟨.inr (by kernel_rfl), ?_⟩
      refine spec_yield (v := v) (args := [liS (tlA g r log a k t)]) (C1 := J (itemsL (othersA g r log a k (t + 1)))) (C2 := S) (by simp) (by simpa using hyi) (by simp [tlA, frQ, ng]) ?_ ?_
      · simp -dsimp -implicitDefEqProofs
        exact Again.by ⟨t + 1, by omega⟩ (Le.toX (by simp [wt, hkl]) (by simp) (by simp) (by simp)) (by simp; omega)
      · simp -dsimp -implicitDefEqProofs
  have ht2 : t = kl g a := by omega
  subst ht2
  simp -dsimp -implicitDefEqProofs [hkl]
end Go.Proofs.YtmgaoecfipkjbaaGreat.Sh

