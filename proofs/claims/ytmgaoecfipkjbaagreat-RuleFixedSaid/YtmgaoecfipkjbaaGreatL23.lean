/- A part of the proof: R79 -/
import Derived.Test.YtmgaoecfipkjbaaGreatL22
set_option linter.unusedSimpArgs false
set_option linter.unusedVariables false
/- The reference's Aim; the walk of RuleMeets. -/
namespace Go.Proofs.YtmgaoecfipkjbaaGreat.Sh
open Go Go.RowKit

def minF (b x : Rat) : Rat := if x < b then x else b
theorem mst_minF : ∀ (l : List Rat) (b : Rat), l.foldl (mst ltQ) (some b) = some (l.foldl minF b)
  | [], b => rfl
  | x :: l, b => by
    rw [List.foldl_cons, List.foldl_cons, show mst ltQ (some b) x = some (minF b x) by simp only [mst, ltQ, minF, decide_eq_true_eq]; split <;> rfl]
    exact mst_minF l _
theorem low_minF {g : Gm} {r : List Ce} (h : Play g r) : lowQ g r = (usesL g r).foldl minF (useQ g r 0 0) := by
  have hne := uses_ne h
  have h1 : 0 < r.length := by
    have := prod_pos (l := g.agents) (fun a ha => (h.good.2.1.all a ha).1) g.agents.length (Nat.le_refl _)
    rwa [List.take_length, ← h.good.2.2.1] at this
  have h2 : 0 < g.agents.length := List.length_pos_iff.2 h.good.2.1.ag
  have hd : ∃ t, usesL g r = useQ g r 0 0 :: t := by
    unfold usesL usesTo usesP
    obtain ⟨a, ha⟩ : ∃ a, r.length = a + 1 := ⟨r.length - 1, by omega⟩
    obtain ⟨b, hb⟩ : ∃ b, g.agents.length = b + 1 := ⟨g.agents.length - 1, by omega⟩
    rw [ha, hb, List.range_succ_eq_map (n := a), List.flatMap_cons, List.range_succ_eq_map (n := b), List.map_cons]
    exact ⟨_, rfl⟩
  obtain ⟨t, ht⟩ := hd
  rw [lowQ, ht, List.foldl_cons, List.foldl_cons, show mst ltQ none (useQ g r 0 0) = some (useQ g r 0 0) from rfl, mst_minF]
  show t.foldl minF (useQ g r 0 0) = t.foldl minF (minF (useQ g r 0 0) (useQ g r 0 0))
  rw [show minF (useQ g r 0 0) (useQ g r 0 0) = useQ g r 0 0 by unfold minF; split <;> rfl]
theorem fold_minF {q : Rat} (hq : mz q ≤ 68) : ∀ (l : List Rat), (∀ x ∈ l, mz x ≤ 68) → ∀ b, mz b ≤ 68 → mz (l.foldl minF b) ≤ 68
  | [], _, b, hb => hb
  | x :: l, h, b, hb => by
    rw [List.foldl_cons]
    refine fold_minF hq l (fun y hy => h y (List.mem_cons_of_mem _ hy)) _ ?_
    unfold minF; split
    · exact h x (List.mem_cons_self ..)
    · exact hb
def lowN (g : Gm) (r : List Ce) (n p : Nat) : Rat := (usesTo g r n ++ usesP g r n p).foldl minF (useQ g r 0 0)
theorem lowN_step (g : Gm) (r : List Ce) (n p : Nat) : lowN g r n (p + 1) = minF (lowN g r n p) (useQ g r n p) := by
  unfold lowN; rw [usesP_step, ← List.append_assoc, List.foldl_append]; rfl
theorem lowN_next (g : Gm) (r : List Ce) (n : Nat) : lowN g r (n + 1) 0 = lowN g r n g.agents.length := by
  unfold lowN; rw [usesTo_succ]; simp [usesP]
theorem lowN_mz {g : Gm} {r : List Ce} (h : Play g r) {n p : Nat} (hn : n < r.length) (hp : p ≤ g.agents.length) : mz (lowN g r n p) ≤ 68 := by
  have h0 : mz (useQ g r 0 0) ≤ 68 := (Spot.use ⟨h, List.length_pos_iff.2 h.good.2.1.ag, by omega⟩).1
  refine fold_minF h0 _ (fun x hx => ?_) _ h0
  obtain ⟨t, ht⟩ := uses_pre g r hn hp
  exact mem_uses h (by rw [← ht]; exact List.mem_append_left _ hx)

set_option maxRecDepth 20000 in
theorem weightR_s (g : Gm) (r : List Ce) (h : Play g r) (n : Nat) (hn : n < r.length) : CallsS Tryz.prog 130 [gmS g, .one (intsS (atG g n))] (.v (fS (wgt g n))) := by
  have hf := h.fine
  obtain ⟨h1, -, -, h4, h5⟩ := sizeOk_all hf.sz
  have hrl := h.good.2.2.1
  have hal := atG_length g n
  have i1 := intR_s 1 (by decide) (by decide)
  have hid := ridx_s g r h.seen (atG g n) (by omega) (n : Int) (.inl ⟨⟨h.good.1, h.good.2.1⟩, at_isProf (by omega), (whr_at (by omega)).symm⟩)
  refine calls Tryz.func130 rfl (by rfl) (by rfl) (by kernel_rfl) ?_
  simp -dsimp -implicitDefEqProofs [Tryz.f130]
  refine eCall.of hid (by simp) ?_
  simp -dsimp -implicitDefEqProofs [show ¬ ((n : Int) < 0) by omega]
  refine eCall.of i1 (by simp) ?_
  simp -dsimp -implicitDefEqProofs
  refine sw_loop_e (fun p : {p : Nat // p ≤ g.agents.length} => SS.of [(1, .v (.one (intsS (atG g n)))), (2, .v (.one (.mp 0 0))), (4, .v (.one (.mp 1 0))), (5, .v (.one (.mp 2 0))), (6, I .i64 p.1)] [(0, ⟨26, rowGm g⟩), (1, ⟨37, [.bool false, .nils, .nils]⟩), (2, ⟨37, rowFr (frQ (wgtTo g n p.1))⟩)] 3)
    (fun p => g.agents.length - p.1) ⟨0, Nat.zero_le _⟩ (by kernel_rfl) (Le.to (by simp) (by simp [wgtTo, frQ, ng]) (by simp)) ?_
  rintro ⟨i, hi⟩
  by_cases a1 : i < g.agents.length
  · have wi : IntKind.i64.wrap ((i : Int) + 1) = ((i + 1 : Nat) : Int) := by rw [wrap_i64 _ (by omega) (by omega)]; rfl
    have hs : Spot g r i n := ⟨h, a1, hn⟩
    obtain ⟨k1, k2⟩ := hs.kof
    have a2 : i < (atG g n).length := by omega
    have k1' : (atG g n)[i] = (kOf g n i : Int) := by rw [List.getElem?_eq_getElem a2] at k1; exact Option.some.inj k1
    have hkd := (h.kd (List.getElem_mem a1) (List.getElem_mem k2)).1
    have m0 := wgtTo_mz h hn i hi
    have m1 := wgtTo_mz h hn (i + 1) a1
    have z0 := (cap_mz (show mz (wgtTo g n i) ≤ 2048 by omega)).2
    obtain ⟨c1, z1⟩ := cap_mz (show mz (wgtTo g n (i + 1)) ≤ 2048 by omega)
    have hmu := mulR_s (frQ (wgtTo g n i)) (g.agents[i].kinds[kOf g n i]).weight (frQ_ok (by omega)) hkd.ok.2.1
    rw [fix_frQ z0, show wgtTo g n i * (g.agents[i].kinds[kOf g n i]).weight.fix = wgtTo g n (i + 1) by rw [wgtTo, kdAt_eq a1 k2], c1] at hmu
    simp -dsimp -implicitDefEqProofs [a1, a2, k1', k2, hal]
    refine eCall.of hmu (by simp [frQ, ng]) ?_
    simp -dsimp -implicitDefEqProofs
    exact Again.by ⟨i + 1, a1⟩ (Le.to (by simp [wi]) (by simp [frQ, ng]) (by simp)) (by simp; omega)
  have hi2 : i = g.agents.length := by omega
  subst hi2
  simp -dsimp -implicitDefEqProofs [wgt, hal, frQ, ng]
  try rfl

set_option maxRecDepth 20000 in
theorem total4_s (g : Gm) (r : List Ce) (h : Play g r) (n : Nat) (hn : n < r.length) : CallsS Tryz.prog 129 [gmS g, ruS r, .one (.int .i64 (n : Int))] (.v (fS (totTo g r n g.agents.length))) := by
  have hf := h.fine
  obtain ⟨h1, -, -, h4, h5⟩ := sizeOk_all hf.sz
  have hrl := h.good.2.2.1
  have hal := atG_length g n
  have i0 := intR_s 0 (by decide) (by decide)
  refine calls Tryz.func129 rfl (by rfl) (by rfl) (by kernel_rfl) ?_
  simp -dsimp -implicitDefEqProofs [Tryz.f129]
  refine eCall.of (at_s g hf n (by omega)) (by simp) ?_
  simp -dsimp -implicitDefEqProofs
  refine eCall.of i0 (by simp) ?_
  simp -dsimp -implicitDefEqProofs
  refine sw_loop_e (fun p : {p : Nat // p ≤ g.agents.length} => SS.of [(2, I .i64 n), (3, .v (.one (.mp 0 0))), (4, .v (.one (.mp 1 0))), (6, .v (.one (.mp 2 0))), (7, .v (.one (intsS (atG g n)))), (8, .v (.one (.mp 3 0))), (9, I .i64 p.1)] [(0, ⟨26, rowGm g⟩), (1, ⟨29, [cesS r]⟩), (2, ⟨37, [.bool false, .nils, .nils]⟩), (3, ⟨37, rowFr (frQ (totTo g r n p.1))⟩)] 4)
    (fun p => g.agents.length - p.1) ⟨0, Nat.zero_le _⟩ (by kernel_rfl) (Le.to (by simp) (by simp [totTo, frQ, ng]) (by simp)) ?_
  rintro ⟨a, ha⟩
  by_cases a1 : a < g.agents.length
  · have wa : IntKind.i64.wrap ((a : Int) + 1) = ((a + 1 : Nat) : Int) := by rw [wrap_i64 _ (by omega) (by omega)]; rfl
    have hsp : Spot g r a n := ⟨h, a1, hn⟩
    obtain ⟨k1, k2⟩ := hsp.kof
    have al : a < (atG g n).length := by rw [atG_length]; exact a1
    have k1' : (atG g n)[a] = (kOf g n a : Int) := by rw [List.getElem?_eq_getElem al] at k1; exact Option.some.inj k1
    have hP := hsp.pair hn k2
    obtain ⟨d1, d2, d3⟩ := hP.dot
    have hdo := dotF_s _ _ 9 hP.cf.ok.2.2.1 hP.kf.ok.2.2.2.2 hP.len d1 (by omega)
    have hdz := sz_cap (sumQ (dotL (ceAt r n).lot (kdAt g a (kOf g n a)).worth))
    have e1 : cap (sumQ (dotL (ceAt r n).lot (kdAt g a (kOf g n a)).worth)) = sumQ (dotL r[n].lot (g.agents[a].kinds[kOf g n a]).worth) := by
      rw [ceAt_eq hn, kdAt_eq a1 k2]; exact (cap_mz (by omega)).1
    rw [← e1] at hdo
    have htz := totTo_sz g r n a
    have hda := addR_s (frQ (totTo g r n a)) (frQ (cap (sumQ (dotL (ceAt r n).lot (kdAt g a (kOf g n a)).worth)))) (frQ_ok (by omega)) (frQ_ok (by omega))
    rw [fix_frQ htz, fix_frQ hdz, show cap (totTo g r n a + cap (sumQ (dotL (ceAt r n).lot (kdAt g a (kOf g n a)).worth))) = totTo g r n (a + 1) from rfl] at hda
    simp -dsimp -implicitDefEqProofs [a1, al, k1', k2, hal, hn]
    refine eCall.of hdo (by simp) ?_
    simp -dsimp -implicitDefEqProofs
    refine eCall.of hda (by simp [frQ, ng]) ?_
    simp -dsimp -implicitDefEqProofs
    exact Again.by ⟨a + 1, a1⟩ (Le.to (by simp [wa]) (by simp [frQ, ng]) (by simp)) (by simp; omega)
  have ha2 : a = g.agents.length := by omega
  subst ha2
  simp -dsimp -implicitDefEqProofs [hal, frQ, ng]
  try rfl

set_option maxRecDepth 20000 in
set_option maxHeartbeats 1000000 in
theorem worst4_s (g : Gm) (r : List Ce) (h : Play g r) : CallsS Tryz.prog 127 [gmS g, ruS r] (.v (fS (lowQ g r))) := by
  have hf := h.fine
  obtain ⟨h1, -, -, h4, h5⟩ := sizeOk_all hf.sz
  have hrl := h.good.2.2.1
  have hr0 : 0 < r.length := by
    have := prod_pos (l := g.agents) (fun a ha => (h.good.2.1.all a ha).1) g.agents.length (Nat.le_refl _)
    rwa [List.take_length, ← h.good.2.2.1] at this
  have ha0 : 0 < g.agents.length := List.length_pos_iff.2 h.good.2.1.ag
  have use : ∀ {a n : Nat} (hs : Spot g r a n), CallsS Tryz.prog 102 [gmS g, ruS r, .one (.int .i64 (a : Int)), .one (.int .i64 (kOf g n a : Int)), .one (.int .i64 (n : Int))] (.v (fS (useQ g r n a))) := fun {a n} hs => by
    obtain ⟨k1, k2⟩ := hs.kof
    have hu : useQ g r n a = hasQ (r[n]'hs.hn) ((g.agents[a]'hs.ha).kinds[kOf g n a]) a := by unfold useQ; rw [ceAt_eq hs.hn, kdAt_eq hs.ha k2]
    rw [hu]
    exact hasP_s g r a (kOf g n a) n hs.ha k2 hs.hn (hs.pair hs.hn k2)
  have s0 : Spot g r 0 0 := ⟨h, ha0, hr0⟩
  obtain ⟨k1, k2⟩ := s0.kof
  have al0 : 0 < (atG g 0).length := by rw [atG_length]; exact ha0
  have k10 : (atG g 0)[0] = (kOf g 0 0 : Int) := by rw [List.getElem?_eq_getElem al0] at k1; exact Option.some.inj k1
  refine calls Tryz.func127 rfl (by rfl) (by rfl) (by kernel_rfl) ?_
  simp -dsimp -implicitDefEqProofs [Tryz.f127]
  refine eCall.of (at_s g hf 0 (by omega)) (by simp) ?_
  simp -dsimp -implicitDefEqProofs [al0, k10]
  refine eCall.of (use s0) (by simp) ?_
  simp -dsimp -implicitDefEqProofs
  refine sw_loop_e (fun p : {p : Nat × Nat // p.1 ≤ r.length} => SS.of [(2, .v (.one (.mp 0 0))), (3, .v (.one (.mp 1 0))), (4, .v (.one (.mp 2 0))), (6, .v (.one (.mp 3 0))), (7, I .i64 p.1.1)] [(0, ⟨26, rowGm g⟩), (1, ⟨29, [cesS r]⟩), (2, ⟨37, [.bool false, .nils, .nils]⟩), (3, ⟨37, rowFr (frQ (lowN g r p.1.1 0))⟩)] (p.1.2 + 4))
    (fun p => r.length - p.1.1) ⟨(0, 0), Nat.zero_le _⟩ (by kernel_rfl) (Le.to (by simp) (by simp [lowN, usesTo, usesP, frQ, ng]) (by simp)) ?_
  rintro ⟨⟨n, c⟩, hn⟩
  simp only at hn
  by_cases a1 : n < r.length
  · have wn : IntKind.i64.wrap ((n : Int) + 1) = ((n + 1 : Nat) : Int) := by rw [wrap_i64 _ (by omega) (by omega)]; rfl
    have hal := atG_length g n
    simp -dsimp -implicitDefEqProofs [a1]
    refine eCall.of (at_s g hf n (by omega)) (by simp) ?_
    simp -dsimp -implicitDefEqProofs
    refine sw_loop_e (fun p : {p : Nat × Nat // p.1 ≤ g.agents.length} => SS.of [(2, .v (.one (.mp 0 0))), (3, .v (.one (.mp 1 0))), (4, .v (.one (.mp 2 0))), (5, .v (.one (intsS (atG g n)))), (6, .v (.one (.mp 3 0))), (7, I .i64 n), (8, I .i64 p.1.1)] [(0, ⟨26, rowGm g⟩), (1, ⟨29, [cesS r]⟩), (2, ⟨37, [.bool false, .nils, .nils]⟩), (3, ⟨37, rowFr (frQ (lowN g r n p.1.1))⟩)] (p.1.2 + 4))
      (fun p => g.agents.length - p.1.1) ⟨(0, c), Nat.zero_le _⟩ (by kernel_rfl) (Le.to (by simp) (by simp) (by simp)) ?_
    rintro ⟨⟨a, d⟩, ha⟩
    simp only at ha
    by_cases a2 : a < g.agents.length
    · have wa : IntKind.i64.wrap ((a : Int) + 1) = ((a + 1 : Nat) : Int) := by rw [wrap_i64 _ (by omega) (by omega)]; rfl
      have hs : Spot g r a n := ⟨h, a2, a1⟩
      obtain ⟨k1, k2⟩ := hs.kof
      have al : a < (atG g n).length := by omega
      have k1' : (atG g n)[a] = (kOf g n a : Int) := by rw [List.getElem?_eq_getElem al] at k1; exact Option.some.inj k1
      have z1 := (cap_mz (show mz (useQ g r n a) ≤ 2048 by have := hs.use.1; omega)).2
      have z2 := (cap_mz (show mz (lowN g r n a) ≤ 2048 by have := lowN_mz h a1 ha; omega)).2
      have hcm := cmpR_s (frQ (useQ g r n a)) (frQ (lowN g r n a)) (frQ_ok (by omega)) (frQ_ok (by omega))
      rw [fix_frQ z1, fix_frQ z2] at hcm
      have hst := lowN_step g r n a
      simp -dsimp -implicitDefEqProofs [al, k1', hal, a2]
      refine eCall.of (use hs) (by simp) ?_
      simp -dsimp -implicitDefEqProofs
      refine eCall.of hcm (by simp [frQ, ng]) ?_
      by_cases c1 : useQ g r n a < lowN g r n a
      · rw [minF, if_pos c1] at hst
        simp -dsimp -implicitDefEqProofs [cmpQ_neg.2 c1]
        exact Again.by ⟨(a + 1, d + 1), a2⟩ (Le.to (by simp [wa]) (by simp [hst, frQ, ng]) (by simp)) (by simp; omega)
      · rw [minF, if_neg c1] at hst
        simp -dsimp -implicitDefEqProofs [mt cmpQ_neg.1 c1]
        exact Again.by ⟨(a + 1, d + 1), a2⟩ (Le.to (by simp [wa]) (by simp [hst]) (by simp)) (by simp; omega)
    have ha2 : a = g.agents.length := by omega
    subst ha2
    have hnx := lowN_next g r n
    simp -dsimp -implicitDefEqProofs [hal]
    exact Again.by ⟨(n + 1, d), a1⟩ (Le.to (by simp [wn]) (by simp [hnx]) (by simp)) (by simp; omega)
  have hn2 : n = r.length := by omega
  subst hn2
  have he : lowQ g r = lowN g r r.length 0 := by rw [low_minF h]; unfold lowN usesL; simp [usesP]
  simp -dsimp -implicitDefEqProofs [he, frQ, ng]
  try rfl

set_option maxRecDepth 20000 in
set_option maxHeartbeats 1000000 in
theorem aim4_s (g : Gm) (r : List Ce) (h : Play g r) : CallsS Tryz.prog 61 [gmS g, ruS r] (.v (fS (aimQ g r))) := by
  have hf := h.fine
  obtain ⟨h1, -, -, h4, h5⟩ := sizeOk_all hf.sz
  have hrl := h.good.2.2.1
  have i0 := intR_s 0 (by decide) (by decide)
  refine calls Tryz.func61 rfl (by rfl) (by rfl) (by kernel_rfl) ?_
  simp -dsimp -implicitDefEqProofs [Tryz.f61]
  refine eCall.of (rightR4_s g r h.seen 0 (.inr (.inr ⟨h.good, rfl⟩))) (by simp) ?_
  by_cases c2 : g.aim = 2
  · have c2' := eq_true c2
    have hai : aimQ g r = lowQ g r := if_pos c2
    simp -dsimp -implicitDefEqProofs [c2']
    refine eCall.of (worst4_s g r h) (by simp) ?_
    simp -dsimp -implicitDefEqProofs [hai, frQ, ng]
    try rfl
  have c2' := eq_false c2
  have hai : aimQ g r = aimTo g r r.length := if_neg c2
  simp -dsimp -implicitDefEqProofs [c2']
  refine eCall.of i0 (by simp) ?_
  simp -dsimp -implicitDefEqProofs
  refine sw_loop_e (fun p : {p : Nat × Nat // p.1 ≤ r.length} => SS.of [(2, .v (.one (.mp 0 0))), (3, .v (.one (.mp 1 0))), (4, .v (.one (.mp 2 0))), (5, .v (.one (.mp 3 0))), (6, I .i64 p.1.1)] [(0, ⟨26, rowGm g⟩), (1, ⟨29, [cesS r]⟩), (2, ⟨37, [.bool false, .nils, .nils]⟩), (3, ⟨37, rowFr (frQ (aimTo g r p.1.1))⟩)] (p.1.2 + 4))
    (fun p => r.length - p.1.1) ⟨(0, 0), Nat.zero_le _⟩ (by kernel_rfl) (Le.to (by simp) (by simp [aimTo, frQ, ng]) (by simp)) ?_
  rintro ⟨⟨n, c⟩, hn⟩
  simp only at hn
  by_cases a1 : n < r.length
  · have wn : IntKind.i64.wrap ((n : Int) + 1) = ((n + 1 : Nat) : Int) := by rw [wrap_i64 _ (by omega) (by omega)]; rfl
    have hce := h.ce (List.getElem_mem a1)
    have hpay := paidR_s r[n] (hce.1.pays (by have := hce.2.2; omega))
    rw [show paidQ r[n] = paidQ (ceAt r n) by rw [ceAt_eq a1]] at hpay
    have hwz := wgt_sz h a1
    have hpz := partQ_sz g r n
    have haz := aimTo_sz g r n
    have hmu := mulR_s (frQ (wgt g n)) (frQ (partQ g r n)) (frQ_ok (by omega)) (frQ_ok (by omega))
    rw [fix_frQ hwz, fix_frQ hpz] at hmu
    have hcz := sz_cap (wgt g n * partQ g r n)
    have had := addR_s (frQ (aimTo g r n)) (frQ (cap (wgt g n * partQ g r n))) (frQ_ok (by omega)) (frQ_ok (by omega))
    rw [fix_frQ haz, fix_frQ hcz, show cap (aimTo g r n + cap (wgt g n * partQ g r n)) = aimTo g r (n + 1) from rfl] at had
    simp -dsimp -implicitDefEqProofs [a1]
    refine eCall.of hpay (by simp) ?_
    by_cases c1 : g.aim = 1
    · have c1' := eq_true c1
      have hpt : partQ g r n = totTo g r n g.agents.length := if_pos c1
      rw [hpt] at hmu had
      simp -dsimp -implicitDefEqProofs [c1']
      refine eCall.of (total4_s g r h n a1) (by simp) ?_
      simp -dsimp -implicitDefEqProofs
      refine eCall.of (at_s g hf n (by omega)) (by simp) ?_
      simp -dsimp -implicitDefEqProofs
      refine eCall.of (weightR_s g r h n a1) (by simp) ?_
      simp -dsimp -implicitDefEqProofs
      refine eCall.of hmu (by simp [frQ, ng]) ?_
      simp -dsimp -implicitDefEqProofs
      refine eCall.of had (by simp [frQ, ng]) ?_
      simp -dsimp -implicitDefEqProofs
      exact Again.by ⟨(n + 1, c + 1), a1⟩ (Le.to (by simp [wn]) (by simp [frQ, ng]) (by simp)) (by simp; omega)
    · have c1' := eq_false c1
      have hpt : partQ g r n = paidQ (ceAt r n) := if_neg c1
      rw [hpt] at hmu had
      simp -dsimp -implicitDefEqProofs [c1']
      refine eCall.of (at_s g hf n (by omega)) (by simp) ?_
      simp -dsimp -implicitDefEqProofs
      refine eCall.of (weightR_s g r h n a1) (by simp) ?_
      simp -dsimp -implicitDefEqProofs
      refine eCall.of hmu (by simp [frQ, ng]) ?_
      simp -dsimp -implicitDefEqProofs
      refine eCall.of had (by simp [frQ, ng]) ?_
      simp -dsimp -implicitDefEqProofs
      exact Again.by ⟨(n + 1, c + 1), a1⟩ (Le.to (by simp [wn]) (by simp [frQ, ng]) (by simp)) (by simp; omega)
  have hn2 : n = r.length := by omega
  subst hn2
  simp -dsimp -implicitDefEqProofs [hai, frQ, ng]
  try rfl

set_option maxRecDepth 20000 in
theorem aimNo4_s (g : Gm) (r : List Ce) (h : Seen g r) (hg : ¬ Good g r) : CallsS Tryz.prog 61 [gmS g, ruS r] (.v (fS 0)) := by
  obtain ⟨e, he, h0⟩ := isGood_of g r
  have h0 : ¬ e = 0 := fun h => hg (h0.1 h)
  have i0 := intR_s 0 (by decide) (by decide)
  refine calls Tryz.func61 rfl (by rfl) (by rfl) (by kernel_rfl) ?_
  simp -dsimp -implicitDefEqProofs [Tryz.f61]
  refine eCall.of (rightR4_s g r h e he) (by simp) ?_
  simp -dsimp -implicitDefEqProofs [h0]
  refine eCall.of i0 (by simp) ?_
  simp -dsimp -implicitDefEqProofs [frQ, ng]

theorem aimQ_sz {g : Gm} {r : List Ce} (h : Play g r) : sz (aimQ g r) ≤ 4096 := by
  unfold aimQ
  split
  · rw [low_minF h]
    have h0 : mz (useQ g r 0 0) ≤ 68 := (Spot.use ⟨h, List.length_pos_iff.2 h.good.2.1.ag, by
      have := prod_pos (l := g.agents) (fun a ha => (h.good.2.1.all a ha).1) g.agents.length (Nat.le_refl _)
      rwa [List.take_length, ← h.good.2.2.1] at this⟩).1
    have := fold_minF h0 (usesL g r) (fun x hx => mem_uses h hx) _ h0
    exact (cap_mz (by omega)).2
  · exact aimTo_sz g r _

set_option maxRecDepth 20000 in
theorem lawMeets_s (g : Gm) (r : List Ce) (hg : g.ok) (hl : lenOk r) (hr : ∀ c ∈ r, c.ok) : CallsS Tryz.prog 13 [gmS g, ruS r] (B true) := by
  refine calls Tryz.func13 rfl (by rfl) (by rfl) (by kernel_rfl) ?_
  simp -dsimp -implicitDefEqProofs [Tryz.f13]
  refine eCall.of (bey4_s g r hg hl hr) (by simp) ?_
  cases h1 : far g with
  | true => simp -dsimp -implicitDefEqProofs
  | false =>
  cases h2 : beyondRule r with
  | true => simp -dsimp -implicitDefEqProofs
  | false =>
  have hs := seen_of hg hr h1 h2
  by_cases hgd : Good g r
  · have hp : Play g r := ⟨hs, h1, hgd⟩
    obtain ⟨i, ok, hi⟩ := isMeets_of g r
    have hz := aimQ_sz hp
    simp -dsimp -implicitDefEqProofs
    refine eCall.of (meets4_s g r hp i ok hi) (by simp) ?_
    simp -dsimp -implicitDefEqProofs
    refine eCall.of (aim4_s g r hp) (by simp) ?_
    simp -dsimp -implicitDefEqProofs
    refine eCall.of (rmeetsAll_s g r hp i ok hi) (by simp) ?_
    simp -dsimp -implicitDefEqProofs
    refine eCall.of (raim_s g r hp) (by simp) ?_
    simp -dsimp -implicitDefEqProofs
    refine eCall.of (exact_s (frQ (aimQ g r)) (frQ_ok (by omega))) (by simp [frQ, ng]) ?_
    simp -dsimp -implicitDefEqProofs
    refine eCall.of fixed_s (by simp) ?_
    simp -dsimp -implicitDefEqProofs
  · simp -dsimp -implicitDefEqProofs
    refine eCall.of (meetsNo4_s g r hs hgd) (by simp) ?_
    simp -dsimp -implicitDefEqProofs
    refine eCall.of (aimNo4_s g r hs hgd) (by simp) ?_
    simp -dsimp -implicitDefEqProofs
    refine eCall.of (rmeetsNo_s g r hs hgd) (by simp) ?_
    simp -dsimp -implicitDefEqProofs
    refine eCall.of (raimNo_s g r hs hgd) (by simp) ?_
    simp -dsimp -implicitDefEqProofs
    refine eCall.of (exact_s (frQ 0) (by decide +kernel)) (by simp [frQ, ng]) ?_
    simp -dsimp -implicitDefEqProofs
    refine eCall.of fixed_s (by simp) ?_
    simp -dsimp -implicitDefEqProofs
end Go.Proofs.YtmgaoecfipkjbaaGreat.Sh

