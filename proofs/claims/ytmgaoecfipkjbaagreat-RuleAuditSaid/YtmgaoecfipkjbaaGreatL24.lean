/- A part of the proof: R84 -/
import Derived.Test.YtmgaoecfipkjbaaGreatL23
set_option linter.unusedSimpArgs false
set_option linter.unusedVariables false
/- Audits: the program's walk, and that of RuleAudit. -/
namespace Go.Proofs.YtmgaoecfipkjbaaGreat.Sh
open Go Go.RowKit

set_option maxRecDepth 20000 in
set_option maxHeartbeats 4000000 in
theorem raudit_s (g : Gm) (r : List Ce) (hs : Seen g r) (hfar : far g = false) (log : List Sn) (hlf : LogFine log) (l : List Li) (e : Int) (hr : isAud g r log l e) : CallsS Tryz.prog 56 [gmS g, ruS r, .one (snsS log)] (.tup [.one (lisS l), .one (.int .i64 e)]) := by
  have hll := hlf.len
  refine calls Tryz.func56 rfl (by rfl) (by rfl) (by kernel_rfl) ?_
  simp -dsimp -implicitDefEqProofs [Tryz.f56]
  by_cases hgd : Good g r
  case neg =>
    refine eCall.of (openNo_s g r hs hgd) (by simp) ?_
    simp -dsimp -implicitDefEqProofs
    rcases hr with ⟨-, h1, rfl⟩ | ⟨h1, -⟩ | ⟨h1, -⟩
    · refine eCall.of (rright_s g r hs e h1) (by simp) ?_
      simp -dsimp -implicitDefEqProofs
    · exact absurd h1 hgd
    · exact absurd h1 hgd
  refine eCall.of (open_s g r hs hgd) (by simp) ?_
  have h : Play g r := ⟨hs, hfar, hgd⟩
  have hf := h.fine
  obtain ⟨q1, -, -, q4, q5⟩ := sizeOk_all hf.sz
  have hbad : ¬ LogOk g log → l = [] ∧ e = 3 := fun hn => by
    rcases hr with ⟨h1, -⟩ | ⟨-, -, h2, h3⟩ | ⟨-, h2, -⟩
    · exact absurd hgd h1
    · exact ⟨h2, h3⟩
    · exact absurd h2 hn
  have hgood : LogOk g log → l = auditL g r log ∧ e = 0 := fun hn => by
    rcases hr with ⟨h1, -⟩ | ⟨-, h2, -⟩ | ⟨-, -, h2, h3⟩
    · exact absurd hgd h1
    · exact absurd hn h2
    · exact ⟨h2, h3⟩
  simp -dsimp -implicitDefEqProofs
  refine sw_loop_e (fun p : {p : Nat × Nat // p.1 ≤ log.length ∧ ∀ s ∈ log.take p.1, isProf g s.prof ∧ 0 ≤ s.count} => SS.of [(3, .v (.one (.mp 0 0))), (5, .v (.one (.mp 2 0))), (8, .v (.one (.mp 3 0))), (29, .v (.one (snsS log))), (30, I .i64 log.length), (31, I .i64 p.1.1)] [(0, ⟨26, rowGm g⟩), (2, ⟨84, [snsS log]⟩), (3, ⟨106, rowTb g r⟩)] (p.1.2 + 4))
    (fun p => log.length - p.1.1) ⟨(0, 0), Nat.zero_le _, by simp⟩ (by kernel_rfl) (Le.to (by simp) (by simp) (by simp)) ?_
  rintro ⟨⟨i, n⟩, hi, hq⟩
  simp only at hi hq
  by_cases a1 : i < log.length
  · have wi : IntKind.i64.wrap ((i : Int) + 1) = ((i + 1 : Nat) : Int) := by rw [wrap_i64 _ (by omega) (by omega)]; rfl
    obtain ⟨ix, hix⟩ := isIdx2_of g log[i].prof
    have hid := sidx_s g r hs log[i].prof (by have := hlf.pl _ (List.getElem_mem a1); omega) ix hix
    by_cases hc : log[i].count < 0
    · obtain ⟨rfl, rfl⟩ := hbad (notLog a1 (fun hh => by omega))
      simp -dsimp -implicitDefEqProofs [hc, a1]
    simp -dsimp -implicitDefEqProofs [a1, hc]
    refine eCall.of hid (by simp) ?_
    by_cases hp : isProf g log[i].prof
    · have e1 : ix = whr g log[i].prof := by
        rcases hix with h | h
        · exact h.2.2
        · exact absurd ⟨⟨hgd.1, hgd.2.1⟩, hp⟩ h.1
      obtain ⟨m, w1, -, -⟩ := whr_lt h hp
      have e2 : ¬ ix < 0 := by omega
      simp -dsimp -implicitDefEqProofs [e2]
      refine Again.by ⟨(i + 1, n + 1), a1, fun s hs => ?_⟩ (Le.to (by simp [wi]) (by simp) (by simp)) (by simp; omega)
      simp only at hs
      rw [List.take_add_one, List.getElem?_eq_getElem a1] at hs
      rcases List.mem_append.1 hs with hs | hs
      · exact hq s hs
      · simp at hs; subst hs; exact ⟨hp, by omega⟩
    · have e1 : ix = -1 := by
        rcases hix with h | h
        · exact absurd h.2.1 hp
        · exact h.2
      subst e1
      obtain ⟨rfl, rfl⟩ := hbad (notLog a1 (fun hh => hp hh.1))
      simp -dsimp -implicitDefEqProofs
  have hi2 : i = log.length := by omega
  subst hi2
  rw [List.take_length] at hq
  have hlo : LogOk g log := hq
  obtain ⟨rfl, rfl⟩ := hgood hlo
  simp -dsimp -implicitDefEqProofs
  refine sw_loop_e (fun p : {p : Nat × Nat × Nat // p.1 ≤ g.agents.length ∧ p.2.1 < p.2.2} => SS.of [(3, .v (.one (.rp true (rowGm g)))), (5, .v (.one (.rp true [snsS log]))), (8, .v (.one (.rp true (rowTb g r)))), (12, if (auditTo g r log p.1.1).length = 0 then .v (.one .nils) else .v (.one (.ms p.1.2.1 0 (auditTo g r log p.1.1).length 7 true))), (48, I .i64 g.agents.length), (49, I .i64 p.1.1)]
      (if (auditTo g r log p.1.1).length = 0 then [] else [(p.1.2.1, ⟨39, flat rowLi (auditTo g r log p.1.1)⟩)]) p.1.2.2)
    (fun p => g.agents.length - p.1.1) ⟨(0, 0, n + 4), Nat.zero_le _, by simp⟩ (by kernel_rfl) (Le.fzF [0, 2, 3] (Le.to (by simp [auditTo]) (by simp [auditTo]) (by simp))) ?_
  rintro ⟨⟨a, o, m⟩, ha, hom⟩
  simp only at ha hom
  by_cases a1 : a < g.agents.length
  · have wa : IntKind.i64.wrap ((a : Int) + 1) = ((a + 1 : Nat) : Int) := by rw [wrap_i64 _ (by omega) (by omega)]; rfl
    have hk4 := q4 _ (List.getElem_mem a1)
    have hkl := kl_eq a1
    have y0 : ¬ m = o := by omega
    have y1 : ¬ o = m := by omega
    simp -dsimp -implicitDefEqProofs [a1]
    refine sw_loop_e (fun p : {p : Nat × Nat × Nat // p.1 ≤ g.agents[a].kinds.length ∧ p.2.1 < p.2.2} => SS.of [(3, .v (.one (.rp true (rowGm g)))), (5, .v (.one (.rp true [snsS log]))), (8, .v (.one (.rp true (rowTb g r)))), (12, if (auditK g r log a p.1.1).length = 0 then .v (.one .nils) else .v (.one (.ms p.1.2.1 0 (auditK g r log a p.1.1).length 7 true))), (13, .v (.one (.rp true [.int .i64 (a : Int)]))), (48, I .i64 g.agents.length), (49, I .i64 a), (58, I .i64 g.agents[a].kinds.length), (59, I .i64 p.1.1)]
        (if (auditK g r log a p.1.1).length = 0 then [] else [(p.1.2.1, ⟨39, flat rowLi (auditK g r log a p.1.1)⟩)]) p.1.2.2)
      (fun p => g.agents[a].kinds.length - p.1.1) ⟨(0, o, m + 1), Nat.zero_le _, by simp only; omega⟩ (by kernel_rfl) (by simp only [auditK_zero]; by_cases l0 : auditTo g r log a = [] <;> exact Le.fzF [m] (Le.to (by simp [l0, y0, y1]) (by simp [l0, y0, y1]) (by simp [l0, y0, y1]))) ?_
    rintro ⟨⟨k, o, m⟩, hk, hom⟩
    simp only at hk hom
    have hlen := auditK_len h log (k := k) (Nat.le_of_lt a1) (by omega)
    by_cases a2 : k < g.agents[a].kinds.length
    · have wk : IntKind.i64.wrap ((k : Int) + 1) = ((k + 1 : Nat) : Int) := by rw [wrap_i64 _ (by omega) (by omega)]; rfl
      have hstep := auditK_step g r log a k
      have hfl := flat_snoc (f := rowLi) (bestAK g r log a k) (auditK g r log a k)
      rw [← hstep] at hfl
      have hl1 : (auditK g r log a (k + 1)).length = (auditK g r log a k).length + 1 := by rw [hstep]; simp
      have hok : ∀ x ∈ othersA g r log a k (kl g a), x.ok := fun x hx => by
        obtain ⟨t, -, rfl⟩ := List.mem_map.1 hx
        exact ⟨by show lenOk []; decide, totA_sz g r log a k t⟩
      have hmo := mostL_s (othersA g r log a k (kl g a)) (audit1_it g r h log hlf hlo a k a1 a2) gtL (fun x hx y hy => audit2_s x y (hok x hx) (hok y hy))
      have hmm : ∀ y, (othersA g r log a k (kl g a)).foldl (mst gtL) none = some y → y ∈ othersA g r log a k (kl g a) := fun y hy => (mst_mem gtL _ _ hy).resolve_right (by simp)
      have hbk : bestAK g r log a k = orZ (noAK a k) ((othersA g r log a k (kl g a)).foldl (mst gtL) none) := rfl
      generalize hL : auditK g r log a k = L at *
      generalize hM : (othersA g r log a k (kl g a)).foldl (mst gtL) none = M at *
      have y0 : ¬ m = o := by omega
      have y1 : ¬ o = m := by omega
      have y2 : ¬ m + 1 = o := by omega
      have y3 : ¬ o = m + 1 := by omega
      have y4 : ¬ m + 2 = o := by omega
      have y5 : ¬ o = m + 2 := by omega
      have y6 : ¬ m + 3 = o := by omega
      have y7 : ¬ o = m + 3 := by omega
      by_cases l0 : L.length = 0
      · have hL0 : L = [] := List.length_eq_zero_iff.1 l0
        rw [hL0, flat_nil, List.nil_append] at hfl
        simp -dsimp -implicitDefEqProofs [a1, a2, l0, y0, y1, y2, y3, y4, y5, y6, y7]
        refine eCall.of hmo (by simp) ?_
        cases M with
        | none =>
          simp -dsimp -implicitDefEqProofs [l0, y0, y1, y2, y3, y4, y5, y6, y7]
          refine eCall.of rzero_s (by simp) ?_
          simp -dsimp -implicitDefEqProofs [slots, l0, y0, y1, y2, y3, y4, y5, y6, y7]
          try refine ⟨by omega, ?_⟩
          exact Again.by ⟨(k + 1, m + 3, m + 4), by omega, by simp⟩ (Le.to (by simp [wk, hl1, l0, y0, y1, y2, y3, y4, y5, y6, y7]) (by simp [hfl, hl1, l0, hbk, orZ, noAK, frQ, ng, y0, y1, y2, y3, y4, y5, y6, y7]) (by simp)) (by simp; omega)
        | some y =>
          have hyz := (hok y (hmm y rfl)).2
          have hsg := fsign_s (frQ y.gain) (frQ_ok (by omega))
          rw [fix_frQ hyz] at hsg
          simp -dsimp -implicitDefEqProofs [l0, y0, y1, y2, y3, y4, y5, y6, y7]
          refine eCall.of hsg (by simp [frQ, ng]) ?_
          by_cases c1 : 0 < y.gain
          · rw [orZ, if_pos c1] at hbk
            have c2 : ¬ sgnQ y.gain ≤ 0 := Int.not_le.2 (sgnQ_pos.2 c1)
            simp -dsimp -implicitDefEqProofs [c2, slots, l0, y0, y1, y2, y3, y4, y5, y6, y7]
            try refine ⟨by omega, ?_⟩
            exact Again.by ⟨(k + 1, m + 3, m + 4), by omega, by simp⟩ (Le.to (by simp [wk, hl1, l0, y0, y1, y2, y3, y4, y5, y6, y7]) (by simp [hfl, hl1, l0, hbk, frQ, ng, y0, y1, y2, y3, y4, y5, y6, y7]) (by simp)) (by simp; omega)
          · rw [orZ, if_neg c1] at hbk
            have c2 : sgnQ y.gain ≤ 0 := Int.not_lt.1 (mt sgnQ_pos.1 c1)
            simp -dsimp -implicitDefEqProofs [c2, l0, y0, y1, y2, y3, y4, y5, y6, y7]
            refine eCall.of rzero_s (by simp) ?_
            simp -dsimp -implicitDefEqProofs [slots, l0, y0, y1, y2, y3, y4, y5, y6, y7]
            try refine ⟨by omega, ?_⟩
            exact Again.by ⟨(k + 1, m + 3, m + 4), by omega, by simp⟩ (Le.to (by simp [wk, hl1, l0, y0, y1, y2, y3, y4, y5, y6, y7]) (by simp [hfl, hl1, l0, hbk, noAK, frQ, ng, y0, y1, y2, y3, y4, y5, y6, y7]) (by simp)) (by simp; omega)
      · skip
        simp -dsimp -implicitDefEqProofs [a1, a2, l0, y0, y1, y2, y3, y4, y5, y6, y7]
        refine eCall.of hmo (by simp) ?_
        cases M with
        | none =>
          simp -dsimp -implicitDefEqProofs [l0, y0, y1, y2, y3, y4, y5, y6, y7]
          refine eCall.of rzero_s (by simp) ?_
          simp -dsimp -implicitDefEqProofs [slots, l0, y0, y1, y2, y3, y4, y5, y6, y7]
          try refine ⟨by omega, ?_⟩
          exact Again.by ⟨(k + 1, m + 3, m + 4), by omega, by simp⟩ (Le.to (by simp [wk, hl1, l0, y0, y1, y2, y3, y4, y5, y6, y7]) (by simp [hfl, hl1, l0, hbk, orZ, noAK, frQ, ng, y0, y1, y2, y3, y4, y5, y6, y7]) (by simp)) (by simp; omega)
        | some y =>
          have hyz := (hok y (hmm y rfl)).2
          have hsg := fsign_s (frQ y.gain) (frQ_ok (by omega))
          rw [fix_frQ hyz] at hsg
          simp -dsimp -implicitDefEqProofs [l0, y0, y1, y2, y3, y4, y5, y6, y7]
          refine eCall.of hsg (by simp [frQ, ng]) ?_
          by_cases c1 : 0 < y.gain
          · rw [orZ, if_pos c1] at hbk
            have c2 : ¬ sgnQ y.gain ≤ 0 := Int.not_le.2 (sgnQ_pos.2 c1)
            simp -dsimp -implicitDefEqProofs [c2, slots, l0, y0, y1, y2, y3, y4, y5, y6, y7]
            try refine ⟨by omega, ?_⟩
            exact Again.by ⟨(k + 1, m + 3, m + 4), by omega, by simp⟩ (Le.to (by simp [wk, hl1, l0, y0, y1, y2, y3, y4, y5, y6, y7]) (by simp [hfl, hl1, l0, hbk, frQ, ng, y0, y1, y2, y3, y4, y5, y6, y7]) (by simp)) (by simp; omega)
          · rw [orZ, if_neg c1] at hbk
            have c2 : sgnQ y.gain ≤ 0 := Int.not_lt.1 (mt sgnQ_pos.1 c1)
            simp -dsimp -implicitDefEqProofs [c2, l0, y0, y1, y2, y3, y4, y5, y6, y7]
            refine eCall.of rzero_s (by simp) ?_
            simp -dsimp -implicitDefEqProofs [slots, l0, y0, y1, y2, y3, y4, y5, y6, y7]
            try refine ⟨by omega, ?_⟩
            exact Again.by ⟨(k + 1, m + 3, m + 4), by omega, by simp⟩ (Le.to (by simp [wk, hl1, l0, y0, y1, y2, y3, y4, y5, y6, y7]) (by simp [hfl, hl1, l0, hbk, noAK, frQ, ng, y0, y1, y2, y3, y4, y5, y6, y7]) (by simp)) (by simp; omega)
    have hk2 : k = kl g a := by omega
    subst hk2
    rw [auditK_all g r log a]
    simp -dsimp -implicitDefEqProofs [a1, hkl]
    exact Again.by ⟨(a + 1, o, m), a1, hom⟩ (Le.to (by simp [wa, st_self]) (by split <;> simp [*]) (by simp)) (by simp; omega)
  have ha2 : a = g.agents.length := by omega
  subst ha2
  by_cases l0 : (auditTo g r log g.agents.length).length = 0
  · have hL0 : auditL g r log = [] := List.length_eq_zero_iff.1 l0
    simp -dsimp -implicitDefEqProofs [l0, hL0]
  · simp -dsimp -implicitDefEqProofs [l0, auditL]

theorem audit_ok {g : Gm} {r : List Ce} (log : List Sn) : ∀ l ∈ auditL g r log, l.ok := by
  intro l hl
  obtain ⟨a, -, hl⟩ := List.mem_flatMap.1 hl
  obtain ⟨k, -, rfl⟩ := List.mem_map.1 hl
  exact (bestAK_ok log a k).1
theorem isAud_of (g : Gm) (r : List Ce) (log : List Sn) : ∃ l e, isAud g r log l e := by
  by_cases h : Good g r
  · by_cases h2 : LogOk g log
    · exact ⟨_, _, .inr (.inr ⟨h, h2, rfl, rfl⟩)⟩
    · exact ⟨_, _, .inr (.inl ⟨h, h2, rfl, rfl⟩)⟩
  · obtain ⟨e, he, -⟩ := isGood_of g r
    exact ⟨_, _, .inl ⟨h, he, rfl⟩⟩

set_option maxRecDepth 20000 in
set_option maxHeartbeats 1000000 in
theorem lawAudit_s (g : Gm) (r : List Ce) (hg : g.ok) (hl : lenOk r) (hr : ∀ c ∈ r, c.ok) (log : List Sn) (hol : log.length ≤ 140737488355328) (ho : ∀ s ∈ log, s.ok) : CallsS Tryz.prog 11 [gmS g, ruS r, .one (snsS log)] (B true) := by
  refine calls Tryz.func11 rfl (by rfl) (by rfl) (by kernel_rfl) ?_
  simp -dsimp -implicitDefEqProofs [Tryz.f11]
  refine eCall.of (bey4_s g r hg hl hr) (by simp) ?_
  cases h1 : far g with
  | true => simp -dsimp -implicitDefEqProofs
  | false =>
  cases h2 : beyondRule r with
  | true => simp -dsimp -implicitDefEqProofs
  | false =>
  simp -dsimp -implicitDefEqProofs
  refine eCall.of (logged_s log hol) (by simp) ?_
  cases h3 : loggedB log with
  | false => simp -dsimp -implicitDefEqProofs
  | true =>
  have hs := seen_of hg hr h1 h2
  have hlf := loggedB_fine ho h3
  obtain ⟨l, e, ha⟩ := isAud_of g r log
  have hlok : ∀ x ∈ l, x.ok := by
    rcases ha with ⟨-, -, rfl⟩ | ⟨-, -, rfl, -⟩ | ⟨-, -, rfl, -⟩
    · simp
    · simp
    · exact audit_ok log
  have hll : l.length ≤ 16 := by
    rcases ha with ⟨-, -, rfl⟩ | ⟨-, -, rfl, -⟩ | ⟨hgd, -, rfl, -⟩
    · simp
    · simp
    · have hp : Play g r := ⟨hs, h1, hgd⟩
      have := auditK_len hp log (Nat.le_refl g.agents.length) (Nat.zero_le 4)
      rw [auditK_zero] at this
      have := (sizeOk_all hp.fine.sz).1
      show (auditTo g r log g.agents.length).length ≤ 16
      omega
  simp -dsimp -implicitDefEqProofs
  refine eCall.of (audit4_s g r hs h1 log hlf l e ha) (by simp) ?_
  simp -dsimp -implicitDefEqProofs
  refine eCall.of (raudit_s g r hs h1 log hlf l e ha) (by simp) ?_
  simp -dsimp -implicitDefEqProofs
  refine eCall.of (sameLies_s l l hlok hlok (by omega) true (by simp)) (by simp) ?_
  simp -dsimp -implicitDefEqProofs
  obtain ⟨tl, ok, htr, htold⟩ : ∃ (tl : Option Li) (ok : Bool), CallsS Tryz.prog 22 [gmS g, ruS r] (.tup [.agg (rowO tl), .one (.bool ok)]) ∧ (ok = true → ∀ x ∈ l, x.told = -1) := by
    by_cases hgd : Good g r
    · have hp : Play g r := ⟨hs, h1, hgd⟩
      obtain ⟨tl, ok, ht⟩ := isTr_of (g := g) (r := r)
      refine ⟨some tl, ok, rtruth_s g r hp tl ok ht, fun hok x hx => ?_⟩
      subst hok
      rcases ht with ⟨_, _, _, _, _, h3⟩ | ⟨hno, -, -⟩
      · cases h3
      rcases ha with ⟨hb, -⟩ | ⟨-, -, rfl, -⟩ | ⟨-, hlo, rfl, -⟩
      · exact absurd hgd hb
      · cases hx
      · obtain ⟨a, ha', hx⟩ := List.mem_flatMap.1 hx
        obtain ⟨k, hk', rfl⟩ := List.mem_map.1 hx
        have ha' := List.mem_range.1 ha'
        unfold bestAK
        cases em : (othersA g r log a k (kl g a)).foldl (mst gtL) none with
        | none => rfl
        | some y =>
          have hy := (mst_mem gtL _ _ em).resolve_right (by simp)
          obtain ⟨t, ht', rfl⟩ := List.mem_map.1 hy
          have ht' := List.mem_range.1 (List.mem_filter.1 ht').1
          have hle := tot_le hp hlo (k := k) ha' ht' (hno a ha')
          unfold orZ
          simp only
          rw [if_neg (show ¬ 0 < (tlA g r log a k t).gain from Rat.not_lt.2 hle)]
          rfl
    · exact ⟨none, false, rtruthNo_s g r hs hgd, fun h => by cases h⟩
  cases tl with
  | none =>
    refine eCall.of htr (by simp) ?_
    simp -dsimp -implicitDefEqProofs
    refine sw_loop_e (fun p : {p : Nat // p ≤ l.length} => SS.of [(9, .v (.one (lisS l))), (12, B ok), (13, I .i64 p.1)] [] 5)
      (fun p => l.length - p.1) ⟨0, Nat.zero_le _⟩ (by kernel_rfl) (Le.to (by simp) (by simp) (by simp)) ?_
    rintro ⟨i, hi⟩
    by_cases a1 : i < l.length
    · have wi : IntKind.i64.wrap ((i : Int) + 1) = ((i + 1 : Nat) : Int) := by rw [wrap_i64 _ (by omega) (by omega)]; rfl
      cases ok with
      | false =>
        simp -dsimp -implicitDefEqProofs [a1]
        exact Again.by ⟨i + 1, a1⟩ (Le.to (by simp [wi]) (by simp) (by simp)) (by simp; omega)
      | true =>
        have ht := htold rfl _ (List.getElem_mem a1)
        simp -dsimp -implicitDefEqProofs [a1, ht]
        exact Again.by ⟨i + 1, a1⟩ (Le.to (by simp [wi]) (by simp) (by simp)) (by simp; omega)
    have hi2 : i = l.length := by omega
    subst hi2
    simp -dsimp -implicitDefEqProofs
    refine eCall.of fixed_s (by simp) ?_
    simp -dsimp -implicitDefEqProofs
  | some tl =>
    refine eCall.of htr (by simp) ?_
    simp -dsimp -implicitDefEqProofs
    refine sw_loop_e (fun p : {p : Nat // p ≤ l.length} => SS.of [(9, .v (.one (lisS l))), (12, B ok), (13, I .i64 p.1)] [] 5)
      (fun p => l.length - p.1) ⟨0, Nat.zero_le _⟩ (by kernel_rfl) (Le.to (by simp) (by simp) (by simp)) ?_
    rintro ⟨i, hi⟩
    by_cases a1 : i < l.length
    · have wi : IntKind.i64.wrap ((i : Int) + 1) = ((i + 1 : Nat) : Int) := by rw [wrap_i64 _ (by omega) (by omega)]; rfl
      cases ok with
      | false =>
        simp -dsimp -implicitDefEqProofs [a1]
        exact Again.by ⟨i + 1, a1⟩ (Le.to (by simp [wi]) (by simp) (by simp)) (by simp; omega)
      | true =>
        have ht := htold rfl _ (List.getElem_mem a1)
        simp -dsimp -implicitDefEqProofs [a1, ht]
        exact Again.by ⟨i + 1, a1⟩ (Le.to (by simp [wi]) (by simp) (by simp)) (by simp; omega)
    have hi2 : i = l.length := by omega
    subst hi2
    simp -dsimp -implicitDefEqProofs
    refine eCall.of fixed_s (by simp) ?_
    simp -dsimp -implicitDefEqProofs
end Go.Proofs.YtmgaoecfipkjbaaGreat.Sh

