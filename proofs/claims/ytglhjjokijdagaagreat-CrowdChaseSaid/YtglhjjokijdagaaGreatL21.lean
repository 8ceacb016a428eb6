/- A part of the proof: R113, R17, R18, R114, R115, R116 -/
import Derived.Test.YtglhjjokijdagaaGreatL20
set_option linter.unusedSimpArgs false
set_option linter.unusedVariables false
set_option linter.unusedSectionVars false
/- A crowd: the reference's Had, By, logs. -/
namespace Go.Proofs.YtglhjjokijdagaaGreat.Sh
open Go Go.RowKit

theorem zip_get {α β : Type} {l : List α} {m : List β} {i : Nat} (h1 : i < l.length) (h2 : i < m.length) (h : i < (l.zip m).length) : (l.zip m)[i] = (l[i], m[i]) := by simp
theorem zip_len {α β : Type} {l : List α} {m : List β} (h : l.length = m.length) : (l.zip m).length = l.length := by rw [List.length_zip]; omega

/-- A log that is right: as many truths as reports, all of them profiles, at most 60 of them. -/
structure LogR (g : Gm) (T S : List (List Int)) : Prop where
  len : T.length = S.length
  small : T.length ≤ 60
  t : ∀ p ∈ T, isProf g p
  s : ∀ p ∈ S, isProf g p
theorem LogR.p {g : Gm} {T S : List (List Int)} (h : LogR g T S) : LogP g (T.zip S) := fun x hx => ⟨h.t _ (List.of_mem_zip hx).1, h.s _ (List.of_mem_zip hx).2⟩
theorem LogR.zl {g : Gm} {T S : List (List Int)} (h : LogR g T S) : (T.zip S).length = T.length := zip_len h.len

set_option maxRecDepth 20000 in
theorem had14_s {g : Gm} {r : List Ce} {a : Nat} (h : Sit g r a) {T S : List (List Int)} (hL : LogR g T S) :
    CallsS Tryz.prog 13 [gmS g, ruS r, .one (profsS T), .one (profsS S), .one (.int .i64 (a : Int))] (.v (fS (hadQ g r a (T.zip S)))) := by
  have i0 := intR_s 0 (by decide) (by decide)
  have hs := hL.small
  have hle := hL.len
  have hz := hL.zl
  refine calls Tryz.func13 rfl (by rfl) (by rfl) (by kernel_rfl) ?_
  simp -dsimp -implicitDefEqProofs [Tryz.f13]
  refine eCall.of i0 (by simp) ?_
  simp -dsimp -implicitDefEqProofs
  refine sw_loop_e (fun q : {q : Nat // q ≤ T.length} => SS.of [(2, .v (.one (profsS T))), (3, .v (.one (profsS S))), (4, I .i64 a), (5, .v (.one (.mp 0 0))), (6, .v (.one (.mp 1 0))), (10, .v (.one (.mp 2 0))), (11, .v (.one (.mp 3 0))), (12, I .i64 q.1)] [(0, ⟨26, rowGm g⟩), (1, ⟨29, [cesS r]⟩), (2, ⟨40, [.bool false, .nils, .nils]⟩), (3, ⟨40, rowFr (frQ (hadQ g r a ((T.zip S).take q.1)))⟩)] 4)
    (fun q => T.length - q.1) ⟨0, Nat.zero_le _⟩ (by kernel_rfl) (Le.to (by simp) (by simp [hadQ, sumQ, frQ, ng]) (by simp)) ?_
  rintro ⟨i, hi⟩
  by_cases a1 : i < T.length
  · have wi : IntKind.i64.wrap ((i : Int) + 1) = ((i + 1 : Nat) : Int) := by rw [wrap_i64 _ (by omega) (by omega)]; rfl
    have a2 : i < S.length := by omega
    have a3 : i < (T.zip S).length := by omega
    have hx := List.getElem_mem a3
    have hg3 := zip_get a1 a2 a3
    have p1 := hL.t _ (List.getElem_mem a1)
    have p2 := hL.s _ (List.getElem_mem a2)
    obtain ⟨k1, k2⟩ := h.knd hL.p _ hx
    obtain ⟨t, t1, t2, t3⟩ := h.own hL.p _ hx
    rw [hg3] at k1 k2 t1 t3
    have l1 : a < T[i].length := by have := p1.1; have := h.ha; omega
    have l2 : a < S[i].length := by have := p2.1; have := h.ha; omega
    rw [List.getElem?_eq_getElem l1] at k2
    rw [List.getElem?_eq_getElem l2] at t3
    have k3 := Option.some.inj k2
    have t4 := Option.some.inj t3
    try simp only at k3 t4
    have hp : ∀ j, LogP g ((T.zip S).take j) := fun j x hx => hL.p x (mem_take hx)
    have o1 := h.sz (i := 11) (by omega) (h.had_over (hp i) (by rw [List.length_take]; omega))
    have o2 := h.sz (i := 10) (by omega) (h.over p2 (t := (t : Int)) (by omega) (by omega) k1)
    have o3 := h.sz (i := 11) (by omega) (h.had_over (hp (i + 1)) (by rw [List.length_take]; omega))
    have hst : hadQ g r a ((T.zip S).take (i + 1)) = hadQ g r a ((T.zip S).take i) + useP g r a (knd a (T[i], S[i])) S[i] t := by
      unfold hadQ; rw [take_snoc_map _ _ _ a3, sumQ_snoc, hg3, t1]
    have ha := addR_s (frQ (hadQ g r a ((T.zip S).take i))) (frQ (useP g r a (knd a (T[i], S[i])) S[i] t)) (frQ_ok (by omega)) (frQ_ok (by omega))
    rw [fix_frQ o1, fix_frQ o2, ← hst, cap_of o3] at ha
    simp -dsimp -implicitDefEqProofs [a1, a2, l1, l2, k3, t4]
    refine eCall.of (has14_s h p2 k1 t2) (by simp) ?_
    simp -dsimp -implicitDefEqProofs
    refine eCall.of ha (by simp [frQ, ng]) ?_
    simp -dsimp -implicitDefEqProofs
    exact Again.by ⟨i + 1, a1⟩ (Le.to (by simp [wi]) (by simp [frQ, ng]) (by simp)) (by simp; omega)
  have hi2 : i = T.length := by omega
  subst hi2
  have htk : (T.zip S).take T.length = T.zip S := List.take_of_length_le (by omega)
  simp -dsimp -implicitDefEqProofs [htk, frQ, ng]
  try rfl

set_option maxRecDepth 20000 in
theorem by14_s {g : Gm} {r : List Ce} {a : Nat} (h : Sit g r a) {T S : List (List Int)} (hL : LogR g T S) (tb : List Int) (f : Nat → Nat) (hf : ∀ k, k < kl g a → f k < kl g a ∧ tb[k]? = some (f k : Int)) :
    CallsS Tryz.prog 14 [gmS g, ruS r, .one (profsS T), .one (profsS S), .one (.int .i64 (a : Int)), .one (intsS tb)] (.v (fS (byQ g r a f (T.zip S)))) := by
  have i0 := intR_s 0 (by decide) (by decide)
  have hs := hL.small
  have hle := hL.len
  have hz := hL.zl
  refine calls Tryz.func14 rfl (by rfl) (by rfl) (by kernel_rfl) ?_
  simp -dsimp -implicitDefEqProofs [Tryz.f14]
  refine eCall.of i0 (by simp) ?_
  simp -dsimp -implicitDefEqProofs
  refine sw_loop_e (fun q : {q : Nat // q ≤ T.length} => SS.of [(2, .v (.one (profsS T))), (3, .v (.one (profsS S))), (4, I .i64 a), (5, .v (.one (intsS tb))), (6, .v (.one (.mp 0 0))), (7, .v (.one (.mp 1 0))), (12, .v (.one (.mp 2 0))), (13, .v (.one (.mp 3 0))), (14, I .i64 q.1)] [(0, ⟨26, rowGm g⟩), (1, ⟨29, [cesS r]⟩), (2, ⟨40, [.bool false, .nils, .nils]⟩), (3, ⟨40, rowFr (frQ (byQ g r a f ((T.zip S).take q.1)))⟩)] 4)
    (fun q => T.length - q.1) ⟨0, Nat.zero_le _⟩ (by kernel_rfl) (Le.to (by simp) (by simp [byQ, sumQ, frQ, ng]) (by simp)) ?_
  rintro ⟨i, hi⟩
  by_cases a1 : i < T.length
  · have wi : IntKind.i64.wrap ((i : Int) + 1) = ((i + 1 : Nat) : Int) := by rw [wrap_i64 _ (by omega) (by omega)]; rfl
    have a2 : i < S.length := by omega
    have a3 : i < (T.zip S).length := by omega
    have hx := List.getElem_mem a3
    have hg3 := zip_get a1 a2 a3
    have p1 := hL.t _ (List.getElem_mem a1)
    have p2 := hL.s _ (List.getElem_mem a2)
    obtain ⟨k1, k2⟩ := h.knd hL.p _ hx
    rw [hg3] at k1 k2
    have l1 : a < T[i].length := by have := p1.1; have := h.ha; omega
    rw [List.getElem?_eq_getElem l1] at k2
    have k3 := Option.some.inj k2
    try simp only at k3
    obtain ⟨f1, f2⟩ := hf _ k1
    have hp : ∀ j, LogP g ((T.zip S).take j) := fun j x hx => hL.p x (mem_take hx)
    have o1 := h.sz (i := 11) (by omega) (h.by_over (hp i) (by rw [List.length_take]; omega) f fun k hk => (hf k hk).1)
    have o2 := h.sz (i := 10) (by omega) (h.over p2 (t := (f (knd a (T[i], S[i])) : Int)) (by omega) (by omega) k1)
    have o3 := h.sz (i := 11) (by omega) (h.by_over (hp (i + 1)) (by rw [List.length_take]; omega) f fun k hk => (hf k hk).1)
    have hst : byQ g r a f ((T.zip S).take (i + 1)) = byQ g r a f ((T.zip S).take i) + useP g r a (knd a (T[i], S[i])) S[i] (f (knd a (T[i], S[i]))) := by
      unfold byQ; rw [take_snoc_map _ _ _ a3, sumQ_snoc, hg3]
    have ha := addR_s (frQ (byQ g r a f ((T.zip S).take i))) (frQ (useP g r a (knd a (T[i], S[i])) S[i] (f (knd a (T[i], S[i]))))) (frQ_ok (by omega)) (frQ_ok (by omega))
    rw [fix_frQ o1, fix_frQ o2, ← hst, cap_of o3] at ha
    have hc := has14_s h p2 k1 f1
    generalize knd a (T[i], S[i]) = kk at *
    have f3 : kk < tb.length := (List.getElem?_eq_some_iff.1 f2).1
    have f4 : tb[kk] = (f kk : Int) := (List.getElem?_eq_some_iff.1 f2).2
    simp -dsimp -implicitDefEqProofs [a1, a2, l1, k3, f3, f4]
    refine eCall.of hc (by simp) ?_
    simp -dsimp -implicitDefEqProofs
    refine eCall.of ha (by simp [frQ, ng]) ?_
    simp -dsimp -implicitDefEqProofs
    exact Again.by ⟨i + 1, a1⟩ (Le.to (by simp [wi]) (by simp [frQ, ng]) (by simp)) (by simp; omega)
  have hi2 : i = T.length := by omega
  subst hi2
  have htk : (T.zip S).take T.length = T.zip S := List.take_of_length_le (by omega)
  simp -dsimp -implicitDefEqProofs [htk, frQ, ng]
  try rfl
end Go.Proofs.YtglhjjokijdagaaGreat.Sh

/- A thing is sold at the second price: the reference's Second, crowd's Second; lists joined. -/
namespace Go.Proofs.YtglhjjokijdagaaGreat.Sh
open Go Go.RowKit

/-- Who wins, and what it pays. -/
inductive Win (l : List Rat) : Int → Rat → Prop where
  | no (h : ∀ j, j < l.length → l.getD j 0 ≤ 0) : Win l (-1) 0
  | yes (k : Nat) (p : Rat) (h1 : k < l.length) (h2 : 0 < l.getD k 0) (h3 : ∀ j, j < l.length → l.getD j 0 ≤ l.getD k 0) (h4 : ∀ j, j < k → l.getD j 0 < l.getD k 0)
      (h5 : 0 ≤ p) (h6 : ∀ j, j < l.length → j ≠ k → l.getD j 0 ≤ p) (h7 : p = 0 ∨ ∃ j, j < l.length ∧ j ≠ k ∧ l.getD j 0 = p) : Win l k p

/-- The winner among the first ones, and its bid. -/
def topI (l : List Rat) : Nat → Int × Rat
  | 0 => (-1, 0)
  | i + 1 => if (topI l i).2 < l.getD i 0 then (i, l.getD i 0) else topI l i

theorem topI_spec (l : List Rat) : ∀ i, i ≤ l.length → (topI l i = (-1, 0) ∧ ∀ j, j < i → l.getD j 0 ≤ 0) ∨
    ∃ k : Nat, topI l i = ((k : Int), l.getD k 0) ∧ k < i ∧ 0 < l.getD k 0 ∧ (∀ j, j < i → l.getD j 0 ≤ l.getD k 0) ∧ (∀ j, j < k → l.getD j 0 < l.getD k 0)
  | 0, _ => Or.inl ⟨rfl, fun j hj => by omega⟩
  | i + 1, h => by
    simp only [topI]
    rcases topI_spec l i (by omega) with ⟨h1, h2⟩ | ⟨k, h1, h2, h3, h4, h5⟩
    · rw [h1]
      by_cases c : (0 : Rat) < l.getD i 0
      · rw [if_pos c]
        refine Or.inr ⟨i, rfl, by omega, c, fun j hj => ?_, fun j hj => ?_⟩
        · by_cases e : j = i
          · subst e; exact Rat.le_refl
          · have := h2 j (by omega); grind
        · have := h2 j hj; grind
      · rw [if_neg c]
        refine Or.inl ⟨rfl, fun j hj => ?_⟩
        by_cases e : j = i
        · subst e; exact Rat.not_lt.1 c
        · exact h2 j (by omega)
    · rw [h1]
      by_cases c : l.getD k 0 < l.getD i 0
      · rw [if_pos c]
        refine Or.inr ⟨i, rfl, by omega, by grind, fun j hj => ?_, fun j hj => ?_⟩
        · by_cases e : j = i
          · subst e; exact Rat.le_refl
          · have := h4 j (by omega); grind
        · have := h4 j hj; grind
      · rw [if_neg c]
        refine Or.inr ⟨k, rfl, by omega, h3, fun j hj => ?_, h5⟩
        by_cases e : j = i
        · subst e; exact Rat.not_lt.1 c
        · exact h4 j (by omega)

/-- The price among the first ones. -/
def payI (l : List Rat) (k : Int) : Nat → Rat
  | 0 => 0
  | i + 1 => if (i : Int) ≠ k ∧ payI l k i < l.getD i 0 then l.getD i 0 else payI l k i

theorem payI_spec (l : List Rat) (k : Nat) : ∀ i, i ≤ l.length → 0 ≤ payI l k i ∧ (∀ j, j < i → j ≠ k → l.getD j 0 ≤ payI l k i) ∧ (payI l k i = 0 ∨ ∃ j, j < i ∧ j ≠ k ∧ l.getD j 0 = payI l k i)
  | 0, _ => ⟨Rat.le_refl, fun j hj => by omega, Or.inl rfl⟩
  | i + 1, h => by
    obtain ⟨h1, h2, h3⟩ := payI_spec l k i (by omega)
    simp only [payI]
    by_cases c : (i : Int) ≠ k ∧ payI l k i < l.getD i 0
    · rw [if_pos c]
      refine ⟨by grind, fun j hj hk => ?_, Or.inr ⟨i, by omega, by omega, rfl⟩⟩
      by_cases e : j = i
      · subst e; exact Rat.le_refl
      · have := h2 j (by omega) hk; grind
    · rw [if_neg c]
      refine ⟨h1, fun j hj hk => ?_, ?_⟩
      · by_cases e : j = i
        · subst e
          exact Rat.not_lt.1 (fun h => c ⟨by omega, h⟩)
        · exact h2 j (by omega) hk
      · rcases h3 with h3 | ⟨j, h3, h4, h5⟩
        · exact Or.inl h3
        · exact Or.inr ⟨j, by omega, h4, h5⟩

/-- The winner and the price. -/
def win (l : List Rat) : Int × Rat := ((topI l l.length).1, if (topI l l.length).1 < 0 then 0 else payI l (topI l l.length).1 l.length)
theorem win_spec (l : List Rat) : Win l (win l).1 (win l).2 := by
  unfold win
  rcases topI_spec l l.length (Nat.le_refl _) with ⟨h1, h2⟩ | ⟨k, h1, h2, h3, h4, h5⟩
  · rw [h1]; exact .no h2
  · rw [h1]
    obtain ⟨p1, p2, p3⟩ := payI_spec l k l.length (Nat.le_refl _)
    rw [if_neg (show ¬ ((k : Int), l.getD k 0).1 < 0 by show ¬ (k : Int) < 0; omega)]
    exact .yes k _ h2 h3 h4 h5 p1 p2 p3

theorem most_top (l : List Rat) : (mostF l l.length < 0 → topI l l.length = (-1, 0)) ∧ (∀ k : Nat, mostF l l.length = k → k < l.length ∧ topI l l.length = if l.getD k 0 ≤ 0 then (-1, 0) else ((k : Int), l.getD k 0)) := by
  rcases mostF_spec l l.length (Nat.le_refl _) with ⟨h0, h1⟩ | ⟨k, h1, h2, h3, h4⟩
  · refine ⟨fun _ => by rw [h0]; rfl, fun k hk => by omega⟩
  · refine ⟨fun h => by omega, fun k' hk' => ?_⟩
    obtain rfl : k = k' := by omega
    refine ⟨h2, ?_⟩
    rcases topI_spec l l.length (Nat.le_refl _) with ⟨g1, g2⟩ | ⟨m, g1, g2, g3, g4, g5⟩
    · rw [if_pos (g2 k h2)]; exact g1
    · have e1 := g4 k h2
      have e2 := h3 m g2
      rw [if_neg (by grind), g1]
      by_cases c : m = k
      · rw [c]
      · rcases Nat.lt_or_gt_of_ne c with c | c
        · have := h4 m c; grind
        · have := g5 k c; grind
end Go.Proofs.YtglhjjokijdagaaGreat.Sh

/- A thing is sold at the second price: the walks. -/
namespace Go.Proofs.YtglhjjokijdagaaGreat.Sh
open Go Go.RowKit



set_option maxRecDepth 20000 in
theorem secondC_long (l : List FR) (h1 : (12 : Int) < l.length) : CallsS Tryz.prog 47 [.one (frsS l)] (.tup [.one (.int .i64 0), .agg [.bool false, .nils, .nils], .one (.int .i64 1)]) := by
  refine calls Tryz.func47 rfl (by rfl) (by rfl) (by kernel_rfl) ?_
  simp -dsimp -implicitDefEqProofs [Tryz.f47, h1]

theorem payI_sz (L : List Rat) (h : ∀ q ∈ L, sz q ≤ 4096) (k : Int) : ∀ i, i ≤ L.length → sz (payI L k i) ≤ 4096
  | 0, _ => sz_zero'
  | i + 1, hi => by
    simp only [payI]
    split
    · rw [getD_of 0 (show i < L.length by omega)]; exact h _ (List.getElem_mem _)
    · exact payI_sz L h k i (by omega)



set_option maxRecDepth 20000 in
theorem czero_s : CallsS Tryz.prog 36 [] (.v (fS 0)) := by
  have hs := fsum_s [] (by simp) (by simp)
  have e : cap (sumQ (List.map FR.fix [])) = 0 := cap_of (by show sz 0 ≤ _; rw [sz_zero]; omega)
  rw [e] at hs
  refine calls Tryz.func36 rfl (by rfl) (by rfl) (by kernel_rfl) ?_
  simp -dsimp -implicitDefEqProofs [Tryz.f36]
  refine eCall.of hs (by simp) ?_
  simp -dsimp -implicitDefEqProofs

theorem sgnQ_le {q : Rat} : sgnQ q ≤ 0 ↔ q ≤ 0 := by
  unfold sgnQ
  split
  · rename_i h; subst h; exact ⟨fun _ => Rat.le_refl, fun _ => by omega⟩
  · split
    · rename_i h; exact ⟨fun _ => by grind, fun _ => by omega⟩
    · exact ⟨fun h => by omega, fun h => by grind⟩

set_option maxRecDepth 20000 in
theorem secondC_s (l : List FR) (hl : ∀ f ∈ l, f.ok) (h1 : ¬ (12 : Int) < l.length) : CallsS Tryz.prog 47 [.one (frsS l)] (.tup [.one (.int .i64 (win (l.map FR.fix)).1), fS (win (l.map FR.fix)).2, .one (.int .i64 0)]) := by
  have hz : ∀ q ∈ l.map FR.fix, sz q ≤ 4096 := by
    intro q hq
    obtain ⟨f, hf, rfl⟩ := List.mem_map.1 hq
    exact sz_fix (hl f hf)
  have hL : (l.map FR.fix).length = l.length := by simp
  have hg : ∀ i, (h : i < l.length) → (l.map FR.fix).getD i 0 = l[i].fix := fun i h => by rw [getD_of 0 (by simpa using h)]; simp
  obtain ⟨mt1, mt2⟩ := most_top (l.map FR.fix)
  rw [hL] at mt1 mt2
  have hw : win (l.map FR.fix) = ((topI (l.map FR.fix) l.length).1, if (topI (l.map FR.fix) l.length).1 < 0 then 0 else payI (l.map FR.fix) (topI (l.map FR.fix) l.length).1 l.length) := by unfold win; rw [hL]
  have hm := most_s l hl (by omega)
  have hrng : mostF (l.map FR.fix) l.length = -1 ∨ ∃ k : Nat, mostF (l.map FR.fix) l.length = k ∧ k < l.length := by
    rcases mostF_spec (l.map FR.fix) l.length (by omega) with ⟨_, h⟩ | ⟨k, h, h2, _⟩
    · exact Or.inl h
    · exact Or.inr ⟨k, h, h2⟩
  rw [hw]
  refine calls Tryz.func47 rfl (by rfl) (by rfl) (by kernel_rfl) ?_
  simp -dsimp -implicitDefEqProofs [Tryz.f47, h1]
  refine eCall.of hm (by simp) ?_
  simp -dsimp -implicitDefEqProofs
  refine eCall.of czero_s (by simp) ?_
  rcases hrng with hr | ⟨k, hr, hk⟩
  · have ht := mt1 (by omega)
    rw [ht]
    simp -dsimp -implicitDefEqProofs [hr]
  obtain ⟨-, ht⟩ := mt2 k hr
  rw [hg k hk] at ht
  have k0 : ¬ ((k : Int) < 0) := by omega
  simp -dsimp -implicitDefEqProofs [hr, k0, hk]
  refine eCall.of (fsign_s l[k] (hl _ (List.getElem_mem hk))) (by simp) ?_
  by_cases c0 : l[k].fix ≤ 0
  · rw [if_pos c0] at ht
    rw [ht]
    simp -dsimp -implicitDefEqProofs [sgnQ_le.2 c0, k0]
  rw [if_neg c0] at ht
  rw [ht]
  have c0' : ¬ sgnQ l[k].fix ≤ 0 := mt sgnQ_le.1 c0
  simp -dsimp -implicitDefEqProofs [c0', k0]
  refine sw_loop_e (fun p : {p : Nat × Nat // p.1 ≤ l.length} => SS.of [(2, I .i64 k), (3, .v (.one (.mp 0 0))), (25, .v (.one (frsS l))), (26, I .i64 l.length), (27, I .i64 p.1.1)] [(0, ⟨40, rowFr (frQ (payI (l.map FR.fix) k p.1.1))⟩)] (p.1.2 + 1))
    (fun p => l.length - p.1.1) ⟨(0, 0), Nat.zero_le _⟩ (by kernel_rfl) (Le.to (by simp) (by simp [payI, frQ, ng]) (by simp)) ?_
  rintro ⟨⟨i, c⟩, hi⟩
  simp only at hi
  by_cases a1 : i < l.length
  · have wi : IntKind.i64.wrap ((i : Int) + 1) = ((i + 1 : Nat) : Int) := by rw [wrap_i64 _ (by omega) (by omega)]; rfl
    have hok : l[i].ok := hl _ (List.getElem_mem a1)
    by_cases e : i = k
    · have hp : payI (l.map FR.fix) k (i + 1) = payI (l.map FR.fix) k i := by simp only [payI]; rw [if_neg (by intro h; exact h.1 (by omega))]
      subst e
      simp -dsimp -implicitDefEqProofs [a1, wi]
      exact Again.by ⟨(i + 1, c + 1), a1⟩ (Le.to (by simp [wi]) (by simp [hp]) (by simp)) (by simp; omega)
    · have hs := payI_sz _ hz k i (by omega)
      have hc := fcmp_s l[i] (frQ (payI (l.map FR.fix) k i)) hok (frQ_ok (by omega))
      rw [fix_frQ hs] at hc
      simp -dsimp -implicitDefEqProofs [a1, wi, e]
      refine eCall.of hc (by simp) ?_
      by_cases c1 : payI (l.map FR.fix) k i < l[i].fix
      · have c2 : 0 < cmpQ l[i].fix (payI (l.map FR.fix) k i) := cmpQ_pos.2 c1
        have hp : payI (l.map FR.fix) k (i + 1) = l[i].fix := by simp only [payI]; rw [hg i a1, if_pos ⟨by omega, c1⟩]
        simp -dsimp -implicitDefEqProofs [c2, a1]
        refine eCall.of (ffix_s l[i] hok) (by simp) ?_
        simp -dsimp -implicitDefEqProofs
        exact Again.by ⟨(i + 1, c + 1), a1⟩ (Le.to (by simp [wi]) (by simp [hp, frQ, ng]) (by simp)) (by simp; omega)
      · have c2 : ¬ 0 < cmpQ l[i].fix (payI (l.map FR.fix) k i) := mt cmpQ_pos.1 c1
        have hp : payI (l.map FR.fix) k (i + 1) = payI (l.map FR.fix) k i := by simp only [payI]; rw [hg i a1, if_neg (fun h => c1 h.2)]
        simp -dsimp -implicitDefEqProofs [c2, a1]
        exact Again.by ⟨(i + 1, c + 1), a1⟩ (Le.to (by simp [wi]) (by simp [hp]) (by simp)) (by simp; omega)
  · have hi2 : i = l.length := by omega
    subst hi2
    simp -dsimp -implicitDefEqProofs [k0, frQ, ng]
end Go.Proofs.YtglhjjokijdagaaGreat.Sh

/- A crowd: the program's kinds, had, best, profiles. -/
namespace Go.Proofs.YtglhjjokijdagaaGreat.Sh
open Go Go.RowKit

@[simp] def rowSi (g : Gm) (r : List Ce) : List S1 := rowGm g ++ [cesS r]
@[simp] def siS (g : Gm) (r : List Ce) : SV := .agg (rowSi g r)

theorem Sit.worth {g : Gm} {r : List Ce} {a : Nat} (h : Sit g r a) {p : List Int} (hp : isProf g p) {k t : Nat} (hk : k < Sh.kl g a) (ht : t < Sh.kl g a) : isWorth g r a k (putP p a t) (useP g r a k p t) :=
  .inl ⟨⟨h.play.good, h.put hp (by omega) (by omega), by omega, by have := h.ha; omega, by omega, by rw [Int.toNat_natCast]; omega⟩, by rw [Int.toNat_natCast, Int.toNat_natCast]; rfl⟩

set_option maxRecDepth 20000 in
theorem kinds14_s {g : Gm} {r : List Ce} {a : Nat} (h : Sit g r a) : CallsS Tryz.prog 37 [siS g r, .one (.int .i64 (a : Int))] (I .i64 (kl g a : Int)) := by
  have ha := h.ha
  have hkl := h.kl
  refine calls Tryz.func37 rfl (by rfl) (by rfl) (by kernel_rfl) ?_
  simp -dsimp -implicitDefEqProofs [Tryz.f37, ha, hkl]

set_option maxRecDepth 20000 in
theorem chad_s {g : Gm} {r : List Ce} {a : Nat} (h : Sit g r a) {l : List (List Int)} (hl : l.length ≤ 1024) (hp : ∀ p ∈ l, isProf g p) {k t : Nat} (hk : k < kl g a) (ht : t < kl g a) :
    CallsS Tryz.prog 82 [siS g r, .one (.int .i64 (a : Int)), .one (.int .i64 (k : Int)), .one (.int .i64 (t : Int)), .one (profsS l)] (.v (fS (bringQ g r a k l t))) := by
  refine calls Tryz.func82 rfl (by rfl) (by rfl) (by kernel_rfl) ?_
  simp -dsimp -implicitDefEqProofs [Tryz.f82]
  refine eCall.of czero_s (by simp) ?_
  simp -dsimp -implicitDefEqProofs
  refine sw_loop_e (fun q : {q : Nat // q ≤ l.length} => SS.of [(1, I .i64 a), (2, I .i64 k), (3, I .i64 t), (5, .v (.one (.mp 0 0))), (10, .v (.one (.mp 1 0))), (11, .v (.one (.mp 2 0))), (15, .v (.one (profsS l))), (16, I .i64 l.length), (17, I .i64 q.1)] [(0, ⟨87, rowSi g r⟩), (1, ⟨40, [.bool false, .nils, .nils]⟩), (2, ⟨40, rowFr (frQ (bringQ g r a k (l.take q.1) t))⟩)] 3)
    (fun q => l.length - q.1) ⟨0, Nat.zero_le _⟩ (by kernel_rfl) (Le.to (by simp) (by simp [bringQ, sumQ, frQ, ng]) (by simp)) ?_
  rintro ⟨i, hi⟩
  by_cases a1 : i < l.length
  · have wi : IntKind.i64.wrap ((i : Int) + 1) = ((i + 1 : Nat) : Int) := by rw [wrap_i64 _ (by omega) (by omega)]; rfl
    have hpi := hp _ (List.getElem_mem a1)
    have hpl : l[i].length ≤ 1048576 := by have := hpi.1; have := (sizeOk_all h.play.fine.sz).1; omega
    have o1 := h.sz (i := 11) (by omega) (h.bring_over (l := l.take i) (by rw [List.length_take]; omega) (fun p hp' => hp p (mem_take hp')) hk ht)
    have o2 := h.sz (i := 10) (by omega) (h.over hpi (t := (t : Int)) (by omega) (by omega) hk)
    have o3 := h.sz (i := 11) (by omega) (h.bring_over (l := l.take (i + 1)) (by rw [List.length_take]; omega) (fun p hp' => hp p (mem_take hp')) hk ht)
    have hs : bringQ g r a k (l.take (i + 1)) t = bringQ g r a k (l.take i) t + useP g r a k l[i] t := by
      unfold bringQ; rw [take_snoc_map _ _ _ a1, sumQ_snoc]
    have ha := fadd_s (frQ (bringQ g r a k (l.take i) t)) (frQ (useP g r a k l[i] t)) (frQ_ok (by omega)) (frQ_ok (by omega))
    rw [fix_frQ o1, fix_frQ o2, ← hs, cap_of o3] at ha
    simp -dsimp -implicitDefEqProofs [a1]
    refine eCall.of (put_s l[i] a t hpl) (by simp) ?_
    simp -dsimp -implicitDefEqProofs
    refine eCall.of (rworth_s g r h.play.seen h.play.far a k (putP l[i] a t) (by rw [putp_length]; omega) _ (h.worth hpi hk ht)) (by simp) ?_
    simp -dsimp -implicitDefEqProofs
    refine eCall.of ha (by simp [frQ, ng]) ?_
    simp -dsimp -implicitDefEqProofs
    exact Again.by ⟨i + 1, a1⟩ (Le.to (by simp [wi]) (by simp [frQ, ng]) (by simp)) (by simp; omega)
  have hi2 : i = l.length := by omega
  subst hi2
  simp -dsimp -implicitDefEqProofs [frQ, ng]
  try rfl

/-- The best of N: of several a given one, if it is one of them, else the next given one, else the first. -/
def pickR (b : Nat → Rat) (m : Nat) : List Int → Nat
  | [] => m
  | k :: l => if b k.toNat = b m then k.toNat else pickR b m l
def bsL (b : Nat → Rat) (N : Nat) : List Rat := (List.range N).map b
theorem bsL_len (b : Nat → Rat) (N : Nat) : (bsL b N).length = N := by simp [bsL]
theorem bsL_get (b : Nat → Rat) {N i : Nat} (h : i < (bsL b N).length) : (bsL b N)[i] = b i := by simp [bsL]
theorem most_bs (b : Nat → Rat) {N : Nat} (hN : 0 < N) : ∃ m : Nat, mostF (bsL b N) (bsL b N).length = (m : Int) ∧ m < N ∧ (∀ j, j < N → b j ≤ b m) ∧ ∀ j, j < m → b j < b m := by
  have hl := bsL_len b N
  rcases mostF_spec (bsL b N) (bsL b N).length (Nat.le_refl _) with ⟨h, -⟩ | ⟨k, h1, h2, h3, h4⟩
  · omega
  · have e : ∀ j, j < N → (bsL b N).getD j 0 = b j := fun j hj => by
      rw [List.getD_eq_getElem?_getD, List.getElem?_eq_getElem (by omega), Option.getD_some, bsL_get]
    rw [hl] at h2 h3
    refine ⟨k, h1, h2, fun j hj => ?_, fun j hj => ?_⟩
    · have := h3 j hj; rwa [e j hj, e k h2] at this
    · have := h4 j hj; rwa [e j (by omega), e k h2] at this
theorem pickR_drop {b : Nat → Rat} {m : Nat} : ∀ {R : List Int} {q : Nat}, (∀ j (hj : j < q) (hl : j < R.length), b R[j].toNat ≠ b m) → pickR b m R = pickR b m (R.drop q)
  | R, 0, _ => by rw [List.drop_zero]
  | [], q + 1, _ => by rw [List.drop_nil]
  | k :: R, q + 1, h => by
    have h0 := h 0 (by omega) (by simp)
    rw [List.getElem_cons_zero] at h0
    rw [pickR, if_neg h0, List.drop_succ_cons]
    exact pickR_drop fun j hj hl => by
      have := h (j + 1) (by omega) (by simpa using hl)
      rwa [List.getElem_cons_succ] at this
/-- With the kind itself as the given one, that is the best answer. -/
theorem pick_ans {b : Nat → Rat} {N k m : Nat} (hk : k < N) (hm : m < N) (h1 : ∀ j, j < N → b j ≤ b m) (h2 : ∀ j, j < m → b j < b m) : pickR b m [(k : Int)] = ansTo b k N := by
  refine IsAns.unique hk ?_ (ans_is b hk)
  rw [pickR, pickR, Int.toNat_natCast]
  split
  · next e => exact ⟨hk, fun j hj => by have := h1 j hj; grind, fun h => absurd rfl h, fun h => absurd rfl h⟩
  · next e => exact ⟨hm, h1, fun _ => by have := h1 k hk; grind, fun _ => h2⟩

set_option maxRecDepth 20000 in
set_option maxHeartbeats 1000000 in
theorem best_s {g : Gm} {r : List Ce} {a : Nat} (h : Sit g r a) {l : List (List Int)} (hl : l.length ≤ 1024) (hp : ∀ p ∈ l, isProf g p) {k : Nat} (hk : k < kl g a) (R : List Int) (hR : ∀ k ∈ R, 0 ≤ k ∧ k < (kl g a : Int)) (hRl : R.length ≤ 1048576) :
    ∃ m : Nat, (m < kl g a ∧ (∀ j, j < kl g a → bringQ g r a k l j ≤ bringQ g r a k l m) ∧ ∀ j, j < m → bringQ g r a k l j < bringQ g r a k l m) ∧
    CallsS Tryz.prog 38 [siS g r, .one (.int .i64 (a : Int)), .one (.int .i64 (k : Int)), .one (profsS l), .one (intsS R)] (.tup [.one (.int .i64 (pickR (bringQ g r a k l) m R : Int)), fS (bringQ g r a k l (pickR (bringQ g r a k l) m R))]) := by
  have hN : 0 < kl g a := by omega
  obtain ⟨m, hm1, hm2, hm3, hm4⟩ := most_bs (bringQ g r a k l) hN
  refine ⟨m, ⟨hm2, hm3, hm4⟩, ?_⟩
  have hbl := bsL_len (bringQ g r a k l) (kl g a)
  have hkl : kl g a ≤ 1048576 := by
    have := h.kl
    have := (sizeOk_all h.play.fine.sz).2.2.2.1 _ (List.getElem_mem h.ha)
    omega
  have hsz : ∀ j, j < kl g a → sz (bringQ g r a k l j) ≤ 4096 := fun j hj => h.sz (i := 11) (by omega) (h.bring_over hl hp hk hj)
  have hmo := most_s ((bsL (bringQ g r a k l) (kl g a)).map frQ) (fun f hf => by
    obtain ⟨q, hq, rfl⟩ := List.mem_map.1 hf
    obtain ⟨j, hj, rfl⟩ := List.mem_map.1 hq
    exact frQ_ok (by have := hsz j (List.mem_range.1 hj); omega)) (by rw [List.length_map]; omega)
  rw [show ((bsL (bringQ g r a k l) (kl g a)).map frQ).map FR.fix = bsL (bringQ g r a k l) (kl g a) by
    rw [List.map_map]
    refine (List.map_congr_left fun q hq => ?_).trans (List.map_id _)
    obtain ⟨j, hj, rfl⟩ := List.mem_map.1 hq
    exact fix_frQ (hsz j (List.mem_range.1 hj)), List.length_map, hm1] at hmo
  generalize hb : bringQ g r a k l = b at *
  generalize hB : bsL b (kl g a) = B at *
  have hBg : ∀ j (hj : j < B.length), B[j] = b j := fun j hj => by subst hB; exact bsL_get b hj
  refine calls Tryz.func38 rfl (by rfl) (by rfl) (by kernel_rfl) ?_
  simp -dsimp -implicitDefEqProofs [Tryz.f38]
  refine eCall.of (kinds14_s h) (by simp) ?_
  simp -dsimp -implicitDefEqProofs
  refine ⟨by omega, ?_⟩
  refine sw_loop_e (fun q : {q : Nat // q ≤ B.length} => SS.of [(1, I .i64 a), (2, I .i64 k), (3, .v (.one (profsS l))), (4, .v (.one (intsS R))), (5, .v (.one (.mp 0 0))), (10, I .i64 0), (11, .v (.one (.mp 1 0))), (12, .v (.one (.ms 2 0 B.length 3 true))), (20, .v (.one (.ms 2 0 B.length 3 true))), (21, I .i64 B.length), (22, I .i64 q.1)] [(0, ⟨87, rowSi g r⟩), (1, ⟨40, [.bool false, .nils, .nils]⟩), (2, ⟨40, flat (optRow [.bool false, .nils, .nils] rowFr) (filled frQ B q.1)⟩)] 3)
    (fun q => B.length - q.1) ⟨0, Nat.zero_le _⟩ (by kernel_rfl) (Le.to (by simp [hbl]) (by simp [filled_zero, flat_rep _ rowFr, hbl]) (by simp)) ?_
  rintro ⟨i, hi⟩
  by_cases a1 : i < B.length
  · have wi : IntKind.i64.wrap ((i : Int) + 1) = ((i + 1 : Nat) : Int) := by rw [wrap_i64 _ (by omega) (by omega)]; rfl
    have hc := chad_s h hl hp hk (t := i) (by omega)
    rw [hb, ← hBg i a1] at hc
    have ml := filled_len frQ B hi
    have mset := filled_set frQ B i a1
    have hset := set3_flat (f := optRow [.bool false, .nils, .nils] rowFr) (filled frQ B i) i (some (frQ B[i])) rfl (by omega)
    rw [mset] at hset
    simp -dsimp -implicitDefEqProofs [a1, ml]
    refine eCall.of hc (by simp) ?_
    simp -dsimp -implicitDefEqProofs [a1, ml]
    refine ⟨by omega, ?_⟩
    exact Again.by ⟨i + 1, a1⟩ (Le.to (by simp [wi]) (by simp [← hset, frQ, ng]) (by simp)) (by simp; omega)
  have hi2 : i = B.length := by omega
  subst hi2
  have ml := filled_len frQ B (i := B.length) (Nat.le_refl _)
  have hff : List.map (optRow [.bool false, .nils, .nils] rowFr) (filled frQ B B.length) = List.map (rowFr ∘ frQ) B := by
    rw [filled_full, map_opt, List.map_map]
  simp -dsimp -implicitDefEqProofs [ml]
  refine eCall.of hmo (by simp [hff, ml]) ?_
  simp -dsimp -implicitDefEqProofs
  have hmB : m < B.length := by omega
  have hm0 : ¬ (m : Int) < 0 := by omega
  refine sw_loop_e (fun q : {q : Nat // q ≤ R.length ∧ ∀ j (hj : j < q) (hl : j < R.length), b R[j].toNat ≠ b m} => SS.of [(10, I .i64 m), (11, .v (.one (.mp 1 0))), (12, .v (.one (frsS (B.map frQ)))), (37, .v (.one (intsS R))), (38, I .i64 R.length), (39, I .i64 q.1)] [(1, ⟨40, [.bool false, .nils, .nils]⟩)] 3)
    (fun q => R.length - q.1) ⟨0, Nat.zero_le _, fun j hj => absurd hj (by omega)⟩ (by kernel_rfl) (Le.to (by simp [hff, ml]) (by simp) (by simp)) ?_
  rintro ⟨i, hi, hq⟩
  by_cases a1 : i < R.length
  · have wi : IntKind.i64.wrap ((i : Int) + 1) = ((i + 1 : Nat) : Int) := by rw [wrap_i64 _ (by omega) (by omega)]; rfl
    obtain ⟨r1, r2⟩ := hR _ (List.getElem_mem a1)
    obtain ⟨t, ht⟩ : ∃ t : Nat, R[i] = (t : Int) := ⟨R[i].toNat, by omega⟩
    have tB : t < B.length := by omega
    have hc := fcmp_s (frQ (b t)) (frQ (b m)) (frQ_ok (by have := hsz t (by omega); omega)) (frQ_ok (by have := hsz m (by omega); omega))
    rw [fix_frQ (hsz t (by omega)), fix_frQ (hsz m (by omega))] at hc
    have t0 : ¬ (t : Int) < 0 := by omega
    have hbt := hBg t tB
    have hbm := hBg m hmB
    simp -dsimp -implicitDefEqProofs [a1, ht, tB, hmB, t0, hm0, hbt, hbm]
    refine eCall.of hc (by simp [frQ, ng]) ?_
    have hdr := pickR_drop (b := b) (m := m) (q := i) hq
    rw [List.drop_eq_getElem_cons a1, pickR, ht, Int.toNat_natCast] at hdr
    by_cases c1 : b t = b m
    · rw [if_pos c1] at hdr
      have c2 := cmpQ_zero.2 c1
      simp -dsimp -implicitDefEqProofs [c2, tB, t0, hbt, hdr, frQ, ng]
      try rfl
    · have c2 : ¬ cmpQ (b t) (b m) = 0 := mt cmpQ_zero.1 c1
      simp -dsimp -implicitDefEqProofs [c2]
      refine Again.by ⟨i + 1, a1, fun j hj hl => ?_⟩ (Le.to (by simp [wi]) (by simp) (by simp)) (by simp; omega)
      by_cases e : j = i
      · subst e; rw [ht, Int.toNat_natCast]; exact c1
      · exact hq j (by omega) hl
  have hi2 : i = R.length := by omega
  subst hi2
  have hdr := pickR_drop (b := b) (m := m) (q := R.length) hq
  rw [List.drop_length, pickR] at hdr
  have hbm := hBg m hmB
  simp -dsimp -implicitDefEqProofs [hmB, hm0, hbm, hdr, frQ, ng]
  try rfl
end Go.Proofs.YtglhjjokijdagaaGreat.Sh

/- A crowd: what is wrong with a log. -/
namespace Go.Proofs.YtglhjjokijdagaaGreat.Sh
open Go Go.RowKit

def AllP (g : Gm) (l : List (List Int)) : Prop := ∀ p ∈ l, isProf g p
def isBad (g : Gm) (l : List (List Int)) (n : Int) : Prop := (AllP g l ∧ n = -1) ∨ ∃ (j : Nat) (h : j < l.length), ¬ isProf g l[j] ∧ (∀ i (hi : i < j), isProf g (l[i]'(by omega))) ∧ n = j
theorem isBad_of (g : Gm) (l : List (List Int)) : ∃ n, isBad g l n := by
  by_cases h : AllP g l
  · exact ⟨_, .inl ⟨h, rfl⟩⟩
  · have : ∃ j, ∃ h : j < l.length, ¬ isProf g l[j] := Classical.byContradiction fun hc => h fun n hn => Classical.byContradiction fun hx => by
      obtain ⟨j, hj, rfl⟩ := List.getElem_of_mem hn
      exact hc ⟨j, hj, hx⟩
    obtain ⟨j, hj⟩ := this
    induction j using Nat.strongRecOn with
    | _ j ih =>
      by_cases hm : ∃ k, k < j ∧ ∃ h : k < l.length, ¬ isProf g l[k]
      · obtain ⟨k, h1, h2⟩ := hm; exact ih k h1 h2
      · obtain ⟨h1, h2⟩ := hj
        exact ⟨_, .inr ⟨j, h1, h2, fun k hk => Classical.byContradiction fun hx => hm ⟨k, hk, by omega, hx⟩, rfl⟩⟩
theorem isBad.at {g : Gm} {l : List (List Int)} {n : Int} (h : isBad g l n) {j : Nat} (hj : j < l.length) (h1 : ¬ isProf g l[j]) (h2 : ∀ i (hi : i < j), isProf g (l[i]'(by omega))) : n = j := by
  rcases h with ⟨g1, -⟩ | ⟨k, hk, g1, g2, g3⟩
  · exact absurd (g1 _ (List.getElem_mem hj)) h1
  · rcases Nat.lt_trichotomy j k with c | c | c
    · exact absurd (g2 j c) h1
    · subst c; exact g3
    · exact absurd (h2 k c) g1
theorem isBad.none {g : Gm} {l : List (List Int)} {n : Int} (h : isBad g l n) (h1 : AllP g l) : n = -1 := by
  rcases h with ⟨-, h⟩ | ⟨k, hk, g1, -, -⟩
  · exact h
  · exact absurd (h1 _ (List.getElem_mem hk)) g1
theorem isBad.sign {g : Gm} {l : List (List Int)} {n : Int} (h : isBad g l n) : 0 ≤ n ↔ ¬ AllP g l := by
  rcases h with ⟨g1, h⟩ | ⟨k, hk, g1, -, h⟩
  · exact ⟨fun h' => by omega, fun h' => absurd g1 h'⟩
  · exact ⟨fun _ h' => g1 (h' _ (List.getElem_mem hk)), fun _ => by omega⟩

theorem idx_neg {g : Gm} {p : List Int} {e : Int} (h : isIdx g p e) : e < 0 ↔ ¬ isProf g p := by
  rcases h with ⟨h1, h2⟩ | ⟨h1, h2⟩
  · have := (whrTo_le (g := g) (p := p) g.agents.length (Nat.le_refl _) h1.2).1
    exact ⟨fun h => by unfold whr at h2; omega, fun h => absurd h1 h⟩
  · exact ⟨fun _ => h1, fun _ => by omega⟩
theorem isIdx_of (g : Gm) (p : List Int) : ∃ e, isIdx g p e := by
  by_cases h : isProf g p
  · exact ⟨_, .inl ⟨h, rfl⟩⟩
  · exact ⟨_, .inr ⟨h, rfl⟩⟩

set_option maxRecDepth 20000 in
theorem prof1_s {g : Gm} {r : List Ce} (h : Play g r) (p : List Int) (hl : p.length ≤ 1048576) (b : Bool) (hb : b = true ↔ ¬ isProf g p) :
    CallsS Tryz.prog 109 [.one (intsS p), .one (.rp true (rowSi g r))] (B b) := by
  obtain ⟨e, he⟩ := isIdx_of g p
  have hid := index_s g h.fine p (by omega) e he
  have hn := idx_neg he
  refine calls Tryz.func109 rfl (by rfl) (by rfl) (by kernel_rfl) ?_
  simp -dsimp -implicitDefEqProofs [Tryz.f109]
  refine eCall.of hid (by simp) ?_
  by_cases c : e < 0
  · have hb' := hb.2 (hn.1 c)
    simp -dsimp -implicitDefEqProofs [c, hb']
  · have hb' := nf hb (mt hn.2 c)
    simp -dsimp -implicitDefEqProofs [c, hb']

set_option maxRecDepth 20000 in
theorem idxFunc_s {g : Gm} {r : List Ce} (h : Play g r) (l : List (List Int)) (hl : l.length ≤ 1048576) (hp : ∀ p ∈ l, p.length ≤ 1048576) (n : Int) (hn : isBad g l n) :
    CallsS Tryz.prog 145 [.one (profsS l), .one (.fn 109 [.rp true (rowSi g r)])] (I .i64 n) := by
  refine calls Tryz.func145 rfl (by rfl) (by rfl) (by kernel_rfl) ?_
  simp -dsimp -implicitDefEqProofs [Tryz.f145]
  refine sw_loop_e (fun q : {q : Nat // q ≤ l.length ∧ ∀ i (hi : i < q) (hl : i < l.length), isProf g l[i]} => SS.of [(0, .v (.one (profsS l))), (1, .v (.one (.fn 109 [.rp true (rowSi g r)]))), (7, I .i64 l.length), (8, I .i64 q.1)] [] 0)
    (fun q => l.length - q.1) ⟨0, Nat.zero_le _, fun i hi => absurd hi (by omega)⟩ (by kernel_rfl) (Le.to (by simp) (by simp) (by simp)) ?_
  rintro ⟨i, hi, hq⟩
  by_cases a1 : i < l.length
  · have wi : IntKind.i64.wrap ((i : Int) + 1) = ((i + 1 : Nat) : Int) := by rw [wrap_i64 _ (by omega) (by omega)]; rfl
    have hpl := hp _ (List.getElem_mem a1)
    by_cases c : isProf g l[i]
    · have hc := prof1_s h l[i] hpl false (by simp [c])
      simp -dsimp -implicitDefEqProofs [a1]
      refine eCall.of hc (by simp) ?_
      simp -dsimp -implicitDefEqProofs
      refine Again.by ⟨i + 1, a1, fun j hj hl => ?_⟩ (Le.to (by simp [wi]) (by simp) (by simp)) (by simp; omega)
      by_cases e : j = i
      · subst e; exact c
      · exact hq j (by omega) hl
    · have hc := prof1_s h l[i] hpl true (by simp [c])
      obtain rfl := hn.at a1 c (fun j hj => hq j hj (by omega))
      simp -dsimp -implicitDefEqProofs [a1]
      refine eCall.of hc (by simp) ?_
      simp -dsimp -implicitDefEqProofs
  have hi2 : i = l.length := by omega
  subst hi2
  obtain rfl := hn.none (fun p hp => by obtain ⟨j, hj, rfl⟩ := List.getElem_of_mem hp; exact hq j hj hj)
  simp -dsimp -implicitDefEqProofs

set_option maxRecDepth 20000 in
theorem contFunc_s {g : Gm} {r : List Ce} (h : Play g r) (l : List (List Int)) (hl : l.length ≤ 1048576) (hp : ∀ p ∈ l, p.length ≤ 1048576) (b : Bool) (hb : b = true ↔ ¬ AllP g l) :
    CallsS Tryz.prog 108 [.one (profsS l), .one (.fn 109 [.rp true (rowSi g r)])] (B b) := by
  obtain ⟨n, hn⟩ := isBad_of g l
  have hs := hn.sign
  refine calls Tryz.func108 rfl (by rfl) (by rfl) (by kernel_rfl) ?_
  simp -dsimp -implicitDefEqProofs [Tryz.f108]
  refine eCall.of (idxFunc_s h l hl hp n hn) (by simp) ?_
  by_cases c : 0 ≤ n
  · have hb' := hb.2 (hs.1 c)
    simp -dsimp -implicitDefEqProofs [c, hb']
  · have hb' := nf hb (mt hs.2 c)
    simp -dsimp -implicitDefEqProofs [c, hb']

set_option maxRecDepth 20000 in
theorem cprofs_s {g : Gm} {r : List Ce} (h : Play g r) (l : List (List Int)) (hl : l.length ≤ 1048576) (hp : ∀ p ∈ l, p.length ≤ 1048576) (b : Bool) (hb : b = true ↔ AllP g l) :
    CallsS Tryz.prog 57 [siS g r, .one (profsS l)] (B b) := by
  refine calls Tryz.func57 rfl (by rfl) (by rfl) (by kernel_rfl) ?_
  simp -dsimp -implicitDefEqProofs [Tryz.f57]
  refine eCall.of (contFunc_s h l hl hp (!b) (by cases b <;> simp_all)) (by simp) ?_
  simp -dsimp -implicitDefEqProofs

set_option maxRecDepth 20000 in
theorem rprofs_s {g : Gm} {r : List Ce} (h : Play g r) (l : List (List Int)) (hl : l.length ≤ 1048576) (hp : ∀ p ∈ l, p.length ≤ 1048576) (b : Bool) (hb : b = true ↔ AllP g l) :
    CallsS Tryz.prog 123 [gmS g, .one (profsS l)] (B b) := by
  refine calls Tryz.func123 rfl (by rfl) (by rfl) (by kernel_rfl) ?_
  simp -dsimp -implicitDefEqProofs [Tryz.f123]
  refine sw_loop_e (fun q : {q : Nat // q ≤ l.length ∧ ∀ i (hi : i < q) (hl : i < l.length), isProf g l[i]} => SS.of [(1, .v (.one (profsS l))), (2, .v (.one (.mp 0 0))), (5, I .i64 q.1)] [(0, ⟨26, rowGm g⟩)] 1)
    (fun q => l.length - q.1) ⟨0, Nat.zero_le _, fun i hi => absurd hi (by omega)⟩ (by kernel_rfl) (Le.to (by simp) (by simp) (by simp)) ?_
  rintro ⟨i, hi, hq⟩
  by_cases a1 : i < l.length
  · have wi : IntKind.i64.wrap ((i : Int) + 1) = ((i + 1 : Nat) : Int) := by rw [wrap_i64 _ (by omega) (by omega)]; rfl
    have hpl := hp _ (List.getElem_mem a1)
    obtain ⟨e, he⟩ := isIdx2_of g l[i]
    have hid := ridx_s g r h.seen l[i] (by omega) e he
    have hn : e < 0 ↔ ¬ isProf g l[i] := by
      rcases he with ⟨-, h1, h2⟩ | ⟨h1, h2⟩
      · exact idx_neg (.inl ⟨h1, h2⟩)
      · exact idx_neg (.inr ⟨fun hh => h1 ⟨⟨h.good.1, h.good.2.1⟩, hh⟩, h2⟩)
    simp -dsimp -implicitDefEqProofs [a1]
    refine eCall.of hid (by simp) ?_
    by_cases c : e < 0
    · have hb' := nf hb (fun hh => hn.1 c (hh _ (List.getElem_mem a1)))
      simp -dsimp -implicitDefEqProofs [c, hb']
    · simp -dsimp -implicitDefEqProofs [c]
      refine Again.by ⟨i + 1, a1, fun j hj hl => ?_⟩ (Le.to (by simp [wi]) (by simp) (by simp)) (by simp; omega)
      by_cases e : j = i
      · subst e; exact Classical.not_not.1 (mt hn.2 c)
      · exact hq j (by omega) hl
  have hi2 : i = l.length := by omega
  subst hi2
  have hb' := hb.2 (fun p hp => by obtain ⟨j, hj, rfl⟩ := List.getElem_of_mem hp; exact hq j hj hj)
  simp -dsimp -implicitDefEqProofs [hb']

/-- What is wrong with a log. -/
def isLog (g : Gm) (r : List Ce) (T S : List (List Int)) (e : Int) : Prop :=
  (¬ Good g r ∧ isGood g r e ∧ ¬ e = 0) ∨ (Good g r ∧ (60 < T.length ∨ 60 < S.length) ∧ e = 1) ∨ (Good g r ∧ ¬ (60 < T.length ∨ 60 < S.length) ∧ ¬ LogR g T S ∧ e = 140) ∨ (Good g r ∧ LogR g T S ∧ e = 0)
theorem isLog_of (g : Gm) (r : List Ce) (T S : List (List Int)) : ∃ e, isLog g r T S e := by
  obtain ⟨e, h1, h2⟩ := isGood_of g r
  by_cases c1 : Good g r
  · by_cases c2 : 60 < T.length ∨ 60 < S.length
    · exact ⟨_, .inr (.inl ⟨c1, c2, rfl⟩)⟩
    · by_cases c3 : LogR g T S
      · exact ⟨_, .inr (.inr (.inr ⟨c1, c3, rfl⟩))⟩
      · exact ⟨_, .inr (.inr (.inl ⟨c1, c2, c3, rfl⟩))⟩
  · exact ⟨e, .inl ⟨c1, h1, mt h2.1 c1⟩⟩
theorem isLog.ok {g : Gm} {r : List Ce} {T S : List (List Int)} {e : Int} (h : isLog g r T S e) : e = 0 ↔ Good g r ∧ LogR g T S := by
  rcases h with ⟨h1, -, h2⟩ | ⟨h1, h2, h3⟩ | ⟨h1, h2, h3, h4⟩ | ⟨h1, h2, h3⟩
  · exact ⟨fun h => absurd h h2, fun h => absurd h.1 h1⟩
  · exact ⟨fun h => by omega, fun h => by have := h.2.small; have := h.2.len; omega⟩
  · exact ⟨fun h => by omega, fun h => absurd h.2 h3⟩
  · exact ⟨fun _ => ⟨h1, h2⟩, fun _ => h3⟩
theorem isGood.eq {g : Gm} {r : List Ce} {e e' : Int} (h : isGood g r e) (h' : isGood g r e') : e = e' := by
  rcases h with ⟨a1, a2⟩ | ⟨a1, a2, a3⟩ | ⟨a1, a2⟩ <;> rcases h' with ⟨b1, b2⟩ | ⟨b1, b2, b3⟩ | ⟨b1, b2⟩ <;> first | omega | exact absurd a1 b1 | exact absurd b1 a1 | exact absurd ⟨b1.1, b1.2.1⟩ a1 | exact absurd ⟨a1.1, a1.2.1⟩ b1 | exact absurd b1.2.2 a2 | exact absurd a1.2.2 b2

set_option maxRecDepth 20000 in
theorem clog_s (g : Gm) (r : List Ce) (hs : Seen g r) (hf : far g = false) (T S : List (List Int)) (hT : T.length ≤ 1048576) (hS : S.length ≤ 1048576) (hpT : ∀ p ∈ T, p.length ≤ 1048576) (hpS : ∀ p ∈ S, p.length ≤ 1048576) (e : Int) (he : isLog g r T S e) :
    CallsS Tryz.prog 35 [gmS g, ruS r, .one (profsS T), .one (profsS S)] (I .i64 e) := by
  obtain ⟨eg, h1, h2⟩ := isGood_of g r
  refine calls Tryz.func35 rfl (by rfl) (by rfl) (by kernel_rfl) ?_
  simp -dsimp -implicitDefEqProofs [Tryz.f35]
  refine eCall.of (rright_s g r hs eg h1) (by simp) ?_
  rcases he with ⟨c1, h3, h4⟩ | ⟨c1, c2, rfl⟩ | ⟨c1, c2, c3, rfl⟩ | ⟨c1, c3, rfl⟩
  · obtain rfl := h3.eq h1
    simp -dsimp -implicitDefEqProofs [h4]
  · obtain rfl := h2.2 c1
    by_cases d1 : 60 < T.length
    · have d1' : (60 : Int) < (T.length : Int) := by omega
      simp -dsimp -implicitDefEqProofs [d1, d1']
    · have d1' : ¬ (60 : Int) < (T.length : Int) := by omega
      have d2 : 60 < S.length := by omega
      have d2' : (60 : Int) < (S.length : Int) := by omega
      simp -dsimp -implicitDefEqProofs [d1, d1', d2, d2']
  · obtain rfl := h2.2 c1
    have hP : Play g r := ⟨hs, hf, c1⟩
    have d1 : ¬ 60 < T.length := by omega
    have d1' : ¬ (60 : Int) < (T.length : Int) := by omega
    have d2 : ¬ 60 < S.length := by omega
    have d2' : ¬ (60 : Int) < (S.length : Int) := by omega
    by_cases d3 : T.length = S.length
    · obtain ⟨bT, hbT⟩ := boolOf (AllP g T)
      obtain ⟨bS, hbS⟩ := boolOf (AllP g S)
      have hno : bT = true → bS = true → False := fun x y => c3 ⟨d3, by omega, hbT.1 x, hbS.1 y⟩
      have d3' : (T.length : Int) = (S.length : Int) := by omega
      have e1 := d1; have e2 := d1'
      rw [d3] at e1 e2
      simp -dsimp -implicitDefEqProofs [d1, d1', d2, d2', d3, e1, e2]
      refine eCall.of (cprofs_s hP T hT hpT bT hbT) (by simp) ?_
      cases bT with
      | false => simp -dsimp -implicitDefEqProofs
      | true =>
      simp -dsimp -implicitDefEqProofs
      refine eCall.of (cprofs_s hP S hS hpS bS hbS) (by simp) ?_
      cases bS with
      | false => simp -dsimp -implicitDefEqProofs
      | true => exact absurd (hno rfl rfl) (fun h => h)
    · have d3' : ¬ (T.length : Int) = (S.length : Int) := by omega
      simp -dsimp -implicitDefEqProofs [d1, d1', d2, d2', d3, d3']
  · obtain rfl := h2.2 c1
    have hP : Play g r := ⟨hs, hf, c1⟩
    have d0 := c3.small
    have d3 := c3.len
    have d1 : ¬ 60 < T.length := by omega
    have d1' : ¬ (60 : Int) < (T.length : Int) := by omega
    have d2 : ¬ 60 < S.length := by omega
    have d2' : ¬ (60 : Int) < (S.length : Int) := by omega
    have e1 := d1; have e2 := d1'
    rw [d3] at e1 e2
    simp -dsimp -implicitDefEqProofs [d1, d1', d2, d2', d3, e1, e2]
    refine eCall.of (cprofs_s hP T hT hpT true (by simp [AllP]; exact c3.t)) (by simp) ?_
    simp -dsimp -implicitDefEqProofs
    refine eCall.of (cprofs_s hP S hS hpS true (by simp [AllP]; exact c3.s)) (by simp) ?_
    simp -dsimp -implicitDefEqProofs

set_option maxRecDepth 20000 in
theorem rlogged_s (g : Gm) (r : List Ce) (hs : Seen g r) (hf : far g = false) (T S : List (List Int)) (hT : T.length ≤ 1048576) (hS : S.length ≤ 1048576) (hpT : ∀ p ∈ T, p.length ≤ 1048576) (hpS : ∀ p ∈ S, p.length ≤ 1048576) (e : Int) (he : isLog g r T S e) :
    CallsS Tryz.prog 74 [gmS g, ruS r, .one (profsS T), .one (profsS S)] (I .i64 e) := by
  obtain ⟨eg, h1, h2⟩ := isGood_of g r
  refine calls Tryz.func74 rfl (by rfl) (by rfl) (by kernel_rfl) ?_
  simp -dsimp -implicitDefEqProofs [Tryz.f74]
  refine eCall.of (rightR4_s g r hs eg h1) (by simp) ?_
  rcases he with ⟨c1, h3, h4⟩ | ⟨c1, c2, rfl⟩ | ⟨c1, c2, c3, rfl⟩ | ⟨c1, c3, rfl⟩
  · obtain rfl := h3.eq h1
    simp -dsimp -implicitDefEqProofs [h4]
  · obtain rfl := h2.2 c1
    by_cases d1 : 60 < T.length
    · have d1' : (60 : Int) < (T.length : Int) := by omega
      simp -dsimp -implicitDefEqProofs [d1, d1']
    · have d1' : ¬ (60 : Int) < (T.length : Int) := by omega
      have d2 : 60 < S.length := by omega
      have d2' : (60 : Int) < (S.length : Int) := by omega
      simp -dsimp -implicitDefEqProofs [d1, d1', d2, d2']
  · obtain rfl := h2.2 c1
    have hP : Play g r := ⟨hs, hf, c1⟩
    have d1 : ¬ 60 < T.length := by omega
    have d1' : ¬ (60 : Int) < (T.length : Int) := by omega
    have d2 : ¬ 60 < S.length := by omega
    have d2' : ¬ (60 : Int) < (S.length : Int) := by omega
    by_cases d3 : T.length = S.length
    · obtain ⟨bT, hbT⟩ := boolOf (AllP g T)
      obtain ⟨bS, hbS⟩ := boolOf (AllP g S)
      have hno : bT = true → bS = true → False := fun x y => c3 ⟨d3, by omega, hbT.1 x, hbS.1 y⟩
      have e1 := d1; have e2 := d1'
      rw [d3] at e1 e2
      simp -dsimp -implicitDefEqProofs [d1, d1', d2, d2', d3, e1, e2]
      refine eCall.of (rprofs_s hP T hT hpT bT hbT) (by simp) ?_
      cases bT with
      | false => simp -dsimp -implicitDefEqProofs
      | true =>
      simp -dsimp -implicitDefEqProofs
      refine eCall.of (rprofs_s hP S hS hpS bS hbS) (by simp) ?_
      cases bS with
      | false => simp -dsimp -implicitDefEqProofs
      | true => exact absurd (hno rfl rfl) (fun h => h)
    · have d3' : ¬ (T.length : Int) = (S.length : Int) := by omega
      simp -dsimp -implicitDefEqProofs [d1, d1', d2, d2', d3, d3']
  · obtain rfl := h2.2 c1
    have hP : Play g r := ⟨hs, hf, c1⟩
    have d0 := c3.small
    have d3 := c3.len
    have d1 : ¬ 60 < T.length := by omega
    have d1' : ¬ (60 : Int) < (T.length : Int) := by omega
    have d2 : ¬ 60 < S.length := by omega
    have d2' : ¬ (60 : Int) < (S.length : Int) := by omega
    have e1 := d1; have e2 := d1'
    rw [d3] at e1 e2
    simp -dsimp -implicitDefEqProofs [d1, d1', d2, d2', d3, e1, e2]
    refine eCall.of (rprofs_s hP T hT hpT true (by simp [AllP]; exact c3.t)) (by simp) ?_
    simp -dsimp -implicitDefEqProofs
    refine eCall.of (rprofs_s hP S hS hpS true (by simp [AllP]; exact c3.s)) (by simp) ?_
    simp -dsimp -implicitDefEqProofs
end Go.Proofs.YtglhjjokijdagaaGreat.Sh

/- A crowd: what each has in all. -/
namespace Go.Proofs.YtglhjjokijdagaaGreat.Sh
open Go Go.RowKit

def usesC (g : Gm) (r : List Ce) (L : Log) (n : Nat) : List FR := (List.range n).map fun a => frQ (hadQ g r a L)
theorem usesC_len (g : Gm) (r : List Ce) (L : Log) (n : Nat) : (usesC g r L n).length = n := by simp [usesC]
theorem usesC_snoc (g : Gm) (r : List Ce) (L : Log) (n : Nat) : usesC g r L (n + 1) = usesC g r L n ++ [frQ (hadQ g r n L)] := by simp [usesC, List.range_succ]
theorem usesC_get (g : Gm) (r : List Ce) (L : Log) (n i : Nat) (h : i < (usesC g r L n).length) : (usesC g r L n)[i] = frQ (hadQ g r i L) := by simp [usesC]

set_option maxRecDepth 20000 in
set_option maxHeartbeats 1000000 in
theorem uses_s {g : Gm} {r : List Ce} (hP : Play g r) (six : ∀ c ∈ r, CeSix c) {T S : List (List Int)} (hL : LogR g T S) :
    CallsS Tryz.prog 41 [siS g r, .one (profsS T), .one (profsS S)] (.v (.one (frsS (usesC g r (T.zip S) g.agents.length)))) := by
  have hs := hL.small
  have hle := hL.len
  have hz := hL.zl
  have hag := (sizeOk_all hP.fine.sz).1
  have ha0 : 0 < g.agents.length := List.length_pos_iff.2 hP.good.2.1.ag
  refine calls Tryz.func41 rfl (by rfl) (by rfl) (by kernel_rfl) ?_
  simp -dsimp -implicitDefEqProofs [Tryz.f41]
  refine sw_loop_e (fun p : {p : Nat × Nat // p.1 ≤ g.agents.length} => SS.of [(1, .v (.one (profsS T))), (2, .v (.one (profsS S))), (3, .v (.one (.mp 0 0))), (7, if p.1.1 = 0 then .v (.one .nils) else .v (.one (.ms (p.1.2 + 1) 0 p.1.1 3 true))), (15, I .i64 g.agents.length), (16, I .i64 p.1.1)] ((0, ⟨87, rowSi g r⟩) :: if p.1.1 = 0 then [] else [(p.1.2 + 1, ⟨40, flat rowFr (usesC g r (T.zip S) p.1.1)⟩)]) (p.1.2 + 2))
    (fun p => g.agents.length - p.1.1) ⟨(0, 0), Nat.zero_le _⟩ (by kernel_rfl) (Le.to (by simp) (by simp) (by simp)) ?_
  rintro ⟨⟨a, c⟩, hi⟩
  simp only at hi
  by_cases a1 : a < g.agents.length
  · have wa : IntKind.i64.wrap ((a : Int) + 1) = ((a + 1 : Nat) : Int) := by rw [wrap_i64 _ (by omega) (by omega)]; rfl
    have h : Sit g r a := ⟨hP, six, a1⟩
    have hfl := flat_snoc (f := rowFr) (frQ (hadQ g r a (T.zip S))) (usesC g r (T.zip S) a)
    rw [← usesC_snoc] at hfl
    have hul := usesC_len g r (T.zip S) a
    have hp : ∀ j, LogP g ((T.zip S).take j) := fun j x hx => hL.p x (mem_take hx)
    simp -dsimp -implicitDefEqProofs [a1]
    refine eCall.of czero_s (by simp) ?_
    simp -dsimp -implicitDefEqProofs
    refine sw_loop_e (fun q : {q : Nat // q ≤ T.length} => SS.of [(1, .v (.one (profsS T))), (2, .v (.one (profsS S))), (3, .v (.one (.mp 0 0))), (7, if a = 0 then .v (.one .nils) else .v (.one (.ms (c + 1) 0 a 3 true))), (8, I .i64 a), (9, .v (.one (.mp (c + 2) 0))), (15, I .i64 g.agents.length), (16, I .i64 a), (20, .v (.one (profsS S))), (21, I .i64 T.length), (22, I .i64 q.1)] ((0, ⟨87, rowSi g r⟩) :: (c + 2, ⟨40, rowFr (frQ (hadQ g r a ((T.zip S).take q.1)))⟩) :: if a = 0 then [] else [(c + 1, ⟨40, flat rowFr (usesC g r (T.zip S) a)⟩)]) (c + 3))
      (fun q => T.length - q.1) ⟨0, Nat.zero_le _⟩ (by kernel_rfl) (Le.to (by simp [hle, st_self]) (by split <;> simp [*, hadQ, sumQ, frQ, ng]) (by simp)) ?_
    rintro ⟨i, hi'⟩
    by_cases b1 : i < T.length
    · have wi : IntKind.i64.wrap ((i : Int) + 1) = ((i + 1 : Nat) : Int) := by rw [wrap_i64 _ (by omega) (by omega)]; rfl
      have b2 : i < S.length := by omega
      have b3 : i < (T.zip S).length := by omega
      have hx := List.getElem_mem b3
      have hg3 := zip_get b1 b2 b3
      have p1 := hL.t _ (List.getElem_mem b1)
      have p2 := hL.s _ (List.getElem_mem b2)
      obtain ⟨k1, k2⟩ := h.knd hL.p _ hx
      obtain ⟨t, t1, t2, t3⟩ := h.own hL.p _ hx
      rw [hg3] at k1 k2 t1 t3
      have l1 : a < T[i].length := by have := p1.1; omega
      have l2 : a < S[i].length := by have := p2.1; omega
      rw [List.getElem?_eq_getElem l1] at k2
      have k3 := Option.some.inj k2
      try simp only at k3 t1 t3
      have hself := h.self p2
      rw [show (S[i][a]?).getD 0 = (t : Int) by rw [t3]; rfl] at hself
      have hw := h.worth p2 k1 t2
      rw [hself] at hw
      have o1 := h.sz (i := 11) (by omega) (h.had_over (hp i) (by rw [List.length_take]; omega))
      have o2 := h.sz (i := 10) (by omega) (h.over p2 (t := (t : Int)) (by omega) (by omega) k1)
      have o3 := h.sz (i := 11) (by omega) (h.had_over (hp (i + 1)) (by rw [List.length_take]; omega))
      have hst : hadQ g r a ((T.zip S).take (i + 1)) = hadQ g r a ((T.zip S).take i) + useP g r a (knd a (T[i], S[i])) S[i] t := by
        unfold hadQ; rw [take_snoc_map _ _ _ b3, sumQ_snoc, hg3, t1]
      have had := fadd_s (frQ (hadQ g r a ((T.zip S).take i))) (frQ (useP g r a (knd a (T[i], S[i])) S[i] t)) (frQ_ok (by omega)) (frQ_ok (by omega))
      rw [fix_frQ o1, fix_frQ o2, ← hst, cap_of o3] at had
      have hwo := rworth_s g r hP.seen hP.far a (knd a (T[i], S[i]) : Nat) S[i] (by have := p2.1; omega) _ hw
      have b2' : i < T.length := b1
      simp -dsimp -implicitDefEqProofs [b1, b2, l1, k3]
      refine eCall.of hwo (by simp) ?_
      simp -dsimp -implicitDefEqProofs
      refine eCall.of had (by simp [frQ, ng]) ?_
      simp -dsimp -implicitDefEqProofs
      exact Again.by ⟨i + 1, b1⟩ (Le.to (by simp [wi, st_self]) (by split <;> simp [*, frQ, ng]) (by simp)) (by simp; omega)
    have hi2 : i = T.length := by omega
    subst hi2
    have htk : (T.zip S).take T.length = T.zip S := List.take_of_length_le (by omega)
    by_cases a0 : a = 0
    · have hif : ∀ {α : Type} (x y : α), (if a = 0 then x else y) = x := fun x y => if_pos a0
      have hte : usesC g r (T.zip S) a = [] := by rw [a0]; rfl
      rw [hte, flat_nil, List.nil_append] at hfl
      simp -dsimp -implicitDefEqProofs [hif, slots, htk]
      exact Again.by ⟨(a + 1, c + 3), a1⟩ (Le.to (by simp [wa, a0, i64_1]) (by simp [hfl, frQ, ng]) (by simp)) (by simp; omega)
    · have hif : ∀ {α : Type} (x y : α), (if a = 0 then x else y) = y := fun x y => if_neg a0
      simp -dsimp -implicitDefEqProofs [hif, slots, hul, htk]
      refine ⟨⟨by omega, by omega⟩, ?_⟩
      exact Again.by ⟨(a + 1, c + 3), a1⟩ (Le.to (by simp [wa]) (by simp [hfl, frQ, ng]) (by simp)) (by simp; omega)
  have ha2 : a = g.agents.length := by omega
  subst ha2
  have hne : ¬ g.agents = [] := List.length_pos_iff.1 ha0
  have hul := usesC_len g r (T.zip S) g.agents.length
  simp -dsimp -implicitDefEqProofs [hne, hul]
end Go.Proofs.YtglhjjokijdagaaGreat.Sh

