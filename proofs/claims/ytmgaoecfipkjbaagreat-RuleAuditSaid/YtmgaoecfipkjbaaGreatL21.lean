/- A part of the proof: R67, R68, R69, R70, RowH, R71, R72, R73 -/
import Derived.Test.YtmgaoecfipkjbaaGreatL20
set_option linter.unusedSimpArgs false
set_option linter.unusedVariables false
/- Draws: the reference, and the walk of RuleDraw. -/
namespace Go.Proofs.YtmgaoecfipkjbaaGreat.Sh
open Go Go.RowKit

theorem drawQ_some {t : Rat} (ht : t < 1) : ∀ (l : List Rat) (s : Rat) (i : Nat), (∀ k, cap (s + sumQ (l.take k)) = s + sumQ (l.take k)) → s ≤ t → s + sumQ l = 1 → ∃ j, drawQ t s i l = some j
  | [], s, i, _, h1, h2 => by
    rw [sumQ] at h2
    exact absurd h1 (by grind)
  | q :: l, s, i, hc, h1, h2 => by
    have h3 := hc 1
    rw [List.take_succ_cons, List.take_zero, sumQ, sumQ, Rat.add_zero] at h3
    rw [drawQ_cons, h3]
    by_cases c : t < s + q
    · exact ⟨i, if_pos c⟩
    · rw [if_neg c]
      refine drawQ_some ht l (s + q) (i + 1) (fun k => ?_) (Rat.not_lt.1 c) (by rw [sumQ] at h2; rw [Rat.add_assoc]; exact h2)
      have := hc (k + 1)
      rw [List.take_succ_cons, sumQ, ← Rat.add_assoc] at this
      exact this

theorem drawQ_lot {l : List FR} {B' : Nat} (hs : Small l B') (h : isLot l) {t : Rat} (h0 : 0 ≤ t) (h1 : t < 1) : ∃ j, drawQ t 0 0 (l.map FR.fix) = some j := by
  refine drawQ_some h1 _ 0 0 (fun k => ?_) h0 ?_
  · rw [Rat.zero_add, ← List.map_take]
    have := cap_sum (l := l.take k) (B' := B') ⟨fun f hf => hs.ok f (List.mem_of_mem_take hf), fun q hq => hs.mz q (by rw [List.map_take] at hq; exact List.mem_of_mem_take hq), by
      have := hs.all
      have : (l.take k).length ≤ l.length := by simp; omega
      have : (l.take k).length * (B' + 1) ≤ l.length * (B' + 1) := Nat.mul_le_mul_right _ this
      omega⟩
    exact this
  · rw [Rat.zero_add]; exact ((isLot_iff hs).1 h).2

set_option maxRecDepth 20000 in
theorem drawR_s (l : List FR) (t : FR) (B' : Nat) (hs : Small l B') (ht : t.ok) (r : Int × Int) (hr : isDraw l t.fix r) :
    CallsS Tryz.prog 28 [.one (frsS l), frS t] (.tup [.one (.int .i64 r.1), .one (.int .i64 r.2)]) := by
  obtain ⟨o1, o2, o3⟩ := fix_one
  have hl := hs.ok
  have h1 := hs.len
  have i1 := intR_s 1 (by decide) (by decide)
  have i0 := intR_s 0 (by decide) (by decide)
  refine calls Tryz.func28 rfl (by rfl) (by rfl) (by kernel_rfl) ?_
  simp -dsimp -implicitDefEqProofs [Tryz.f28]
  by_cases hlot : isLot l
  · refine eCall.of (chancesG_s l B' hs true (by simp [(isLot_iff hs).1 hlot])) (by simp) ?_
    simp -dsimp -implicitDefEqProofs
    refine eCall.of (signR_s t ht) (by simp) ?_
    have hc := cmpR_s t (frQ 1) ht o2
    rw [o1] at hc
    by_cases c1 : t.fix < 0
    · have hs : sgnQ t.fix < 0 := sgnQ_neg.2 c1
      have : r = (0, 40) := by
        rcases hr with h | h | h
        · exact absurd hlot h.1
        · exact h.2.2
        · exact absurd h.2.1 (Rat.not_le.2 c1)
      subst this
      simp -dsimp -implicitDefEqProofs [hs]
    · have hsg : ¬ sgnQ t.fix < 0 := mt sgnQ_neg.1 c1
      simp -dsimp -implicitDefEqProofs [hsg]
      refine eCall.of i1 (by simp) ?_
      simp -dsimp -implicitDefEqProofs
      refine eCall.of hc (by simp [frQ, ng]) ?_
      by_cases c2 : t.fix < 1
      · have hs2 : ¬ 0 ≤ cmpQ t.fix 1 := by have := cmpQ_neg.2 c2; omega
        have hr' : r = drawR (drawQ t.fix 0 0 (l.map FR.fix)) := by
          rcases hr with h | h | h
          · exact absurd hlot h.1
          · rcases h.2.1 with h | h
            · exact absurd h c1
            · exact absurd c2 (Rat.not_lt.2 h)
          · exact h.2.2.2
        obtain ⟨j, hj⟩ := drawQ_lot hs hlot (Rat.not_lt.1 c1) c2
        simp -dsimp -implicitDefEqProofs [hs2]
        refine eCall.of i0 (by simp) ?_
        simp -dsimp -implicitDefEqProofs
        refine sw_loop_e (fun p : {p : Nat × Rat // p.1 ≤ l.length ∧ drawQ t.fix 0 0 (l.map FR.fix) = drawQ t.fix p.2 p.1 ((l.map FR.fix).drop p.1) ∧ sz p.2 ≤ 4096} => SS.of [(0, .v (.one (frsS l))), (3, .v (.one (.mp 0 0))), (6, .v (.one (.mp 1 0))), (7, I .i64 p.1.1)] [(0, ⟨37, rowFr t⟩), (1, ⟨37, rowFr (frQ p.1.2)⟩)] 2)
          (fun p => l.length - p.1.1) ⟨(0, 0), Nat.zero_le _, by simp, sz_zero'⟩ (by kernel_rfl) (Le.to (by simp) (by simp [frQ, ng]) (by simp)) ?_
        rintro ⟨⟨i, S⟩, hi, hd, hS⟩
        simp only at hi hd hS
        by_cases a1 : i < l.length
        · have wi : IntKind.i64.wrap ((i : Int) + 1) = ((i + 1 : Nat) : Int) := by rw [wrap_i64 _ (by omega) (by omega)]; rfl
          have hok : l[i].ok := hl _ (List.getElem_mem a1)
          have ha := addR_s (frQ S) l[i] (frQ_ok (by omega)) hok
          rw [fix_frQ hS] at ha
          have hcap := sz_cap (S + l[i].fix)
          have hc2 := cmpR_s (frQ (cap (S + l[i].fix))) t (frQ_ok (by omega)) ht
          rw [fix_frQ hcap] at hc2
          rw [List.drop_eq_getElem_cons (by simpa using a1), List.getElem_map] at hd
          rw [drawQ_cons] at hd
          rw [← frS_frQ] at ha
          generalize cap (S + l[i].fix) = S2 at *
          simp -dsimp -implicitDefEqProofs [a1]
          refine eCall.of ha (by simp) ?_
          simp -dsimp -implicitDefEqProofs
          refine eCall.of hc2 (by simp) ?_
          by_cases c3 : t.fix < S2
          · have hs3 : 0 < cmpQ S2 t.fix := cmpQ_pos.2 c3
            rw [if_pos c3] at hd
            rw [hd] at hr'
            subst hr'
            simp -dsimp -implicitDefEqProofs [hs3, drawR]
          · have hs3 : ¬ 0 < cmpQ S2 t.fix := mt cmpQ_pos.1 c3
            rw [if_neg c3] at hd
            simp -dsimp -implicitDefEqProofs [hs3]
            exact Again.by ⟨(i + 1, S2), a1, hd, hcap⟩ (Le.to (by simp [wi]) (by simp) (by simp)) (by simp; omega)
        · have hi2 : i = l.length := by omega
          subst hi2
          rw [hj, List.drop_eq_nil_of_le (by simp)] at hd
          cases hd
      · have hs2 : 0 ≤ cmpQ t.fix 1 := by
          have := mt cmpQ_neg.1 c2; omega
        have : r = (0, 40) := by
          rcases hr with h | h | h
          · exact absurd hlot h.1
          · exact h.2.2
          · exact absurd h.2.2.1 c2
        subst this
        simp -dsimp -implicitDefEqProofs [hs2]
  · have : r = (0, 41) := by
      rcases hr with h | h | h
      · exact h.2
      · exact absurd h.1 hlot
      · exact absurd h.1 hlot
    subst this
    refine eCall.of (chancesG_s l B' hs false (by simp [mt (isLot_iff hs).2 hlot])) (by simp) ?_
    simp -dsimp -implicitDefEqProofs

theorem isDraw_of (l : List FR) (t : Rat) : ∃ r, isDraw l t r := by
  by_cases h1 : isLot l
  · by_cases h2 : t < 0
    · exact ⟨_, .inr (.inl ⟨h1, .inl h2, rfl⟩)⟩
    · by_cases h3 : t < 1
      · exact ⟨_, .inr (.inr ⟨h1, Rat.not_lt.1 h2, h3, rfl⟩)⟩
      · exact ⟨_, .inr (.inl ⟨h1, .inr (Rat.not_lt.1 h3), rfl⟩)⟩
  · exact ⟨_, .inl ⟨h1, rfl⟩⟩

set_option maxRecDepth 20000 in
theorem lawDraw_s (l : List FR) (t : FR) (hl : ∀ f ∈ l, f.ok) (h1 : l.length ≤ 140737488355328) (ht : t.ok) : CallsS Tryz.prog 5 [.one (frsS l), frS t] (B true) := by
  refine calls Tryz.func5 rfl (by rfl) (by rfl) (by kernel_rfl) ?_
  by_cases c1 : 100 < l.length
  · have c1' : (100 : Int) < (l.length : Int) := by omega
    simp -dsimp -implicitDefEqProofs [Tryz.f5, c1']
  have c1' : ¬ (100 : Int) < (l.length : Int) := by omega
  simp -dsimp -implicitDefEqProofs [Tryz.f5, c1']
  cases c2 : wideF 6 l with
  | true =>
    refine eCall.of (wideF_s l 6 hl h1 true c2.symm) (by simp) ?_
    simp -dsimp -implicitDefEqProofs
  | false =>
  refine eCall.of (wideF_s l 6 hl h1 false c2.symm) (by simp) ?_
  simp -dsimp -implicitDefEqProofs
  refine eCall.of (big_s t ht) (by simp) ?_
  by_cases c3 : (6 : Int) < (t.big : Int)
  · simp -dsimp -implicitDefEqProofs [c3]
  have hsm : Small l 6 := ⟨hl, fun q hq => by obtain ⟨f, hf, rfl⟩ := List.mem_map.1 hq; exact fixBig (hl f hf) (by omega) (by have := wideF_no c2 f hf; omega), by omega⟩
  obtain ⟨r, hr⟩ := isDraw_of l t.fix
  simp -dsimp -implicitDefEqProofs [c3]
  refine eCall.of (drawR_s l t 6 hsm ht r hr) (by simp) ?_
  simp -dsimp -implicitDefEqProofs
  refine eCall.of (draw_s l t hl ht (by omega) r hr) (by simp) ?_
  simp -dsimp -implicitDefEqProofs
  refine eCall.of fixed_s (by simp) ?_
  simp -dsimp -implicitDefEqProofs
end Go.Proofs.YtmgaoecfipkjbaaGreat.Sh

/- Index of any game; Exact; Worth. -/
namespace Go.Proofs.YtmgaoecfipkjbaaGreat.Sh
open Go Go.RowKit

def isIdx2 (g : Gm) (p : List Int) (e : Int) : Prop := ((sizeOk g = true ∧ RightOk g) ∧ isProf g p ∧ e = whr g p) ∨ (¬ ((sizeOk g = true ∧ RightOk g) ∧ isProf g p) ∧ e = -1)
theorem isIdx2_of (g : Gm) (p : List Int) : ∃ e, isIdx2 g p e := by
  by_cases h : (sizeOk g = true ∧ RightOk g) ∧ isProf g p
  · exact ⟨_, .inl ⟨h.1, h.2, rfl⟩⟩
  · exact ⟨_, .inr ⟨h, rfl⟩⟩

set_option maxRecDepth 20000 in
theorem sidx_s (g : Gm) (r : List Ce) (h : Seen g r) (p : List Int) (hl : p.length ≤ 140737488355328) (e : Int) (he : isIdx2 g p e) : CallsS Tryz.prog 96 [gmS g, .one (intsS p)] (I .i64 e) := by
  by_cases hr : sizeOk g = true ∧ RightOk g
  · refine index_s g (h.fine hr) p hl e ?_
    rcases he with ⟨-, h1, h2⟩ | ⟨h1, h2⟩
    · exact .inl ⟨h1, h2⟩
    · exact .inr ⟨fun hp => h1 ⟨hr, hp⟩, h2⟩
  · have he' : e = -1 := by
      rcases he with ⟨h1, -, -⟩ | ⟨-, h2⟩
      · exact absurd h1 hr
      · exact h2
    subst he'
    obtain ⟨e, h1, h2⟩ := isRight_of g
    have h0 : ¬ e = 0 := fun h => hr (h2.1 h)
    refine calls Tryz.func96 rfl (by rfl) (by rfl) (by kernel_rfl) ?_
    simp -dsimp -implicitDefEqProofs [Tryz.f96]
    refine eCall.of (sright_s g h.ok h.bey e h1) (by simp) ?_
    simp -dsimp -implicitDefEqProofs [h0]

set_option maxRecDepth 20000 in
theorem ridx_s (g : Gm) (r : List Ce) (hs : Seen g r) (p : List Int) (hl : p.length ≤ 140737488355328) (e : Int) (he : isIdx2 g p e) : CallsS Tryz.prog 37 [gmS g, .one (intsS p)] (I .i64 e) := by
  refine calls Tryz.func37 rfl (by rfl) (by rfl) (by kernel_rfl) ?_
  obtain ⟨e1, h1, h2⟩ := isRight_of g
  simp -dsimp -implicitDefEqProofs [Tryz.f37]
  refine eCall.of (right_s g hs.ok hs.bey e1 h1) (by simp) ?_
  by_cases hr : sizeOk g = true ∧ RightOk g
  · have h := hs.fine hr
    obtain ⟨g1, -, -, h4, -⟩ := sizeOk_all h.sz
    have h0 : e1 = 0 := h2.2 hr
    subst h0
    have bad : ¬ isProf g p → e = -1 := fun hn => by
      rcases he with he | he
      · exact absurd he.2.1 hn
      · exact he.2
    by_cases pl : p.length = g.agents.length
    · simp -dsimp -implicitDefEqProofs [pl]
      refine sw_loop_e (fun q : {q : Nat // q ≤ g.agents.length ∧ profTo g p q} => SS.of [(1, .v (.one (intsS p))), (2, .v (.one (.mp 0 0))), (5, I .i64 (whrTo g p q.1)), (6, I .i64 q.1)] [(0, ⟨26, rowGm g⟩)] 1)
        (fun q => g.agents.length - q.1) ⟨0, Nat.zero_le _, fun j hj => absurd hj (by omega)⟩ (by kernel_rfl) (Le.to (by simp [whrTo]) (by simp) (by simp)) ?_
      rintro ⟨i, hi, hp⟩
      by_cases a1 : i < g.agents.length
      · have wi : IntKind.i64.wrap ((i : Int) + 1) = ((i + 1 : Nat) : Int) := by rw [wrap_i64 _ (by omega) (by omega)]; rfl
        have a2 : i < p.length := by omega
        have hw := whrTo_step (g := g) (p := p) (List.getElem?_eq_getElem a1) (List.getElem?_eq_getElem a2)
        obtain ⟨w1, w2⟩ := whrTo_ok h hi hp
        have hk := h4 _ (List.getElem_mem a1)
        by_cases c1 : p[i] < 0
        · have hb := bad (fun hh => by
            obtain ⟨A, x, e1, e2, e3, e4⟩ := hh.2 i a1
            rw [List.getElem?_eq_getElem a2] at e2
            obtain rfl := Option.some.inj e2
            omega)
          simp -dsimp -implicitDefEqProofs [a1, a2, pl, c1, hb]
        by_cases c2 : (g.agents[i].kinds.length : Int) ≤ p[i]
        · have hb := bad (fun hh => by
            obtain ⟨A, x, e1, e2, e3, e4⟩ := hh.2 i a1
            rw [List.getElem?_eq_getElem a2] at e2
            rw [List.getElem?_eq_getElem a1] at e1
            obtain rfl := Option.some.inj e2
            obtain rfl := Option.some.inj e1
            omega)
          simp -dsimp -implicitDefEqProofs [a1, a2, pl, c1, c2, hb]
        have hp2 : profTo g p (i + 1) := fun j hj => by
          by_cases e : j = i
          · subst e; exact ⟨_, _, List.getElem?_eq_getElem a1, List.getElem?_eq_getElem a2, by omega, by omega⟩
          · exact hp j (by omega)
        obtain ⟨w3, w4⟩ := whrTo_ok h a1 hp2
        have wm : IntKind.i64.wrap (whrTo g p i * (g.agents[i].kinds.length : Int)) = whrTo g p i * (g.agents[i].kinds.length : Int) := by
          rw [hw] at w4
          have := Int.mul_nonneg w1 (Int.natCast_nonneg g.agents[i].kinds.length)
          rw [wrap_i64 _ (by omega) (by omega)]
        have wa : IntKind.i64.wrap (whrTo g p i * (g.agents[i].kinds.length : Int) + p[i]) = whrTo g p (i + 1) := by
          rw [hw] at w3 w4 ⊢
          rw [wrap_i64 _ (by omega) (by omega)]
        simp -dsimp -implicitDefEqProofs [a1, a2, pl, c1, c2]
        exact Again.by ⟨i + 1, a1, hp2⟩ (Le.to (by simp [wi, wm, wa]) (by simp) (by simp)) (by simp; omega)
      have hi2 : i = g.agents.length := by omega
      subst hi2
      have hb : e = whr g p := by
        rcases he with he | he
        · exact he.2.2
        · exact absurd ⟨hr, pl, hp⟩ he.1
      simp -dsimp -implicitDefEqProofs [pl, hb, whr]
    · have hb := bad (fun hh => pl hh.1)
      simp -dsimp -implicitDefEqProofs [show ¬ (p.length : Int) = g.agents.length by omega, hb]
  · have he' : e = -1 := by
      rcases he with ⟨h1, -, -⟩ | ⟨-, h2⟩
      · exact absurd h1 hr
      · exact h2
    have h0 : ¬ e1 = 0 := fun h => hr (h2.1 h)
    simp -dsimp -implicitDefEqProofs [h0, he']

set_option maxRecDepth 20000 in
theorem exact_s (f : FR) (hf : f.ok) : CallsS Tryz.prog 41 [frS f, frS f] (B true) := by
  have l1 := hf.lnum
  have l2 := hf.lden
  refine calls Tryz.func41 rfl (by rfl) (by rfl) (by kernel_rfl) ?_
  simp -dsimp -implicitDefEqProofs [Tryz.f41]
  refine sw_loop_e (fun p : {p : Nat // p ≤ f.num.length} => SS.of [(2, .v (.one (.mp 0 0))), (3, .v (.one (.mp 1 0))), (5, I .i64 p.1)] [(0, ⟨37, rowFr f⟩), (1, ⟨37, rowFr f⟩)] 2)
    (fun p => f.num.length - p.1) ⟨0, Nat.zero_le _⟩ (by kernel_rfl) (Le.to (by simp) (by simp) (by simp)) ?_
  rintro ⟨i, hi⟩
  by_cases a1 : i < f.num.length
  · have wi : IntKind.i64.wrap ((i : Int) + 1) = ((i + 1 : Nat) : Int) := by rw [wrap_i64 _ (by omega) (by omega)]; rfl
    simp -dsimp -implicitDefEqProofs [a1]
    exact Again.by ⟨i + 1, a1⟩ (Le.to (by simp [wi]) (by simp) (by simp)) (by simp; omega)
  have hi2 : i = f.num.length := by omega
  subst hi2
  simp -dsimp -implicitDefEqProofs
  refine sw_loop_e (fun p : {p : Nat // p ≤ f.den.length} => SS.of [(2, .v (.one (.mp 0 0))), (3, .v (.one (.mp 1 0))), (6, I .i64 p.1)] [(0, ⟨37, rowFr f⟩), (1, ⟨37, rowFr f⟩)] 2)
    (fun p => f.den.length - p.1) ⟨0, Nat.zero_le _⟩ (by kernel_rfl) (Le.to (by simp) (by simp) (by simp)) ?_
  rintro ⟨i, hi⟩
  by_cases a1 : i < f.den.length
  · have wi : IntKind.i64.wrap ((i : Int) + 1) = ((i + 1 : Nat) : Int) := by rw [wrap_i64 _ (by omega) (by omega)]; rfl
    simp -dsimp -implicitDefEqProofs [a1]
    exact Again.by ⟨i + 1, a1⟩ (Le.to (by simp [wi]) (by simp) (by simp)) (by simp; omega)
  have hi2 : i = f.den.length := by omega
  subst hi2
  simp -dsimp -implicitDefEqProofs
end Go.Proofs.YtmgaoecfipkjbaaGreat.Sh

/- Worth, of the program and of the reference. -/
namespace Go.Proofs.YtmgaoecfipkjbaaGreat.Sh
open Go Go.RowKit

def WOk (g : Gm) (r : List Ce) (a k : Int) (p : List Int) : Prop := Good g r ∧ isProf g p ∧ 0 ≤ a ∧ a < (g.agents.length : Int) ∧ 0 ≤ k ∧ k < (kl g a.toNat : Int)
def isWorth (g : Gm) (r : List Ce) (a k : Int) (p : List Int) (q : Rat) : Prop := (WOk g r a k p ∧ q = hasQ (ceAt r (whr g p).toNat) (kdAt g a.toNat k.toNat) a.toNat) ∨ (¬ WOk g r a k p ∧ q = 0)
theorem isWorth_of (g : Gm) (r : List Ce) (a k : Int) (p : List Int) : ∃ q, isWorth g r a k p q := by
  by_cases h : WOk g r a k p
  · exact ⟨_, .inl ⟨h, rfl⟩⟩
  · exact ⟨_, .inr ⟨h, rfl⟩⟩
theorem isWorth.no {g : Gm} {r : List Ce} {a k : Int} {p : List Int} {q : Rat} (h : isWorth g r a k p q) (hn : ¬ WOk g r a k p) : q = 0 := by
  rcases h with ⟨h, -⟩ | ⟨-, h⟩
  · exact absurd h hn
  · exact h
theorem isWorth.yes {g : Gm} {r : List Ce} {a k : Int} {p : List Int} {q : Rat} (h : isWorth g r a k p q) (hn : WOk g r a k p) : q = hasQ (ceAt r (whr g p).toNat) (kdAt g a.toNat k.toNat) a.toNat := by
  rcases h with ⟨-, h⟩ | ⟨h, -⟩
  · exact h
  · exact absurd hn h

/-- All that both functions ask, when there is a worth. -/
structure WAt (g : Gm) (r : List Ce) (a k : Int) (p : List Int) (n b j : Nat) : Prop where
  play : Play g r
  ea : a = (b : Int)
  ek : k = (j : Int)
  ew : whr g p = (n : Int)
  hb : b < g.agents.length
  hj : j < (g.agents[b]'hb).kinds.length
  hn : n < r.length

theorem WAt.of {g : Gm} {r : List Ce} {a k : Int} {p : List Int} (hs : Seen g r) (hf : far g = false) (h : WOk g r a k p) : ∃ n b j, WAt g r a k p n b j := by
  obtain ⟨h1, h2, h3, h4, h5, h6⟩ := h
  have hp : Play g r := ⟨hs, hf, h1⟩
  have hb : a.toNat < g.agents.length := by omega
  rw [kl_eq hb] at h6
  have hw := whrTo_le g.agents.length (Nat.le_refl _) h2.2
  rw [List.take_length] at hw
  have hrl := h1.2.2.1
  exact ⟨(whr g p).toNat, a.toNat, k.toNat, hp, by omega, by omega, by unfold whr at *; omega, hb, by omega, by unfold whr at *; omega⟩

theorem WAt.pair {g : Gm} {r : List Ce} {a k : Int} {p : List Int} {n b j : Nat} (h : WAt g r a k p n b j) : Pair (r[n]'h.hn) ((g.agents[b]'h.hb).kinds[j]'h.hj) b := Spot.pair ⟨h.play, h.hb, h.hn⟩ h.hn h.hj

set_option maxRecDepth 20000 in
set_option maxHeartbeats 1000000 in
theorem rworth_s (g : Gm) (r : List Ce) (hs : Seen g r) (hf : far g = false) (a k : Int) (p : List Int) (hl : p.length ≤ 140737488355328) (q : Rat) (hq : isWorth g r a k p q) :
    CallsS Tryz.prog 36 [gmS g, ruS r, .one (.int .i64 a), .one (.int .i64 k), .one (intsS p)] (.v (fS q)) := by
  obtain ⟨e, he⟩ := isIdx2_of g p
  have hid := sidx_s g r hs p hl e he
  refine calls Tryz.func36 rfl (by rfl) (by rfl) (by kernel_rfl) ?_
  by_cases hgd : Good g r
  · simp -dsimp -implicitDefEqProofs [Tryz.f36]
    refine eCall.of (open_s g r hs hgd) (by simp) ?_
    simp -dsimp -implicitDefEqProofs
    refine eCall.of hid (by simp) ?_
    have zero : ∀ {P : Prop}, ¬ WOk g r a k p → (q = 0 → P) → P := fun h k => k (hq.no h)
    by_cases hp : isProf g p
    · have e1 : e = whr g p := by
        rcases he with h | h
        · exact h.2.2
        · exact absurd ⟨⟨hgd.1, hgd.2.1⟩, hp⟩ h.1
      have hw := (whrTo_le g.agents.length (Nat.le_refl _) hp.2).1
      have e2 : ¬ e < 0 := by rw [e1]; unfold whr; omega
      by_cases c1 : a < 0
      · have q0 := hq.no (fun h => by have := h.2.2.1; omega)
        simp -dsimp -implicitDefEqProofs [e2, c1]
        refine eCall.of rzero_s (by simp) ?_
        simp -dsimp -implicitDefEqProofs [q0, frQ, ng]
      by_cases c2 : (g.agents.length : Int) ≤ a
      · have q0 := hq.no (fun h => by have := h.2.2.2.1; omega)
        simp -dsimp -implicitDefEqProofs [e2, c1, c2]
        refine eCall.of rzero_s (by simp) ?_
        simp -dsimp -implicitDefEqProofs [q0, frQ, ng]
      by_cases c3 : k < 0
      · have q0 := hq.no (fun h => by have := h.2.2.2.2.1; omega)
        simp -dsimp -implicitDefEqProofs [e2, c1, c2, c3]
        refine eCall.of rzero_s (by simp) ?_
        simp -dsimp -implicitDefEqProofs [q0, frQ, ng]
      obtain ⟨b, rfl⟩ : ∃ b : Nat, a = b := ⟨a.toNat, by omega⟩
      have hb : b < g.agents.length := by omega
      by_cases c4 : (g.agents[b].kinds.length : Int) ≤ k
      · have q0 := hq.no (fun h => by have := h.2.2.2.2.2; rw [Int.toNat_natCast, kl_eq hb] at this; omega)
        simp -dsimp -implicitDefEqProofs [e2, c1, c2, c3, c4, hb]
        refine eCall.of rzero_s (by simp) ?_
        simp -dsimp -implicitDefEqProofs [q0, frQ, ng]
      have hok : WOk g r b k p := ⟨hgd, hp, by omega, by omega, by omega, by rw [Int.toNat_natCast, kl_eq hb]; omega⟩
      have hq := hq.yes hok
      obtain ⟨n, b', j, hw⟩ := WAt.of hs hf hok
      obtain rfl : b = b' := by have := hw.ea; omega
      obtain rfl := hw.ek
      have hn := hw.hn
      have hj := hw.hj
      rw [hw.ew, Int.toNat_natCast, Int.toNat_natCast, Int.toNat_natCast, ceAt_eq hn, kdAt_eq hb hj] at hq
      rw [e1, hw.ew] at e2
      rw [e1, hw.ew]
      simp -dsimp -implicitDefEqProofs [e2, c1, c2, c3, c4, hb, hn]
      refine eCall.of (rhas_s g r r[n] b j hb hj hw.pair) (by simp) ?_
      simp -dsimp -implicitDefEqProofs [hq, frQ, ng]
    · have e1 : e = -1 := by
        rcases he with h | h
        · exact absurd h.2.1 hp
        · exact h.2
      have q0 := hq.no (fun h => hp h.2.1)
      subst e1
      simp -dsimp -implicitDefEqProofs
      refine eCall.of rzero_s (by simp) ?_
      simp -dsimp -implicitDefEqProofs [q0, frQ, ng]
  · have q0 := hq.no (fun h => hgd h.1)
    simp -dsimp -implicitDefEqProofs [Tryz.f36]
    refine eCall.of (openNo_s g r hs hgd) (by simp) ?_
    simp -dsimp -implicitDefEqProofs
    refine eCall.of hid (by simp) ?_
    simp -dsimp -implicitDefEqProofs
    refine eCall.of rzero_s (by simp) ?_
    simp -dsimp -implicitDefEqProofs [q0, frQ, ng]

set_option maxRecDepth 20000 in
set_option maxHeartbeats 1000000 in
theorem worthR_s (g : Gm) (r : List Ce) (hs : Seen g r) (hf : far g = false) (a k : Int) (p : List Int) (hl : p.length ≤ 140737488355328) (q : Rat) (hq : isWorth g r a k p q) :
    CallsS Tryz.prog 40 [gmS g, ruS r, .one (.int .i64 a), .one (.int .i64 k), .one (intsS p)] (.v (fS q)) := by
  obtain ⟨e, he⟩ := isIdx2_of g p
  have i0 := intR_s 0 (by decide) (by decide)
  obtain ⟨eg, hg1, hg2⟩ := isGood_of g r
  have hid := ridx_s g r hs p hl e he
  refine calls Tryz.func40 rfl (by rfl) (by rfl) (by kernel_rfl) ?_
  by_cases hgd : Good g r
  · simp -dsimp -implicitDefEqProofs [Tryz.f40]
    refine eCall.of hid (by simp) ?_
    simp -dsimp -implicitDefEqProofs
    obtain rfl : eg = 0 := hg2.2 hgd
    refine eCall.of (rightR4_s g r hs 0 hg1) (by simp) ?_
    have zero : ∀ {P : Prop}, ¬ WOk g r a k p → (q = 0 → P) → P := fun h k => k (hq.no h)
    by_cases hp : isProf g p
    · have e1 : e = whr g p := by
        rcases he with h | h
        · exact h.2.2
        · exact absurd ⟨⟨hgd.1, hgd.2.1⟩, hp⟩ h.1
      have hw := (whrTo_le g.agents.length (Nat.le_refl _) hp.2).1
      have e2 : ¬ e < 0 := by rw [e1]; unfold whr; omega
      by_cases c1 : a < 0
      · have q0 := hq.no (fun h => by have := h.2.2.1; omega)
        simp -dsimp -implicitDefEqProofs [e2, c1]
        refine eCall.of i0 (by simp) ?_
        simp -dsimp -implicitDefEqProofs [q0, frQ, ng]
      by_cases c2 : (g.agents.length : Int) ≤ a
      · have q0 := hq.no (fun h => by have := h.2.2.2.1; omega)
        simp -dsimp -implicitDefEqProofs [e2, c1, c2]
        refine eCall.of i0 (by simp) ?_
        simp -dsimp -implicitDefEqProofs [q0, frQ, ng]
      by_cases c3 : k < 0
      · have q0 := hq.no (fun h => by have := h.2.2.2.2.1; omega)
        simp -dsimp -implicitDefEqProofs [e2, c1, c2, c3]
        refine eCall.of i0 (by simp) ?_
        simp -dsimp -implicitDefEqProofs [q0, frQ, ng]
      obtain ⟨b, rfl⟩ : ∃ b : Nat, a = b := ⟨a.toNat, by omega⟩
      have hb : b < g.agents.length := by omega
      by_cases c4 : (g.agents[b].kinds.length : Int) ≤ k
      · have q0 := hq.no (fun h => by have := h.2.2.2.2.2; rw [Int.toNat_natCast, kl_eq hb] at this; omega)
        simp -dsimp -implicitDefEqProofs [e2, c1, c2, c3, c4, hb]
        refine eCall.of i0 (by simp) ?_
        simp -dsimp -implicitDefEqProofs [q0, frQ, ng]
      have hok : WOk g r b k p := ⟨hgd, hp, by omega, by omega, by omega, by rw [Int.toNat_natCast, kl_eq hb]; omega⟩
      have hq := hq.yes hok
      obtain ⟨n, b', j, hw⟩ := WAt.of hs hf hok
      obtain rfl : b = b' := by have := hw.ea; omega
      obtain rfl := hw.ek
      have hn := hw.hn
      have hj := hw.hj
      rw [hw.ew, Int.toNat_natCast, Int.toNat_natCast, Int.toNat_natCast, ceAt_eq hn, kdAt_eq hb hj] at hq
      rw [e1, hw.ew] at e2
      rw [e1, hw.ew]
      simp -dsimp -implicitDefEqProofs [e2, c1, c2, c3, c4, hb, hn]
      refine eCall.of (hasP_s g r b j n hb hj hn hw.pair) (by simp) ?_
      simp -dsimp -implicitDefEqProofs [hq, frQ, ng]
    · have e1 : e = -1 := by
        rcases he with h | h
        · exact absurd h.2.1 hp
        · exact h.2
      have q0 := hq.no (fun h => hp h.2.1)
      subst e1
      simp -dsimp -implicitDefEqProofs
      refine eCall.of i0 (by simp) ?_
      simp -dsimp -implicitDefEqProofs [q0, frQ, ng]
  · have q0 := hq.no (fun h => hgd h.1)
    simp -dsimp -implicitDefEqProofs [Tryz.f40]
    refine eCall.of hid (by simp) ?_
    simp -dsimp -implicitDefEqProofs
    refine eCall.of (rightR4_s g r hs eg hg1) (by simp) ?_
    have h0 : ¬ eg = 0 := fun h => hgd (hg2.1 h)
    simp -dsimp -implicitDefEqProofs [h0]
    refine eCall.of i0 (by simp) ?_
    simp -dsimp -implicitDefEqProofs [q0, frQ, ng]

set_option maxRecDepth 20000 in
theorem lawWorth_s (g : Gm) (r : List Ce) (hg : g.ok) (hl : lenOk r) (hr : ∀ c ∈ r, c.ok) (p : List Int) (hpl : p.length ≤ 140737488355328) (a k : Int) : CallsS Tryz.prog 8 [gmS g, ruS r, .agg [intsS p, .int .i64 a, .int .i64 k]] (B true) := by
  refine calls Tryz.func8 rfl (by rfl) (by rfl) (by kernel_rfl) ?_
  simp -dsimp -implicitDefEqProofs [Tryz.f8]
  refine eCall.of (bey4_s g r hg hl hr) (by simp) ?_
  cases h1 : far g with
  | true => simp -dsimp -implicitDefEqProofs
  | false =>
  cases h2 : beyondRule r with
  | true => simp -dsimp -implicitDefEqProofs
  | false =>
  have hs := seen_of hg hr h1 h2
  by_cases c1 : (100 : Int) < (p.length : Int)
  · simp -dsimp -implicitDefEqProofs [c1]
  obtain ⟨q, hq⟩ := isWorth_of g r a k p
  have hz : sz q ≤ 4096 := by
    by_cases hw : WOk g r a k p
    · obtain ⟨n, b, j, h⟩ := WAt.of hs h1 hw
      have e := hq.yes hw
      have hn := h.hn
      have hb := h.hb
      have hj := h.hj
      rw [h.ea, h.ek, h.ew, Int.toNat_natCast, Int.toNat_natCast, Int.toNat_natCast, ceAt_eq hn, kdAt_eq hb hj] at e
      have := h.pair.has
      rw [e]; exact (cap_mz (by omega)).2
    · rw [hq.no hw]; decide +kernel
  simp -dsimp -implicitDefEqProofs [c1]
  refine eCall.of (worthR_s g r hs h1 a k p hpl q hq) (by simp) ?_
  simp -dsimp -implicitDefEqProofs
  refine eCall.of (rworth_s g r hs h1 a k p hpl q hq) (by simp) ?_
  simp -dsimp -implicitDefEqProofs
  refine eCall.of (exact_s (frQ q) (frQ_ok (by omega))) (by simp [frQ, ng]) ?_
  simp -dsimp -implicitDefEqProofs
  refine eCall.of fixed_s (by simp) ?_
  simp -dsimp -implicitDefEqProofs
end Go.Proofs.YtmgaoecfipkjbaaGreat.Sh

/- Profiles and their places; the walk of RuleLie. -/
namespace Go.Proofs.YtmgaoecfipkjbaaGreat.Sh
open Go Go.RowKit

theorem at_whrTo {g : Gm} {p : List Int} (hp : isProf g p) : ∀ j, j ≤ g.agents.length → atR ((szs g).take j).reverse (whrTo g p j).toNat = p.take j
  | 0, _ => rfl
  | j + 1, hj => by
    have a1 : j < g.agents.length := hj
    obtain ⟨A, x, e1, e2, e3, e4⟩ := hp.2 j a1
    rw [List.getElem?_eq_getElem a1] at e1
    obtain rfl := Option.some.inj e1
    have hrev : ((szs g).take (j + 1)).reverse = g.agents[j].kinds.length :: ((szs g).take j).reverse := by
      rw [takeSnoc (szs g) j (by simp [szs]; omega), List.reverse_append]; simp [szs]
    have hw := (whrTo_le (g := g) (p := p) j (by omega) (fun i hi => hp.2 i (by omega))).1
    have ih := at_whrTo hp j (by omega)
    rw [hrev, atR, whrTo_step (List.getElem?_eq_getElem a1) e2]
    obtain ⟨W, hW⟩ : ∃ W : Nat, whrTo g p j = W := ⟨_, (Int.toNat_of_nonneg hw).symm⟩
    obtain ⟨X, rfl⟩ : ∃ X : Nat, x = X := ⟨_, (Int.toNat_of_nonneg e3).symm⟩
    have e4 : X < g.agents[j].kinds.length := by omega
    rw [hW] at ih ⊢
    rw [Int.toNat_natCast] at ih
    have e5 : ((W : Int) * (g.agents[j].kinds.length : Int) + (X : Int)).toNat = W * g.agents[j].kinds.length + X := by
      rw [← Int.natCast_mul, ← Int.natCast_add, Int.toNat_natCast]
    rw [e5, Nat.mul_comm, Nat.mul_add_div (by omega), Nat.div_eq_of_lt e4, Nat.add_zero, Nat.mul_add_mod, Nat.mod_eq_of_lt e4, ih, List.take_add_one, e2]
    rfl
theorem at_whr {g : Gm} {p : List Int} (hp : isProf g p) : atG g (whr g p).toNat = p := by
  have := at_whrTo hp g.agents.length (Nat.le_refl _)
  rw [List.take_of_length_le (by simp [szs]), ← hp.1, List.take_length] at this
  unfold atG whr
  rw [← hp.1]; exact this

theorem Spot.wok {g : Gm} {r : List Ce} {a n : Nat} (h : Spot g r a n) {p : List Int} (hp : isProf g p) : WOk g r a (kOf g n a) p := by
  obtain ⟨k1, k2⟩ := h.kof
  have := h.ha
  exact ⟨h.play.good, hp, by omega, by omega, by omega, by rw [Int.toNat_natCast, kl_eq h.ha]; omega⟩
theorem Spot.here {g : Gm} {r : List Ce} {a n : Nat} (h : Spot g r a n) {q : Rat} (hq : isWorth g r a (kOf g n a) (atG g n) q) : q = hasQ (ceAt r n) (kdAt g a (kOf g n a)) a := by
  have := h.hn
  have := h.play.good.2.2.1
  have e := hq.yes (h.wok h.prof)
  rw [whr_at (by omega)] at e
  simpa using e
theorem Spot.there {g : Gm} {r : List Ce} {a n t : Nat} (h : Spot g r a n) (ht : t < (g.agents[a]'h.ha).kinds.length) {q : Rat} (hq : isWorth g r a (kOf g n a) (putP (atG g n) a t) q) : q = hasQ (ceAt r (Sh.toAt g n a t)) (kdAt g a (kOf g n a)) a := by
  have e := hq.yes (h.wok (h.put ht))
  rw [(h.toAt ht).1] at e
  simpa using e
theorem worth_sz {g : Gm} {r : List Ce} (hs : Seen g r) (h1 : far g = false) {a k : Int} {p : List Int} {q : Rat} (hq : isWorth g r a k p q) : mz q ≤ 68 := by
  by_cases hw : WOk g r a k p
  · obtain ⟨n, b, j, h⟩ := WAt.of hs h1 hw
    have e := hq.yes hw
    have hn := h.hn
    have hb := h.hb
    have hj := h.hj
    rw [h.ea, h.ek, h.ew, Int.toNat_natCast, Int.toNat_natCast, Int.toNat_natCast, ceAt_eq hn, kdAt_eq hb hj] at e
    rw [e]; exact h.pair.has
  · rw [hq.no hw]; decide +kernel

set_option maxRecDepth 20000 in
set_option maxHeartbeats 2000000 in
theorem lawLie_s (g : Gm) (r : List Ce) (hg : g.ok) (hl : lenOk r) (hr : ∀ c ∈ r, c.ok) (p : List Int) (hpl : p.length ≤ 140737488355328) (a k : Int) : CallsS Tryz.prog 7 [gmS g, ruS r, .agg [intsS p, .int .i64 a, .int .i64 k]] (B true) := by
  refine calls Tryz.func7 rfl (by rfl) (by rfl) (by kernel_rfl) ?_
  simp -dsimp -implicitDefEqProofs [Tryz.f7]
  refine eCall.of (bey4_s g r hg hl hr) (by simp) ?_
  cases h1 : far g with
  | true => simp -dsimp -implicitDefEqProofs
  | false =>
  cases h2 : beyondRule r with
  | true => simp -dsimp -implicitDefEqProofs
  | false =>
  have hs := seen_of hg hr h1 h2
  by_cases c1 : (100 : Int) < (p.length : Int)
  · simp -dsimp -implicitDefEqProofs [c1]
  simp -dsimp -implicitDefEqProofs [c1]
  obtain ⟨eg, hg1, hg2⟩ := isGood_of g r
  by_cases hgd : Good g r
  · have hp : Play g r := ⟨hs, h1, hgd⟩
    obtain rfl : eg = 0 := hg2.2 hgd
    obtain ⟨l, ok, htr⟩ := isTr_of (g := g) (r := r)
    refine eCall.of (rtruth_s g r hp l ok htr) (by simp) ?_
    simp -dsimp -implicitDefEqProofs
    refine eCall.of (rightR4_s g r hs 0 hg1) (by simp) ?_
    have hsz := (sizeOk_all hp.fine.sz).1
    rcases htr with ⟨b, n, t, hf, rfl, rfl⟩ | ⟨hno, rfl, rfl⟩
    · have hsp : Spot g r b n := ⟨hp, hf.ha, hf.hn⟩
      have ht := hf.ht
      rw [kl_eq hf.ha] at ht
      obtain ⟨q1, hq1⟩ := isWorth_of g r b (kOf g n b) (atG g n)
      obtain ⟨q2, hq2⟩ := isWorth_of g r b (kOf g n b) (putP (atG g n) b t)
      have z1 := worth_sz hs h1 hq1
      have z2 := worth_sz hs h1 hq2
      obtain ⟨-, z1'⟩ := cap_mz (show mz q1 ≤ 2048 by omega)
      obtain ⟨-, z2'⟩ := cap_mz (show mz q2 ≤ 2048 by omega)
      have hg12 : q2 - q1 = gainQ g r b n t := by rw [hsp.here hq1, hsp.there ht hq2]; rfl
      have hpos : q1 < q2 := by have := hf.pos; grind
      have gz := hsp.gain_mz ht
      obtain ⟨gc, gz'⟩ := cap_mz (show mz (gainQ g r b n t) ≤ 2048 by omega)
      have hal := atG_length g n
      have hb := hf.ha
      obtain ⟨k1, k2⟩ := hsp.kof
      have al : b < (atG g n).length := by omega
      have k1' : (atG g n)[b] = (kOf g n b : Int) := by rw [List.getElem?_eq_getElem al] at k1; exact Option.some.inj k1
      have hid := ridx_s g r hs (atG g n) (by omega) (whr g (atG g n)) (.inl ⟨⟨hgd.1, hgd.2.1⟩, hsp.prof, rfl⟩)
      have hw0 := (whrTo_le (g := g) g.agents.length (Nat.le_refl _) hsp.prof.2).1
      have hw0 : ¬ whr g (atG g n) < 0 := by unfold whr; omega
      have hcm := cmpR_s (frQ q2) (frQ q1) (frQ_ok (by omega)) (frQ_ok (by omega))
      have hsb := subR_s (frQ q2) (frQ q1) (frQ_ok (by omega)) (frQ_ok (by omega))
      rw [fix_frQ z1', fix_frQ z2'] at hcm hsb
      rw [hg12, gc] at hsb
      have hsa := sameR_s (frQ (gainQ g r b n t)) (frQ (gainQ g r b n t)) (frQ_ok (by omega)) (frQ_ok (by omega))
      have hc0 := cmpQ_pos.2 hpos
      simp -dsimp -implicitDefEqProofs [lieAt]
      refine eCall.of (rworth_s g r hs h1 b (kOf g n b) (atG g n) (by omega) q1 hq1) (by simp) ?_
      simp -dsimp -implicitDefEqProofs
      refine eCall.of (putR_s (atG g n) b t (by omega)) (by simp) ?_
      simp -dsimp -implicitDefEqProofs
      refine eCall.of (rworth_s g r hs h1 b (kOf g n b) (putP (atG g n) b t) (by rw [putp_length]; omega) q2 hq2) (by simp) ?_
      simp -dsimp -implicitDefEqProofs
      refine eCall.of hid (by simp) ?_
      simp -dsimp -implicitDefEqProofs [hw0, hb, al, k1']
      refine eCall.of hcm (by simp [frQ, ng]) ?_
      simp -dsimp -implicitDefEqProofs [hc0]
      refine eCall.of hsb (by simp [frQ, ng]) ?_
      simp -dsimp -implicitDefEqProofs
      refine eCall.of hsa (by simp [frQ, ng]) ?_
      simp -dsimp -implicitDefEqProofs
      refine eCall.of fixed_s (by simp) ?_
      simp -dsimp -implicitDefEqProofs
    · obtain ⟨e, he⟩ := isIdx2_of g p
      have hid := ridx_s g r hs p hpl e he
      simp -dsimp -implicitDefEqProofs [noLi]
      refine eCall.of hid (by simp) ?_
      by_cases hpf : isProf g p
      · have e1 : e = whr g p := by
          rcases he with h | h
          · exact h.2.2
          · exact absurd ⟨⟨hgd.1, hgd.2.1⟩, hpf⟩ h.1
        have hw0 := (whrTo_le g.agents.length (Nat.le_refl _) hpf.2).1
        have e2 : ¬ e < 0 := by rw [e1]; unfold whr; omega
        by_cases c2 : a < 0
        · simp -dsimp -implicitDefEqProofs [e2, c2]
          refine eCall.of fixed_s (by simp) ?_
          simp -dsimp -implicitDefEqProofs
        by_cases c3 : (g.agents.length : Int) ≤ a
        · simp -dsimp -implicitDefEqProofs [e2, c2, c3]
          refine eCall.of fixed_s (by simp) ?_
          simp -dsimp -implicitDefEqProofs
        by_cases c4 : k < 0
        · simp -dsimp -implicitDefEqProofs [e2, c2, c3, c4]
          refine eCall.of fixed_s (by simp) ?_
          simp -dsimp -implicitDefEqProofs
        obtain ⟨b, rfl⟩ : ∃ b : Nat, a = b := ⟨a.toNat, by omega⟩
        obtain ⟨t, rfl⟩ : ∃ t : Nat, k = t := ⟨k.toNat, by omega⟩
        have hb : b < g.agents.length := by omega
        have c3' : ¬ g.agents.length ≤ b := by omega
        by_cases c5 : (g.agents[b].kinds.length : Int) ≤ (t : Int)
        · have c5' : g.agents[b].kinds.length ≤ t := by omega
          simp -dsimp -implicitDefEqProofs [e2, c2, c3, c3', c4, hb, c5']
          refine eCall.of fixed_s (by simp) ?_
          simp -dsimp -implicitDefEqProofs
        have ht : t < g.agents[b].kinds.length := by omega
        have c5' : ¬ g.agents[b].kinds.length ≤ t := by omega
        have hatp := at_whr hpf
        have hwl := (whrTo_le g.agents.length (Nat.le_refl _) hpf.2).2
        rw [List.take_length] at hwl
        have hrl := hgd.2.2.1
        generalize hn0 : (whr g p).toNat = n at hatp
        have hn : n < r.length := by unfold whr at hn0; omega
        have hsp : Spot g r b n := ⟨hp, hb, hn⟩
        subst hatp
        obtain ⟨k1, k2⟩ := hsp.kof
        have hal := atG_length g n
        have al : b < (atG g n).length := by omega
        have k1' : (atG g n)[b] = (kOf g n b : Int) := by rw [List.getElem?_eq_getElem al] at k1; exact Option.some.inj k1
        obtain ⟨q1, hq1⟩ := isWorth_of g r b (kOf g n b) (atG g n)
        obtain ⟨q2, hq2⟩ := isWorth_of g r b (kOf g n b) (putP (atG g n) b t)
        have z1 := worth_sz hs h1 hq1
        have z2 := worth_sz hs h1 hq2
        obtain ⟨-, z1'⟩ := cap_mz (show mz q1 ≤ 2048 by omega)
        obtain ⟨-, z2'⟩ := cap_mz (show mz q2 ≤ 2048 by omega)
        have hg12 : q2 - q1 = gainQ g r b n t := by rw [hsp.here hq1, hsp.there ht hq2]; rfl
        have hneg : ¬ q1 < q2 := by
          have := hno b hb n hn t (by rw [kl_eq hb]; exact ht)
          grind
        have hcm := cmpR_s (frQ q2) (frQ q1) (frQ_ok (by omega)) (frQ_ok (by omega))
        rw [fix_frQ z1', fix_frQ z2'] at hcm
        have hc0 : cmpQ q2 q1 ≤ 0 := Int.not_lt.1 (mt cmpQ_pos.1 hneg)
        simp -dsimp -implicitDefEqProofs [e2, c2, c3, c3', c4, hb, c5', al, k1']
        refine eCall.of (rworth_s g r hs h1 b (kOf g n b) (atG g n) (by omega) q1 hq1) (by simp) ?_
        simp -dsimp -implicitDefEqProofs [al, k1']
        refine eCall.of (putR_s (atG g n) b t (by omega)) (by simp) ?_
        simp -dsimp -implicitDefEqProofs
        refine eCall.of (rworth_s g r hs h1 b (kOf g n b) (putP (atG g n) b t) (by rw [putp_length]; omega) q2 hq2) (by simp) ?_
        simp -dsimp -implicitDefEqProofs
        refine eCall.of hcm (by simp [frQ, ng]) ?_
        simp -dsimp -implicitDefEqProofs [hc0]
        refine eCall.of fixed_s (by simp) ?_
        simp -dsimp -implicitDefEqProofs
      · have e1 : e = -1 := by
          rcases he with h | h
          · exact absurd h.2.1 hpf
          · exact h.2
        subst e1
        simp -dsimp -implicitDefEqProofs
        refine eCall.of fixed_s (by simp) ?_
        simp -dsimp -implicitDefEqProofs
  · have h0 : ¬ eg = 0 := fun h => hgd (hg2.1 h)
    refine eCall.of (rtruthNo_s g r hs hgd) (by simp) ?_
    simp -dsimp -implicitDefEqProofs
    refine eCall.of (rightR4_s g r hs eg hg1) (by simp) ?_
    simp -dsimp -implicitDefEqProofs [h0]
    refine eCall.of fixed_s (by simp) ?_
    simp -dsimp -implicitDefEqProofs
end Go.Proofs.YtmgaoecfipkjbaaGreat.Sh

/- Data of reports, mixtures, logs. -/
namespace Go.Proofs.YtmgaoecfipkjbaaGreat.Sh
open Go Go.RowKit

def shpReport : Shp := .agg (.cons 1 (.slice 1 (.int .i64)) (.cons 1 (.int .i64) (.cons 1 (.int .i64) .nil)))
def shpMixed : Shp := .agg (.cons 1 shpRu (.cons 1 shpRu (.cons 3 shpFr .nil)))
def shpSeen : Shp := .agg (.cons 1 (.slice 1 (.int .i64)) (.cons 1 (.int .i64) .nil))
/-- What was said, and how often. -/
structure Sn where
  prof : List Int
  count : Int
@[simp] def rowSn (s : Sn) : List S1 := [intsS s.prof, .int .i64 s.count]
@[simp] def snsS (l : List Sn) : S1 := .sl true 2 (l.map rowSn)
def Sn.ok (s : Sn) : Prop := lenOk s.prof ∧ InI s.prof ∧ In64 s.count

section
variable {H : Type}

theorem report_of_ok {d : DataW H} (hd : shpReport.ok d) : ∃ (p : List Int) (a k : Int), shpReport.cells d = [intsS p, .int .i64 a, .int .i64 k] ∧ p.length ≤ 140737488355328 ∧ In64 a ∧ In64 k ∧ InI p := by
  obtain ⟨parts, rfl, d1, p1, rfl, ⟨h1, -⟩, d2, p2, rfl, ⟨h2, -⟩, d3, p3, rfl, ⟨h3, -⟩, rfl⟩ := hd
  obtain ⟨p, e1, l1, m1⟩ := i64s_of_ok h1
  obtain ⟨a, e2, l2⟩ := i64_of_ok h2
  obtain ⟨k, e3, l3⟩ := i64_of_ok h3
  refine ⟨p, a, k, ?_, Nat.le_trans l1 (by decide), l2, l3, m1⟩
  show (Shp.slice 1 (.int .i64)).cells d1 ++ ((Shp.int .i64).cells d2 ++ ((Shp.int .i64).cells d3 ++ [])) = _
  rw [e1, e2, e3]; rfl

theorem mixed_of_ok {d : DataW H} (hd : shpMixed.ok d) : ∃ (a b : List Ce) (w : FR), shpMixed.cells d = cesS a :: cesS b :: rowFr w ∧ (lenOk a ∧ ∀ c ∈ a, c.ok) ∧ (lenOk b ∧ ∀ c ∈ b, c.ok) ∧ w.ok := by
  obtain ⟨parts, rfl, d1, p1, rfl, ⟨h1, -⟩, d2, p2, rfl, ⟨h2, -⟩, d3, p3, rfl, ⟨h3, -⟩, rfl⟩ := hd
  obtain ⟨a, e1, m1⟩ := ru_of_ok h1
  obtain ⟨b, e2, m2⟩ := ru_of_ok h2
  obtain ⟨w, e3, m3⟩ := fr_of_ok h3
  refine ⟨a, b, w, ?_, m1, m2, m3⟩
  show shpRu.cells d1 ++ (shpRu.cells d2 ++ (shpFr.cells d3 ++ [])) = _
  rw [e1, e2, e3]; rfl

theorem sn_of_ok {d : DataW H} (hd : shpSeen.ok d) : ∃ s : Sn, shpSeen.cells d = rowSn s ∧ s.ok := by
  obtain ⟨parts, rfl, d1, p1, rfl, ⟨h1, -⟩, d2, p2, rfl, ⟨h2, -⟩, rfl⟩ := hd
  obtain ⟨p, e1, l1, m1⟩ := i64s_of_ok h1
  obtain ⟨a, e2, l2⟩ := i64_of_ok h2
  refine ⟨⟨p, a⟩, ?_, Nat.le_trans l1 (by decide), m1, l2⟩
  show (Shp.slice 1 (.int .i64)).cells d1 ++ ((Shp.int .i64).cells d2 ++ []) = _
  rw [e1, e2]; rfl
theorem log_of_ok {d : DataW H} (hd : (Shp.slice 2 shpSeen).ok d) : ∃ l : List Sn, (Shp.slice 2 shpSeen).cells d = [snsS l] ∧ l.length ≤ 140737488351232 ∧ ∀ s ∈ l, s.ok :=
  slice_of_ok (f := rowSn) (fun _ h => sn_of_ok h) hd
end
end Go.Proofs.YtmgaoecfipkjbaaGreat.Sh

/- Fixed, of the program and of the reference; the walk of RuleFixed. -/
namespace Go.Proofs.YtmgaoecfipkjbaaGreat.Sh
open Go Go.RowKit

theorem flat_one {α : Type} (f : α → List S1) (x : α) : flat f [x] = f x := by simp [flat]
instance : RowF 2 rowCe := ⟨fun _ => rfl, fun x s h => by simp at h; rcases h with rfl | rfl <;> rfl⟩
def fixF (f : FR) : FR := frQ f.fix
def fixC (c : Ce) : Ce := ⟨c.lot.map fixF, c.pay.map fixF⟩
@[simp] theorem fixC_lot (c : Ce) : (fixC c).lot = c.lot.map fixF := rfl
@[simp] theorem fixC_pay (c : Ce) : (fixC c).pay = c.pay.map fixF := rfl

set_option maxRecDepth 20000 in
theorem fixL_s (l : List FR) (hl : ∀ f ∈ l, f.ok) (h1 : l.length ≤ 1099511627776) : CallsS Tryz.prog 106 [.one (frsS l)] (.v (.one (frsS (l.map fixF)))) := by
  refine calls Tryz.func106 rfl (by rfl) (by rfl) (by kernel_rfl) ?_
  simp -dsimp -implicitDefEqProofs [Tryz.f106]
  refine ⟨by omega, ?_⟩
  refine sw_loop_e (fun p : {p : Nat × Nat // p.1 ≤ l.length} => SS.of [(3, .v (.one (.ms 0 0 l.length 3 true))), (9, .v (.one (frsS l))), (10, I .i64 l.length), (11, I .i64 p.1.1)] [(0, ⟨37, flat (optRow [.bool false, .nils, .nils] rowFr) (filled fixF l p.1.1)⟩)] (p.1.2 + 1))
    (fun p => l.length - p.1.1) ⟨(0, 0), Nat.zero_le _⟩ (by kernel_rfl) (Le.to (by simp) (by simp [filled_zero, flat_rep _ rowFr]) (by simp)) ?_
  rintro ⟨⟨i, c⟩, hi⟩
  simp only at hi
  by_cases a1 : i < l.length
  · have wi : IntKind.i64.wrap ((i : Int) + 1) = ((i + 1 : Nat) : Int) := by rw [wrap_i64 _ (by omega) (by omega)]; rfl
    have hok : l[i].ok := hl _ (List.getElem_mem a1)
    have ml := filled_len fixF l hi
    have mset := filled_set fixF l i a1
    simp -dsimp -implicitDefEqProofs [a1, wi]
    refine eCall.of (ffix_s l[i] hok) (by simp) ?_
    simp -dsimp -implicitDefEqProofs [a1, ml]
    refine ⟨by omega, ?_⟩
    have hset := set3_flat (f := optRow [.bool false, .nils, .nils] rowFr) (filled fixF l i) i (some (fixF l[i])) rfl (by omega)
    rw [mset] at hset
    exact Again.by ⟨(i + 1, c + 1), a1⟩ (Le.to (by simp [wi]) (by simp [← hset, fixF, frQ, ng]) (by simp)) (by simp; omega)
  · have hi2 : i = l.length := by omega
    subst hi2
    simp -dsimp -implicitDefEqProofs [filled_full]
    intro a _
    rfl

def isFixd (g : Gm) (c d : Ce) (r : List Ce) (e : Int) : Prop :=
  (¬ (sizeOk g = true ∧ RightOk g) ∧ r = [] ∧ e = 2) ∨ ((sizeOk g = true ∧ RightOk g) ∧ ¬ FitsOk g c ∧ r = [] ∧ e = 3) ∨ ((sizeOk g = true ∧ RightOk g) ∧ FitsOk g c ∧ r = List.replicate (prodK g.agents) d ∧ e = 0)
theorem isFixd_of (g : Gm) (c d : Ce) : ∃ r e, isFixd g c d r e := by
  by_cases h : sizeOk g = true ∧ RightOk g
  · by_cases h2 : FitsOk g c
    · exact ⟨_, _, .inr (.inr ⟨h, h2, rfl, rfl⟩)⟩
    · exact ⟨_, _, .inr (.inl ⟨h, h2, rfl, rfl⟩)⟩
  · exact ⟨_, _, .inl ⟨h, rfl, rfl⟩⟩

theorem rep_snoc {α : Type} (i : Nat) (x : α) : List.replicate (i + 1) x = List.replicate i x ++ [x] := List.replicate_succ'

set_option maxRecDepth 20000 in
theorem rfixed_s (g : Gm) (c : Ce) (hs : Seen g [c]) (r : List Ce) (e : Int) (h : isFixd g c (fixC c) r e) : CallsS Tryz.prog 45 [gmS g, ceS c] (.tup [ruS r, .one (.int .i64 e)]) := by
  have hc := hs.ce c (by simp)
  refine calls Tryz.func45 rfl (by rfl) (by rfl) (by kernel_rfl) ?_
  simp -dsimp -implicitDefEqProofs [Tryz.f45]
  obtain ⟨er, h1, h2⟩ := isRight_of g
  refine eCall.of (sright_s g hs.ok hs.bey er h1) (by simp) ?_
  rcases h with ⟨hr, rfl, rfl⟩ | ⟨hr, hf, rfl, rfl⟩ | ⟨hr, hf, rfl, rfl⟩
  · have h0 : ¬ er = 0 := fun h => hr (h2.1 h)
    simp -dsimp -implicitDefEqProofs [h0]
  · obtain rfl := h2.2 hr
    have hfi := hs.fine hr
    have ho := (sizeOk_all hfi.sz).2.1
    simp -dsimp -implicitDefEqProofs
    refine eCall.of (fits_s g c ho hc false (by simp [hf])) (by simp) ?_
    simp -dsimp -implicitDefEqProofs
  · obtain rfl := h2.2 hr
    have hfi := hs.fine hr
    obtain ⟨h1, ho, -, -, h5⟩ := sizeOk_all hfi.sz
    have l1 := hf.1
    have l2 := hf.2.1
    have hpl := profs_length g
    have f1 := fixL_s c.lot hc.ok.2.2.1 (by omega)
    have f2 := fixL_s c.pay hc.ok.2.2.2 (by omega)
    simp -dsimp -implicitDefEqProofs
    refine eCall.of (fits_s g c ho hc true (by simp [hf])) (by simp) ?_
    simp -dsimp -implicitDefEqProofs
    refine eCall.of (profiles_s g hfi) (by simp) ?_
    simp -dsimp -implicitDefEqProofs [hpl]
    refine sw_loop_e (fun p : {p : Nat × Nat // p.1 ≤ prodK g.agents ∧ (p.1 ≠ 0 → p.2 ≠ 0)} => SS.of [(3, .v (.one (.mp 1 0))), (4, .v (.one (.mp 2 0))), (6, .v (.one (.fn 106 []))), (7, .v (.one (.mp 3 0))), (19, I .i64 (prodK g.agents)), (20, I .i64 p.1.1)]
        ((1, ⟨60, rowCe c⟩) :: (2, ⟨29, [.nils]⟩) :: (3, ⟨29, [if p.1.1 = 0 then .nils else .ms (p.1.2 + 3) 0 p.1.1 2 true]⟩) :: if p.1.1 = 0 then [] else [(p.1.2 + 3, ⟨60, flat rowCe (List.replicate p.1.1 (fixC c))⟩)]) (p.1.2 + 4))
      (fun p => prodK g.agents - p.1.1) ⟨(0, 0), Nat.zero_le _, fun h => absurd rfl h⟩ (by kernel_rfl) (Le.to (by simp) (by simp) (by simp)) ?_
    rintro ⟨⟨i, n⟩, hi, hn⟩
    simp only at hi hn
    by_cases a1 : i < prodK g.agents
    · have wi : IntKind.i64.wrap ((i : Int) + 1) = ((i + 1 : Nat) : Int) := by rw [wrap_i64 _ (by omega) (by omega)]; rfl
      have hfl := flat_snoc (f := rowCe) (fixC c) (List.replicate i (fixC c))
      rw [← rep_snoc] at hfl
      by_cases a0 : i = 0
      · subst a0
        rw [List.replicate_zero, flat_nil, List.nil_append] at hfl
        simp -dsimp -implicitDefEqProofs [a1]
        refine eCall.of f1 (by simp) ?_
        simp -dsimp -implicitDefEqProofs
        refine eCall.of f2 (by simp) ?_
        simp -dsimp -implicitDefEqProofs [slots]
        exact Again.by ⟨(1, n + 2), by omega, by simp⟩ (Le.to (by simp [wi, i64_1]) (by simp [flat_one]) (by simp)) (by simp; omega)
      · have hn0 := hn a0
        simp -dsimp -implicitDefEqProofs [a1, a0, hn0]
        refine eCall.of f1 (by simp) ?_
        simp -dsimp -implicitDefEqProofs [a0, hn0]
        refine eCall.of f2 (by simp) ?_
        simp -dsimp -implicitDefEqProofs [slots, a0, hn0]
        refine ⟨by omega, ?_⟩
        exact Again.by ⟨(i + 1, n + 2), by omega, by simp⟩ (Le.to (by simp [wi]) (by simp [hfl, hn0]) (by simp)) (by simp; omega)
    have hi2 : i = prodK g.agents := by omega
    subst hi2
    have hp0 : ¬ prodK g.agents = 0 := by
      have := prod_pos (l := g.agents) (fun a ha => (hr.2.all a ha).1) g.agents.length (Nat.le_refl _)
      rw [List.take_length] at this
      omega
    have hn0 := hn hp0
    simp -dsimp -implicitDefEqProofs [hp0, hn0]
end Go.Proofs.YtmgaoecfipkjbaaGreat.Sh

/- The reference's Fixed, SameRule; the walk of RuleFixed. -/
namespace Go.Proofs.YtmgaoecfipkjbaaGreat.Sh
open Go Go.RowKit

set_option maxRecDepth 20000 in
theorem fixedR_s (g : Gm) (c : Ce) (hs : Seen g [c]) (r : List Ce) (e : Int) (h : isFixd g c c r e) : CallsS Tryz.prog 44 [gmS g, ceS c] (.tup [ruS r, .one (.int .i64 e)]) := by
  have hc := hs.ce c (by simp)
  refine calls Tryz.func44 rfl (by rfl) (by rfl) (by kernel_rfl) ?_
  simp -dsimp -implicitDefEqProofs [Tryz.f44]
  obtain ⟨er, h1, h2⟩ := isRight_of g
  refine eCall.of (right_s g hs.ok hs.bey er h1) (by simp) ?_
  rcases h with ⟨hr, rfl, rfl⟩ | ⟨hr, hf, rfl, rfl⟩ | ⟨hr, hf, rfl, rfl⟩
  · have h0 : ¬ er = 0 := fun h => hr (h2.1 h)
    simp -dsimp -implicitDefEqProofs [h0]
  · obtain rfl := h2.2 hr
    have hfi := hs.fine hr
    have ho := (sizeOk_all hfi.sz).2.1
    simp -dsimp -implicitDefEqProofs
    refine eCall.of (fitsR_s g c ho hc false (by simp [hf])) (by simp) ?_
    simp -dsimp -implicitDefEqProofs
  · obtain rfl := h2.2 hr
    have hfi := hs.fine hr
    obtain ⟨h1, ho, -, -, h5⟩ := sizeOk_all hfi.sz
    simp -dsimp -implicitDefEqProofs
    refine eCall.of (fitsR_s g c ho hc true (by simp [hf])) (by simp) ?_
    simp -dsimp -implicitDefEqProofs
    refine sw_loop_e (fun p : {p : Nat × Nat // p.1 ≤ prodK g.agents ∧ (p.1 ≠ 0 → p.2 ≠ 0)} => SS.of [(2, .v (.one (.mp 0 0))), (3, .v (.one (.mp 1 0))), (4, .v (.one (.mp 2 0))), (6, .v (.one (.mp 3 0))), (7, I .i64 p.1.1)]
        ((0, ⟨26, rowGm g⟩) :: (1, ⟨60, rowCe c⟩) :: (2, ⟨29, [.nils]⟩) :: (3, ⟨29, [if p.1.1 = 0 then .nils else .ms (p.1.2 + 3) 0 p.1.1 2 true]⟩) :: if p.1.1 = 0 then [] else [(p.1.2 + 3, ⟨60, flat rowCe (List.replicate p.1.1 c)⟩)]) (p.1.2 + 4))
      (fun p => prodK g.agents - p.1.1) ⟨(0, 0), Nat.zero_le _, fun h => absurd rfl h⟩ (by kernel_rfl) (Le.to (by simp) (by simp) (by simp)) ?_
    rintro ⟨⟨i, n⟩, hi, hn⟩
    simp only at hi hn
    by_cases a0 : i = 0
    · subst a0
      have hp0 : 0 < prodK g.agents := by
        have := prod_pos (l := g.agents) (fun a ha => (hr.2.all a ha).1) g.agents.length (Nat.le_refl _)
        rwa [List.take_length] at this
      simp -dsimp -implicitDefEqProofs
      refine eCall.of (count_s g hfi) (by simp) ?_
      have hfl := flat_snoc (f := rowCe) c (List.replicate 0 c)
      rw [← rep_snoc, List.replicate_zero, flat_nil, List.nil_append] at hfl
      simp -dsimp -implicitDefEqProofs [hp0, slots]
      exact Again.by ⟨(1, n + 2), by omega, by simp⟩ (Le.to (by simp [i64_1]) (by simp [flat_one]) (by simp)) (by simp; omega)
    have hn0 := hn a0
    simp -dsimp -implicitDefEqProofs [a0, hn0]
    refine eCall.of (count_s g hfi) (by simp) ?_
    by_cases a1 : i < prodK g.agents
    · have wi : IntKind.i64.wrap ((i : Int) + 1) = ((i + 1 : Nat) : Int) := by rw [wrap_i64 _ (by omega) (by omega)]; rfl
      have hfl := flat_snoc (f := rowCe) c (List.replicate i c)
      rw [← rep_snoc] at hfl
      simp -dsimp -implicitDefEqProofs [a1, slots, a0, hn0]
      refine ⟨by omega, ?_⟩
      exact Again.by ⟨(i + 1, n + 2), by omega, by simp⟩ (Le.to (by simp [wi]) (by simp [hfl, hn0]) (by simp)) (by simp; omega)
    have hi2 : i = prodK g.agents := by omega
    subst hi2
    simp -dsimp -implicitDefEqProofs [a0, hn0]

set_option maxRecDepth 20000 in
theorem sameRule_s (a b : List Ce) (ha : ∀ c ∈ a, c.ok) (hb : ∀ c ∈ b, c.ok) (h1 : a.length ≤ 1048576) (hab : a.length = b.length) (h2 : ∀ c ∈ a, c.lot.length ≤ 1048576 ∧ c.pay.length ≤ 1048576)
    (h : ∀ i (h : i < a.length), a[i].lot.map FR.fix = (b[i]'(by omega)).lot.map FR.fix ∧ a[i].pay.map FR.fix = (b[i]'(by omega)).pay.map FR.fix) : CallsS Tryz.prog 46 [ruS a, ruS b] (B true) := by
  refine calls Tryz.func46 rfl (by rfl) (by rfl) (by kernel_rfl) ?_
  simp -dsimp -implicitDefEqProofs [Tryz.f46, hab]
  refine sw_loop_e (fun p : {p : Nat // p ≤ a.length} => SS.of [(2, .v (.one (.mp 0 0))), (3, .v (.one (.mp 1 0))), (5, I .i64 p.1)] [(0, ⟨29, [cesS a]⟩), (1, ⟨29, [cesS b]⟩)] 2)
    (fun p => a.length - p.1) ⟨0, Nat.zero_le _⟩ (by kernel_rfl) (Le.to (by simp) (by simp) (by simp)) ?_
  rintro ⟨i, hi⟩
  by_cases a1 : i < a.length
  · have wi : IntKind.i64.wrap ((i : Int) + 1) = ((i + 1 : Nat) : Int) := by rw [wrap_i64 _ (by omega) (by omega)]; rfl
    have a2 : i < b.length := by omega
    have oa := ha _ (List.getElem_mem a1)
    have ob := hb _ (List.getElem_mem a2)
    obtain ⟨l1, l2⟩ := h2 _ (List.getElem_mem a1)
    obtain ⟨e1, e2⟩ := h i a1
    simp -dsimp -implicitDefEqProofs [a1, a2]
    refine eCall.of (sameNumbers_s a[i].lot b[i].lot oa.2.2.1 ob.2.2.1 l1 e1) (by simp) ?_
    simp -dsimp -implicitDefEqProofs [a1, a2]
    refine eCall.of (sameNumbers_s a[i].pay b[i].pay oa.2.2.2 ob.2.2.2 l2 e2) (by simp) ?_
    simp -dsimp -implicitDefEqProofs
    exact Again.by ⟨i + 1, a1⟩ (Le.to (by simp [wi]) (by simp) (by simp)) (by simp; omega)
  have hi2 : i = a.length := by omega
  subst hi2
  simp -dsimp -implicitDefEqProofs

/-! ### What is fixed -/
theorem fixF_fix {f : FR} (h : f.ok) : (fixF f).fix = f.fix := fix_frQ (sz_fix h)
theorem fixF_ok {f : FR} (h : f.ok) : (fixF f).ok := frQ_ok (by have := sz_fix h; omega)
theorem fixF_big {f : FR} (h : f.ok) {b : Nat} (hb : 1 ≤ b) (h1 : f.big ≤ b) : (fixF f).big ≤ b := by
  by_cases hr : f.right = true
  · have h2 := (FR.right_fix h hr).1
    simp at h2
    obtain ⟨-, h3, h4⟩ := h2
    have l3 := congrArg List.length h3
    have l4 := congrArg List.length h4
    simp at l3 l4
    unfold FR.big at h1 ⊢
    unfold fixF frQ
    simp only
    omega
  · have : f.fix = 0 := by unfold FR.fix; rw [if_neg hr]
    unfold fixF
    rw [this, show (frQ 0).big = 1 by decide +kernel]; exact hb
theorem map_fixF {l : List FR} (h : ∀ f ∈ l, f.ok) : (l.map fixF).map FR.fix = l.map FR.fix := by
  rw [List.map_map]
  exact List.map_congr_left (fun f hf => fixF_fix (h f hf))
theorem fixC_ok {c : Ce} (h : c.ok) : (fixC c).ok := by
  obtain ⟨h1, h2, h3, h4⟩ := h
  refine ⟨by unfold lenOk at *; simpa using h1, by unfold lenOk at *; simpa using h2, fun f hf => ?_, fun f hf => ?_⟩
  · obtain ⟨f1, hf1, rfl⟩ := List.mem_map.1 hf; exact fixF_ok (h3 f1 hf1)
  · obtain ⟨f1, hf1, rfl⟩ := List.mem_map.1 hf; exact fixF_ok (h4 f1 hf1)
theorem fixC_fine {c : Ce} (h : CeFine c) : CeFine (fixC c) := by
  refine ⟨fixC_ok h.ok, fun f hf => ?_, fun f hf => ?_⟩
  · obtain ⟨f1, hf1, rfl⟩ := List.mem_map.1 hf; exact fixF_big (h.ok.2.2.1 f1 hf1) (by omega) (h.lot f1 hf1)
  · obtain ⟨f1, hf1, rfl⟩ := List.mem_map.1 hf; exact fixF_big (h.ok.2.2.2 f1 hf1) (by omega) (h.pay f1 hf1)
theorem fixC_fits {g : Gm} {c : Ce} (h : c.ok) (hf : FitsOk g c) : FitsOk g (fixC c) := by
  obtain ⟨h1, h2, ⟨h3, h3'⟩, h4, h5⟩ := hf
  obtain ⟨-, -, o3, o4⟩ := h
  refine ⟨by simpa using h1, by simpa using h2, ⟨fun f hf => ?_, by rw [fixC_lot, map_fixF o3]; exact h3'⟩, h4.imp id (fun ⟨f, hf, e⟩ => ⟨fixF f, List.mem_map.2 ⟨f, hf, rfl⟩, by rw [fixF_fix (o3 f hf)]; exact e⟩), h5.imp id (fun h f hf => ?_)⟩
  · obtain ⟨f1, hf1, rfl⟩ := List.mem_map.1 hf; rw [fixF_fix (o3 f1 hf1)]; exact h3 f1 hf1
  · obtain ⟨f1, hf1, rfl⟩ := List.mem_map.1 hf; rw [fixF_fix (o4 f1 hf1)]; exact h f1 hf1

theorem const_no {g : Gm} {d : Ce} {n : Nat} (hp : Play g (List.replicate n d)) : ∀ a, a < g.agents.length → NoA g (List.replicate n d) a := by
  intro a ha m hm t ht
  have hsp : Spot g (List.replicate n d) a m := ⟨hp, ha, hm⟩
  rw [kl_eq ha] at ht
  obtain ⟨-, h2⟩ := hsp.toAt ht
  unfold gainQ
  rw [ceAt_eq h2, ceAt_eq hm, List.getElem_replicate, List.getElem_replicate, Rat.sub_self]
  exact Rat.lt_irrefl

set_option maxRecDepth 20000 in
set_option maxHeartbeats 1000000 in
theorem lawFixed_s (g : Gm) (c : Ce) (hg : g.ok) (hc : c.ok) : CallsS Tryz.prog 9 [gmS g, ceS c] (B true) := by
  refine calls Tryz.func9 rfl (by rfl) (by rfl) (by kernel_rfl) ?_
  have hr : ∀ x ∈ [c], x.ok := fun x hx => by rw [List.mem_singleton.1 hx]; exact hc
  simp -dsimp -implicitDefEqProofs [Tryz.f9]
  refine eCall.of (far_s g hg) (by simp) ?_
  cases h1 : far g with
  | true => simp -dsimp -implicitDefEqProofs
  | false =>
  simp -dsimp -implicitDefEqProofs [slots]
  refine eCall.of (beyondRule_s [c] (by unfold lenOk; simp) hr) (by simp [rowsOf]) ?_
  cases h2 : beyondRule [c] with
  | true => simp -dsimp -implicitDefEqProofs
  | false =>
  have hs := seen_of hg hr h1 h2
  have hcf := hs.ce c (by simp)
  simp -dsimp -implicitDefEqProofs
  by_cases hR : sizeOk g = true ∧ RightOk g
  · by_cases hf : FitsOk g c
    · have hfi := hs.fine hR
      obtain ⟨k1, ho, -, -, h5⟩ := sizeOk_all hfi.sz
      have w1 : isFixd g c c (List.replicate (prodK g.agents) c) 0 := .inr (.inr ⟨hR, hf, rfl, rfl⟩)
      have w2 : isFixd g c (fixC c) (List.replicate (prodK g.agents) (fixC c)) 0 := .inr (.inr ⟨hR, hf, rfl, rfl⟩)
      have hgd : Good g (List.replicate (prodK g.agents) (fixC c)) := ⟨hR.1, hR.2, by simp, fun x hx => by rw [List.eq_of_mem_replicate hx]; exact fixC_fits hc hf⟩
      have hp : Play g (List.replicate (prodK g.agents) (fixC c)) := ⟨⟨hg, hs.bey, by simp; omega, fun x hx => by rw [List.eq_of_mem_replicate hx]; exact fixC_fine hcf⟩, h1, hgd⟩
      have htr : isTr g (List.replicate (prodK g.agents) (fixC c)) (noLi 0 0) true := .inr ⟨const_no hp, rfl, rfl⟩
      have hsr := sameRule_s (List.replicate (prodK g.agents) (fixC c)) (List.replicate (prodK g.agents) c) (fun x hx => by rw [List.eq_of_mem_replicate hx]; exact fixC_ok hc) (fun x hx => by rw [List.eq_of_mem_replicate hx]; exact hc) (by simp; omega) (by simp)
        (fun x hx => by rw [List.eq_of_mem_replicate hx]; have := hf.1; have := hf.2.1; simp; omega) (fun i hi => by rw [List.getElem_replicate, List.getElem_replicate]; exact ⟨map_fixF hc.2.2.1, map_fixF hc.2.2.2⟩)
      refine eCall.of (fixedR_s g c hs _ 0 w1) (by simp) ?_
      simp -dsimp -implicitDefEqProofs
      refine eCall.of (rfixed_s g c hs _ 0 w2) (by simp) ?_
      simp -dsimp -implicitDefEqProofs
      refine eCall.of (rtruth_s g _ hp _ _ htr) (by simp) ?_
      simp -dsimp -implicitDefEqProofs [noLi]
      refine eCall.of hsr (by simp) ?_
      simp -dsimp -implicitDefEqProofs
      refine eCall.of fixed_s (by simp) ?_
      simp -dsimp -implicitDefEqProofs
    · have hfi := hs.fine hR
      have hse : Seen g [] := ⟨hg, hs.bey, by simp, by simp⟩
      have hng : ¬ Good g [] := fun h => by
        have := h.2.2.1
        have := prod_pos (l := g.agents) (fun a ha => (hR.2.all a ha).1) g.agents.length (Nat.le_refl _)
        rw [List.take_length] at this
        simp at *; omega
      refine eCall.of (fixedR_s g c hs [] 3 (.inr (.inl ⟨hR, hf, rfl, rfl⟩))) (by simp) ?_
      simp -dsimp -implicitDefEqProofs
      refine eCall.of (rfixed_s g c hs [] 3 (.inr (.inl ⟨hR, hf, rfl, rfl⟩))) (by simp) ?_
      simp -dsimp -implicitDefEqProofs
      refine eCall.of (rtruthNo_s g [] hse hng) (by simp) ?_
      simp -dsimp -implicitDefEqProofs
      refine eCall.of (sameRule_s [] [] (by simp) (by simp) (by decide) rfl (by simp) (fun i hi => absurd hi (by simp))) (by simp) ?_
      simp -dsimp -implicitDefEqProofs
      refine eCall.of fixed_s (by simp) ?_
      simp -dsimp -implicitDefEqProofs
  · have hse : Seen g [] := ⟨hg, hs.bey, by simp, by simp⟩
    have hng : ¬ Good g [] := fun h => hR ⟨h.1, h.2.1⟩
    refine eCall.of (fixedR_s g c hs [] 2 (.inl ⟨hR, rfl, rfl⟩)) (by simp) ?_
    simp -dsimp -implicitDefEqProofs
    refine eCall.of (rfixed_s g c hs [] 2 (.inl ⟨hR, rfl, rfl⟩)) (by simp) ?_
    simp -dsimp -implicitDefEqProofs
    refine eCall.of (rtruthNo_s g [] hse hng) (by simp) ?_
    simp -dsimp -implicitDefEqProofs
    refine eCall.of (sameRule_s [] [] (by simp) (by simp) (by decide) rfl (by simp) (fun i hi => absurd hi (by simp))) (by simp) ?_
    simp -dsimp -implicitDefEqProofs
    refine eCall.of fixed_s (by simp) ?_
    simp -dsimp -implicitDefEqProofs
end Go.Proofs.YtmgaoecfipkjbaaGreat.Sh

/- What needs ask: payments, chances of outcomes, envy. -/
namespace Go.Proofs.YtmgaoecfipkjbaaGreat.Sh
open Go Go.RowKit

def pick1 (l : List FR) (x : Int) : FR := (l[x.toNat]?).getD fr0
def picks (l : List FR) (xs : List Int) : List FR := xs.map (pick1 l)
def InR (xs : List Int) (n : Nat) : Prop := ∀ x ∈ xs, 0 ≤ x ∧ x < (n : Int)
def amongQ (l : List FR) (xs : List Int) : Rat := sumQ ((picks l xs).map FR.fix)

theorem pick1_eq {l : List FR} {x : Int} (h : x.toNat < l.length) : pick1 l x = l[x.toNat] := by unfold pick1; rw [List.getElem?_eq_getElem h]; rfl
theorem picks_ok {l : List FR} {xs : List Int} (hl : ∀ f ∈ l, f.ok) (hr : InR xs l.length) : ∀ f ∈ picks l xs, f.ok := by
  intro f hf
  obtain ⟨x, hx, rfl⟩ := List.mem_map.1 hf
  have := hr x hx
  rw [pick1_eq (show x.toNat < l.length by omega)]
  exact hl _ (List.getElem_mem _)
theorem picks_mz {l : List FR} {xs : List Int} {B : Nat} (hl : ∀ f ∈ l, mz f.fix ≤ B) (hr : InR xs l.length) : ∀ f ∈ picks l xs, mz f.fix ≤ B := by
  intro f hf
  obtain ⟨x, hx, rfl⟩ := List.mem_map.1 hf
  have := hr x hx
  rw [pick1_eq (show x.toNat < l.length by omega)]
  exact hl _ (List.getElem_mem _)
theorem picks_small {l : List FR} {xs : List Int} {B : Nat} (hs : Small l B) (hr : InR xs l.length) (hx : xs.length * (B + 1) + 1 ≤ 2048) : Small (picks l xs) B :=
  ⟨picks_ok hs.ok hr, fun q hq => by obtain ⟨f, hf, rfl⟩ := List.mem_map.1 hq; exact picks_mz (fun f hf => hs.mz _ (List.mem_map.2 ⟨f, hf, rfl⟩)) hr f hf, by simpa [picks] using hx⟩

set_option maxRecDepth 20000 in
theorem paidR_s (c : Ce) (hs : Small c.pay 6) : CallsS Tryz.prog 128 [ceS c] (.v (fS (paidQ c))) := by
  have h := sumF_s c.pay 6 hs
  rw [← cap_sum hs] at h
  refine calls Tryz.func128 rfl (by rfl) (by rfl) (by kernel_rfl) ?_
  simp -dsimp -implicitDefEqProofs [Tryz.f128]
  refine eCall.of h (by simp) ?_
  simp -dsimp -implicitDefEqProofs [paidQ, frQ, ng]
  try rfl

set_option maxRecDepth 20000 in
theorem among_s (l : List FR) (xs : List Int) (hs : Small (picks l xs) 6) (hr : InR xs l.length) (h1 : xs.length ≤ 1048576) : CallsS Tryz.prog 172 [.one (frsS l), .one (intsS xs)] (.v (fS (amongQ l xs))) := by
  have hsum := fsum_s (picks l xs) hs.ok (by simpa [picks] using h1)
  rw [cap_sum hs] at hsum
  have hpl : (picks l xs).length = xs.length := by simp [picks]
  refine calls Tryz.func172 rfl (by rfl) (by rfl) (by kernel_rfl) ?_
  simp -dsimp -implicitDefEqProofs [Tryz.f172]
  refine sw_loop_e (fun p : {p : Nat × Nat // p.1 ≤ xs.length ∧ (p.1 ≠ 0 → p.2 ≠ 0)} => SS.of [(0, .v (.one (frsS l))), (4, .v (.one (.mp 0 0))), (5, if p.1.1 = 0 then .v (.one .nils) else .v (.one (.ms p.1.2 0 p.1.1 3 true))), (8, .v (.one (intsS xs))), (9, I .i64 xs.length), (10, I .i64 p.1.1)]
      ((0, ⟨37, [.bool false, .nils, .nils]⟩) :: if p.1.1 = 0 then [] else [(p.1.2, ⟨37, flat rowFr ((picks l xs).take p.1.1)⟩)]) (p.1.2 + 1))
    (fun p => xs.length - p.1.1) ⟨(0, 0), Nat.zero_le _, fun h => absurd rfl h⟩ (by kernel_rfl) (Le.to (by simp) (by simp) (by simp)) ?_
  rintro ⟨⟨i, c⟩, hi, hc⟩
  simp only at hi hc
  by_cases a1 : i < xs.length
  · have wi : IntKind.i64.wrap ((i : Int) + 1) = ((i + 1 : Nat) : Int) := by rw [wrap_i64 _ (by omega) (by omega)]; rfl
    have hx := hr _ (List.getElem_mem a1)
    have hxl : xs[i].toNat < l.length := by omega
    have hx1 : ¬ xs[i] < 0 := by omega
    have hfl := flat_snoc (f := rowFr) l[xs[i].toNat] ((picks l xs).take i)
    have hsn := takeSnoc (picks l xs) i (by omega)
    rw [show (picks l xs)[i]'(by omega) = l[xs[i].toNat] by simp [picks, pick1_eq hxl]] at hsn
    rw [← hsn] at hfl
    have hll : ((picks l xs).take i).length = i := by simp; omega
    by_cases a0 : i = 0
    · subst a0
      rw [List.take_zero, flat_nil, List.nil_append] at hfl
      simp -dsimp -implicitDefEqProofs [a1, hx, hxl, slots]
      exact Again.by ⟨(1, c + 2), by omega, by simp⟩ (Le.to (by simp [i64_1]) (by simp [hfl]) (by simp)) (by simp; omega)
    · have hc0 := hc a0
      have hc0' : ¬ 0 = c := fun e => hc0 e.symm
      simp -dsimp -implicitDefEqProofs [a1, a0, hc0, hc0', hx, hxl, slots, hll]
      refine ⟨by omega, ?_⟩
      exact Again.by ⟨(i + 1, c + 2), by omega, by simp⟩ (Le.to (by simp [wi]) (by simp [hfl, hc0, hc0']) (by simp)) (by simp; omega)
  have hi2 : i = xs.length := by omega
  subst hi2
  have htk : (picks l xs).take xs.length = picks l xs := List.take_of_length_le (by omega)
  rw [htk]
  by_cases a0 : xs.length = 0
  · have hp0 : picks l xs = [] := List.length_eq_zero_iff.1 (by omega)
    rw [hp0] at hsum
    simp -dsimp -implicitDefEqProofs [a0]
    refine eCall.of hsum (by simp) ?_
    simp -dsimp -implicitDefEqProofs [amongQ, hp0, frQ, ng]
  · have hc0 := hc a0
    have hc0' : ¬ 0 = c := fun e => hc0 e.symm
    simp -dsimp -implicitDefEqProofs [a0, hc0, hc0', hpl]
    refine eCall.of hsum (by simp [hpl]) ?_
    simp -dsimp -implicitDefEqProofs [amongQ, frQ, ng, hc0, hc0']
    try rfl

set_option maxRecDepth 20000 in
theorem chance4_s (c : Ce) (xs : List Int) (hs : Small (picks c.lot xs) 6) (hr : InR xs c.lot.length) (h1 : xs.length ≤ 1048576) : CallsS Tryz.prog 165 [ceS c, .one (intsS xs)] (.v (fS (amongQ c.lot xs))) := by
  have i0 := intR_s 0 (by decide) (by decide)
  have hpl : (picks c.lot xs).length = xs.length := by simp [picks]
  have hsz := mz_take hs.mz (by have := hs.all; simpa using this)
  refine calls Tryz.func165 rfl (by rfl) (by rfl) (by kernel_rfl) ?_
  simp -dsimp -implicitDefEqProofs [Tryz.f165]
  refine eCall.of i0 (by simp) ?_
  simp -dsimp -implicitDefEqProofs
  refine sw_loop_e (fun p : {p : Nat // p ≤ xs.length} => SS.of [(1, .v (.one (intsS xs))), (2, .v (.one (.mp 0 0))), (4, .v (.one (.mp 1 0))), (5, .v (.one (.mp 2 0))), (6, I .i64 p.1)]
      [(0, ⟨60, rowCe c⟩), (1, ⟨37, [.bool false, .nils, .nils]⟩), (2, ⟨37, rowFr (frQ (sumQ (((picks c.lot xs).map FR.fix).take p.1)))⟩)] 3)
    (fun p => xs.length - p.1) ⟨0, Nat.zero_le _⟩ (by kernel_rfl) (Le.to (by simp) (by simp [sumQ, frQ, ng]) (by simp)) ?_
  rintro ⟨i, hi⟩
  by_cases a1 : i < xs.length
  · have wi : IntKind.i64.wrap ((i : Int) + 1) = ((i + 1 : Nat) : Int) := by rw [wrap_i64 _ (by omega) (by omega)]; rfl
    have hx := hr _ (List.getElem_mem a1)
    have hxl : xs[i].toNat < c.lot.length := by omega
    have ht := sumQ_take ((picks c.lot xs).map FR.fix) i (by simp [picks]; omega)
    rw [show ((picks c.lot xs).map FR.fix)[i]'(by simp [picks]; omega) = (c.lot[xs[i].toNat]).fix by simp [picks, pick1_eq hxl]] at ht
    have z0 := hsz i
    have z1 := hsz (i + 1)
    have hok := hs.ok _ (List.mem_map.2 ⟨xs[i], List.getElem_mem a1, rfl⟩)
    rw [pick1_eq hxl] at hok
    have ha := addR_s (frQ (sumQ (((picks c.lot xs).map FR.fix).take i))) (c.lot[xs[i].toNat]) (frQ_ok (by omega)) hok
    rw [fix_frQ z0, ← ht, cap_of z1] at ha
    simp -dsimp -implicitDefEqProofs [a1, hx, hxl]
    refine eCall.of ha (by simp [frQ, ng]) ?_
    simp -dsimp -implicitDefEqProofs
    exact Again.by ⟨i + 1, a1⟩ (Le.to (by simp [wi]) (by simp [frQ, ng]) (by simp)) (by simp; omega)
  have hi2 : i = xs.length := by omega
  subst hi2
  have htk : ((picks c.lot xs).map FR.fix).take xs.length = (picks c.lot xs).map FR.fix := List.take_of_length_le (by simp [picks])
  simp -dsimp -implicitDefEqProofs [htk, amongQ, frQ, ng]
  try rfl
end Go.Proofs.YtmgaoecfipkjbaaGreat.Sh

