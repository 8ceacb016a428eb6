/- A part of the proof: R67 -/
import Derived.Test.YtmgaoecfipkjbaaGreatL20
set_option linter.unusedSimpArgs false
set_option linter.unusedVariables false
/- Draws: the reference, and the walk of RuleDraw. -/
namespace Go.Proofs.YtmgaoecfipkjbaaGreat.Sh
open Go Go.RowKit

theorem drawQ_some {t : Rat} (ht : t < 1) : ∀ (l : List Rat) (s : Rat) (i : Nat), (∀ k, cap (s + sumQ (l.take k)) = s + sumQ (l.take k)) → s ≤ t → s + sumQ l = 1 → ∃ j, drawQ t s i l = some j
  | [], s, i, _, h1, h2 => by
    rw [sumQ] at h2
    exact absurd h1 (by grind)
  | q :: l, s, i, hc, h1, h2 => by
    have h3 := hc 1
    rw [List.take_succ_cons, List.take_zero, sumQ, sumQ, Rat.add_zero] at h3
    rw [drawQ_cons, h3]
    by_cases c : t < s + q
    · exact ⟨i, if_pos c⟩
    · rw [if_neg c]
      refine drawQ_some ht l (s + q) (i + 1) (fun k => ?_) (Rat.not_lt.1 c) (by rw [sumQ] at h2; rw [Rat.add_assoc]; exact h2)
      have := hc (k + 1)
      rw [List.take_succ_cons, sumQ, ← Rat.add_assoc] at this
      exact this

theorem drawQ_lot {l : List FR} {B' : Nat} (hs : Small l B') (h : isLot l) {t : Rat} (h0 : 0 ≤ t) (h1 : t < 1) : ∃ j, drawQ t 0 0 (l.map FR.fix) = some j := by
  refine drawQ_some h1 _ 0 0 (fun k => ?_) h0 ?_
  · rw [Rat.zero_add, ← List.map_take]
    have := cap_sum (l := l.take k) (B' := B') ⟨fun f hf => hs.ok f (List.mem_of_mem_take hf), fun q hq => hs.mz q (by rw [List.map_take] at hq; exact List.mem_of_mem_take hq), by
      have := hs.all
      have : (l.take k).length ≤ l.length := by simp; omega
      have : (l.take k).length * (B' + 1) ≤ l.length * (B' + 1) := Nat.mul_le_mul_right _ this
      omega⟩
    exact this
  · rw [Rat.zero_add]; exact ((isLot_iff hs).1 h).2

set_option maxRecDepth 20000 in
theorem drawR_s (l : List FR) (t : FR) (B' : Nat) (hs : Small l B') (ht : t.ok) (r : Int × Int) (hr : isDraw l t.fix r) :
    CallsS Tryz.prog 28 [.one (frsS l), frS t] (.tup [.one (.int .i64 r.1), .one (.int .i64 r.2)]) := by
  obtain ⟨o1, o2, o3⟩ := fix_one
  have hl := hs.ok
  have h1 := hs.len
  have i1 := intR_s 1 (by decide) (by decide)
  have i0 := intR_s 0 (by decide) (by decide)
  refine calls Tryz.func28 rfl (by rfl) (by rfl) (by kernel_rfl) ?_
  simp -dsimp -implicitDefEqProofs [Tryz.f28]
  by_cases hlot : isLot l
  · refine eCall.of (chancesG_s l B' hs true (by simp [(isLot_iff hs).1 hlot])) (by simp) ?_
    simp -dsimp -implicitDefEqProofs
    refine eCall.of (signR_s t ht) (by simp) ?_
    have hc := cmpR_s t (frQ 1) ht o2
    rw [o1] at hc
    by_cases c1 : t.fix < 0
    · have hs : sgnQ t.fix < 0 := sgnQ_neg.2 c1
      have : r = (0, 40) := by
        rcases hr with h | h | h
        · exact absurd hlot h.1
        · exact h.2.2
        · exact absurd h.2.1 (Rat.not_le.2 c1)
      subst this
      simp -dsimp -implicitDefEqProofs [hs]
    · have hsg : ¬ sgnQ t.fix < 0 := mt sgnQ_neg.1 c1
      simp -dsimp -implicitDefEqProofs [hsg]
      refine eCall.of i1 (by simp) ?_
      simp -dsimp -implicitDefEqProofs
      refine eCall.of hc (by simp [frQ, ng]) ?_
      by_cases c2 : t.fix < 1
      · have hs2 : ¬ 0 ≤ cmpQ t.fix 1 := by have := cmpQ_neg.2 c2; omega
        have hr' : r = drawR (drawQ t.fix 0 0 (l.map FR.fix)) := by
          rcases hr with h | h | h
          · exact absurd hlot h.1
          · rcases h.2.1 with h | h
            · exact absurd h c1
            · exact absurd c2 (Rat.not_lt.2 h)
          · exact h.2.2.2
        obtain ⟨j, hj⟩ := drawQ_lot hs hlot (Rat.not_lt.1 c1) c2
        simp -dsimp -implicitDefEqProofs [hs2]
        refine eCall.of i0 (by simp) ?_
        simp -dsimp -implicitDefEqProofs
        refine sw_loop_e (fun p : {p : Nat × Rat // p.1 ≤ l.length ∧ drawQ t.fix 0 0 (l.map FR.fix) = drawQ t.fix p.2 p.1 ((l.map FR.fix).drop p.1) ∧ sz p.2 ≤ 4096} => SS.of [(0, .v (.one (frsS l))), (3, .v (.one (.mp 0 0))), (6, .v (.one (.mp 1 0))), (7, I .i64 p.1.1)] [(0, ⟨37, rowFr t⟩), (1, ⟨37, rowFr (frQ p.1.2)⟩)] 2)
          (fun p => l.length - p.1.1) ⟨(0, 0), Nat.zero_le _, by simp, sz_zero'⟩ (by kernel_rfl) (Le.to (by simp) (by simp [frQ, ng]) (by simp)) ?_
        rintro ⟨⟨i, S⟩, hi, hd, hS⟩
        simp only at hi hd hS
        by_cases a1 : i < l.length
        · have wi : IntKind.i64.wrap ((i : Int) + 1) = ((i + 1 : Nat) : Int) := by rw [wrap_i64 _ (by omega) (by omega)]; rfl
          have hok : l[i].ok := hl _ (List.getElem_mem a1)
          have ha := addR_s (frQ S) l[i] (frQ_ok (by omega)) hok
          rw [fix_frQ hS] at ha
          have hcap := sz_cap (S + l[i].fix)
          have hc2 := cmpR_s (frQ (cap (S + l[i].fix))) t (frQ_ok (by omega)) ht
          rw [fix_frQ hcap] at hc2
          rw [List.drop_eq_getElem_cons (by simpa using a1), List.getElem_map] at hd
          rw [drawQ_cons] at hd
          rw [← frS_frQ] at ha
          generalize cap (S + l[i].fix) = S2 at *
          simp -dsimp -implicitDefEqProofs [a1]
          refine eCall.of ha (by simp) ?_
          simp -dsimp -implicitDefEqProofs
          refine eCall.of hc2 (by simp) ?_
          by_cases c3 : t.fix < S2
          · have hs3 : 0 < cmpQ S2 t.fix := cmpQ_pos.2 c3
            rw [if_pos c3] at hd
            rw [hd] at hr'
            subst hr'
            simp -dsimp -implicitDefEqProofs [hs3, drawR]
          · have hs3 : ¬ 0 < cmpQ S2 t.fix := mt cmpQ_pos.1 c3
            rw [if_neg c3] at hd
            simp -dsimp -implicitDefEqProofs [hs3]
            exact Again.by ⟨(i + 1, S2), a1, hd, hcap⟩ (Le.to (by simp [wi]) (by simp) (by simp)) (by simp; omega)
        · have hi2 : i = l.length := by omega
          subst hi2
          rw [hj, List.drop_eq_nil_of_le (by simp)] at hd
          cases hd
      · have hs2 : 0 ≤ cmpQ t.fix 1 := by
          have := mt cmpQ_neg.1 c2; omega
        have : r = (0, 40) := by
          rcases hr with h | h | h
          · exact absurd hlot h.1
          · exact h.2.2
          · exact absurd h.2.2.1 c2
        subst this
        simp -dsimp -implicitDefEqProofs [hs2]
  · have : r = (0, 41) := by
      rcases hr with h | h | h
      · exact h.2
      · exact absurd h.1 hlot
      · exact absurd h.1 hlot
    subst this
    refine eCall.of (chancesG_s l B' hs false (by simp [mt (isLot_iff hs).2 hlot])) (by simp) ?_
    simp -dsimp -implicitDefEqProofs

theorem isDraw_of (l : List FR) (t : Rat) : ∃ r, isDraw l t r := by
  by_cases h1 : isLot l
  · by_cases h2 : t < 0
    · exact ⟨_, .inr (.inl ⟨h1, .inl h2, rfl⟩)⟩
    · by_cases h3 : t < 1
      · exact ⟨_, .inr (.inr ⟨h1, Rat.not_lt.1 h2, h3, rfl⟩)⟩
      · exact ⟨_, .inr (.inl ⟨h1, .inr (Rat.not_lt.1 h3), rfl⟩)⟩
  · exact ⟨_, .inl ⟨h1, rfl⟩⟩

set_option maxRecDepth 20000 in
theorem lawDraw_s (l : List FR) (t : FR) (hl : ∀ f ∈ l, f.ok) (h1 : l.length ≤ 140737488355328) (ht : t.ok) : CallsS Tryz.prog 5 [.one (frsS l), frS t] (B true) := by
  refine calls Tryz.func5 rfl (by rfl) (by rfl) (by kernel_rfl) ?_
  by_cases c1 : 100 < l.length
  · have c1' : (100 : Int) < (l.length : Int) := by omega
    simp -dsimp -implicitDefEqProofs [Tryz.f5, c1']
  have c1' : ¬ (100 : Int) < (l.length : Int) := by omega
  simp -dsimp -implicitDefEqProofs [Tryz.f5, c1']
  cases c2 : wideF 6 l with
  | true =>
    refine eCall.of (wideF_s l 6 hl h1 true c2.symm) (by simp) ?_
    simp -dsimp -implicitDefEqProofs
  | false =>
  refine eCall.of (wideF_s l 6 hl h1 false c2.symm) (by simp) ?_
  simp -dsimp -implicitDefEqProofs
  refine eCall.of (big_s t ht) (by simp) ?_
  by_cases c3 : (6 : Int) < (t.big : Int)
  · simp -dsimp -implicitDefEqProofs [c3]
  have hsm : Small l 6 := ⟨hl, fun q hq => by obtain ⟨f, hf, rfl⟩ := List.mem_map.1 hq; exact fixBig (hl f hf) (by omega) (by have := wideF_no c2 f hf; omega), by omega⟩
  obtain ⟨r, hr⟩ := isDraw_of l t.fix
  simp -dsimp -implicitDefEqProofs [c3]
  refine eCall.of (drawR_s l t 6 hsm ht r hr) (by simp) ?_
  simp -dsimp -implicitDefEqProofs
  refine eCall.of (draw_s l t hl ht (by omega) r hr) (by simp) ?_
  simp -dsimp -implicitDefEqProofs
  refine eCall.of fixed_s (by simp) ?_
  simp -dsimp -implicitDefEqProofs
end Go.Proofs.YtmgaoecfipkjbaaGreat.Sh

