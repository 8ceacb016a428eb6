/- A part of the proof: R69, R70, R91, R92, R99, R85, R93 -/
import Derived.Test.YtmgaoecfipkjbaaGreatL20
set_option linter.unusedSimpArgs false
set_option linter.unusedVariables false
set_option linter.unusedSectionVars false
/- Worth, of the program and of the reference. -/
namespace Go.Proofs.YtmgaoecfipkjbaaGreat.Sh
open Go Go.RowKit

def WOk (g : Gm) (r : List Ce) (a k : Int) (p : List Int) : Prop := Good g r ∧ isProf g p ∧ 0 ≤ a ∧ a < (g.agents.length : Int) ∧ 0 ≤ k ∧ k < (kl g a.toNat : Int)
def isWorth (g : Gm) (r : List Ce) (a k : Int) (p : List Int) (q : Rat) : Prop := (WOk g r a k p ∧ q = hasQ (ceAt r (whr g p).toNat) (kdAt g a.toNat k.toNat) a.toNat) ∨ (¬ WOk g r a k p ∧ q = 0)
theorem isWorth_of (g : Gm) (r : List Ce) (a k : Int) (p : List Int) : ∃ q, isWorth g r a k p q := by
  by_cases h : WOk g r a k p
  · exact ⟨_, .inl ⟨h, rfl⟩⟩
  · exact ⟨_, .inr ⟨h, rfl⟩⟩
theorem isWorth.no {g : Gm} {r : List Ce} {a k : Int} {p : List Int} {q : Rat} (h : isWorth g r a k p q) (hn : ¬ WOk g r a k p) : q = 0 := by
  rcases h with ⟨h, -⟩ | ⟨-, h⟩
  · exact absurd h hn
  · exact h
theorem isWorth.yes {g : Gm} {r : List Ce} {a k : Int} {p : List Int} {q : Rat} (h : isWorth g r a k p q) (hn : WOk g r a k p) : q = hasQ (ceAt r (whr g p).toNat) (kdAt g a.toNat k.toNat) a.toNat := by
  rcases h with ⟨-, h⟩ | ⟨h, -⟩
  · exact h
  · exact absurd hn h

/-- All that both functions ask, when there is a worth. -/
structure WAt (g : Gm) (r : List Ce) (a k : Int) (p : List Int) (n b j : Nat) : Prop where
  play : Play g r
  ea : a = (b : Int)
  ek : k = (j : Int)
  ew : whr g p = (n : Int)
  hb : b < g.agents.length
  hj : j < (g.agents[b]'hb).kinds.length
  hn : n < r.length

theorem WAt.of {g : Gm} {r : List Ce} {a k : Int} {p : List Int} (hs : Seen g r) (hf : far g = false) (h : WOk g r a k p) : ∃ n b j, WAt g r a k p n b j := by
  obtain ⟨h1, h2, h3, h4, h5, h6⟩ := h
  have hp : Play g r := ⟨hs, hf, h1⟩
  have hb : a.toNat < g.agents.length := by omega
  rw [kl_eq hb] at h6
  have hw := whrTo_le g.agents.length (Nat.le_refl _) h2.2
  rw [List.take_length] at hw
  have hrl := h1.2.2.1
  exact ⟨(whr g p).toNat, a.toNat, k.toNat, hp, by omega, by omega, by unfold whr at *; omega, hb, by omega, by unfold whr at *; omega⟩

theorem WAt.pair {g : Gm} {r : List Ce} {a k : Int} {p : List Int} {n b j : Nat} (h : WAt g r a k p n b j) : Pair (r[n]'h.hn) ((g.agents[b]'h.hb).kinds[j]'h.hj) b := Spot.pair ⟨h.play, h.hb, h.hn⟩ h.hn h.hj

set_option maxRecDepth 20000 in
set_option maxHeartbeats 1000000 in
theorem rworth_s (g : Gm) (r : List Ce) (hs : Seen g r) (hf : far g = false) (a k : Int) (p : List Int) (hl : p.length ≤ 140737488355328) (q : Rat) (hq : isWorth g r a k p q) :
    CallsS Tryz.prog 36 [gmS g, ruS r, .one (.int .i64 a), .one (.int .i64 k), .one (intsS p)] (.v (fS q)) := by
  obtain ⟨e, he⟩ := isIdx2_of g p
  have hid := sidx_s g r hs p hl e he
  refine calls Tryz.func36 rfl (by rfl) (by rfl) (by kernel_rfl) ?_
  by_cases hgd : Good g r
  · simp -dsimp -implicitDefEqProofs [Tryz.f36]
    refine eCall.of (open_s g r hs hgd) (by simp) ?_
    simp -dsimp -implicitDefEqProofs
    refine eCall.of hid (by simp) ?_
    have zero : ∀ {P : Prop}, ¬ WOk g r a k p → (q = 0 → P) → P := fun h k => k (hq.no h)
    by_cases hp : isProf g p
    · have e1 : e = whr g p := by
        rcases he with h | h
        · exact h.2.2
        · exact absurd ⟨⟨hgd.1, hgd.2.1⟩, hp⟩ h.1
      have hw := (whrTo_le g.agents.length (Nat.le_refl _) hp.2).1
      have e2 : ¬ e < 0 := by rw [e1]; unfold whr; omega
      by_cases c1 : a < 0
      · have q0 := hq.no (fun h => by have := h.2.2.1; omega)
        simp -dsimp -implicitDefEqProofs [e2, c1]
        refine eCall.of rzero_s (by simp) ?_
        simp -dsimp -implicitDefEqProofs [q0, frQ, ng]
      by_cases c2 : (g.agents.length : Int) ≤ a
      · have q0 := hq.no (fun h => by have := h.2.2.2.1; omega)
        simp -dsimp -implicitDefEqProofs [e2, c1, c2]
        refine eCall.of rzero_s (by simp) ?_
        simp -dsimp -implicitDefEqProofs [q0, frQ, ng]
      by_cases c3 : k < 0
      · have q0 := hq.no (fun h => by have := h.2.2.2.2.1; omega)
        simp -dsimp -implicitDefEqProofs [e2, c1, c2, c3]
        refine eCall.of rzero_s (by simp) ?_
        simp -dsimp -implicitDefEqProofs [q0, frQ, ng]
      obtain ⟨b, rfl⟩ : ∃ b : Nat, a = b := ⟨a.toNat, by omega⟩
      have hb : b < g.agents.length := by omega
      by_cases c4 : (g.agents[b].kinds.length : Int) ≤ k
      · have q0 := hq.no (fun h => by have := h.2.2.2.2.2; rw [Int.toNat_natCast, kl_eq hb] at this; omega)
        simp -dsimp -implicitDefEqProofs [e2, c1, c2, c3, c4, hb]
        refine eCall.of rzero_s (by simp) ?_
        simp -dsimp -implicitDefEqProofs [q0, frQ, ng]
      have hok : WOk g r b k p := ⟨hgd, hp, by omega, by omega, by omega, by rw [Int.toNat_natCast, kl_eq hb]; omega⟩
      have hq := hq.yes hok
      obtain ⟨n, b', j, hw⟩ := WAt.of hs hf hok
      obtain rfl : b = b' := by have := hw.ea; omega
      obtain rfl := hw.ek
      have hn := hw.hn
      have hj := hw.hj
      rw [hw.ew, Int.toNat_natCast, Int.toNat_natCast, Int.toNat_natCast, ceAt_eq hn, kdAt_eq hb hj] at hq
      rw [e1, hw.ew] at e2
      rw [e1, hw.ew]
      simp -dsimp -implicitDefEqProofs [e2, c1, c2, c3, c4, hb, hn]
      refine eCall.of (rhas_s g r r[n] b j hb hj hw.pair) (by simp) ?_
      simp -dsimp -implicitDefEqProofs [hq, frQ, ng]
    · have e1 : e = -1 := by
        rcases he with h | h
        · exact absurd h.2.1 hp
        · exact h.2
      have q0 := hq.no (fun h => hp h.2.1)
      subst e1
      simp -dsimp -implicitDefEqProofs
      refine eCall.of rzero_s (by simp) ?_
      simp -dsimp -implicitDefEqProofs [q0, frQ, ng]
  · have q0 := hq.no (fun h => hgd h.1)
    simp -dsimp -implicitDefEqProofs [Tryz.f36]
    refine eCall.of (openNo_s g r hs hgd) (by simp) ?_
    simp -dsimp -implicitDefEqProofs
    refine eCall.of hid (by simp) ?_
    simp -dsimp -implicitDefEqProofs
    refine eCall.of rzero_s (by simp) ?_
    simp -dsimp -implicitDefEqProofs [q0, frQ, ng]

set_option maxRecDepth 20000 in
set_option maxHeartbeats 1000000 in
theorem worthR_s (g : Gm) (r : List Ce) (hs : Seen g r) (hf : far g = false) (a k : Int) (p : List Int) (hl : p.length ≤ 140737488355328) (q : Rat) (hq : isWorth g r a k p q) :
    CallsS Tryz.prog 40 [gmS g, ruS r, .one (.int .i64 a), .one (.int .i64 k), .one (intsS p)] (.v (fS q)) := by
  obtain ⟨e, he⟩ := isIdx2_of g p
  have i0 := intR_s 0 (by decide) (by decide)
  obtain ⟨eg, hg1, hg2⟩ := isGood_of g r
  have hid := ridx_s g r hs p hl e he
  refine calls Tryz.func40 rfl (by rfl) (by rfl) (by kernel_rfl) ?_
  by_cases hgd : Good g r
  · simp -dsimp -implicitDefEqProofs [Tryz.f40]
    refine eCall.of hid (by simp) ?_
    simp -dsimp -implicitDefEqProofs
    obtain rfl : eg = 0 := hg2.2 hgd
    refine eCall.of (rightR4_s g r hs 0 hg1) (by simp) ?_
    have zero : ∀ {P : Prop}, ¬ WOk g r a k p → (q = 0 → P) → P := fun h k => k (hq.no h)
    by_cases hp : isProf g p
    · have e1 : e = whr g p := by
        rcases he with h | h
        · exact h.2.2
        · exact absurd ⟨⟨hgd.1, hgd.2.1⟩, hp⟩ h.1
      have hw := (whrTo_le g.agents.length (Nat.le_refl _) hp.2).1
      have e2 : ¬ e < 0 := by rw [e1]; unfold whr; omega
      by_cases c1 : a < 0
      · have q0 := hq.no (fun h => by have := h.2.2.1; omega)
        simp -dsimp -implicitDefEqProofs [e2, c1]
        refine eCall.of i0 (by simp) ?_
        simp -dsimp -implicitDefEqProofs [q0, frQ, ng]
      by_cases c2 : (g.agents.length : Int) ≤ a
      · have q0 := hq.no (fun h => by have := h.2.2.2.1; omega)
        simp -dsimp -implicitDefEqProofs [e2, c1, c2]
        refine eCall.of i0 (by simp) ?_
        simp -dsimp -implicitDefEqProofs [q0, frQ, ng]
      by_cases c3 : k < 0
      · have q0 := hq.no (fun h => by have := h.2.2.2.2.1; omega)
        simp -dsimp -implicitDefEqProofs [e2, c1, c2, c3]
        refine eCall.of i0 (by simp) ?_
        simp -dsimp -implicitDefEqProofs [q0, frQ, ng]
      obtain ⟨b, rfl⟩ : ∃ b : Nat, a = b := ⟨a.toNat, by omega⟩
      have hb : b < g.agents.length := by omega
      by_cases c4 : (g.agents[b].kinds.length : Int) ≤ k
      · have q0 := hq.no (fun h => by have := h.2.2.2.2.2; rw [Int.toNat_natCast, kl_eq hb] at this; omega)
        simp -dsimp -implicitDefEqProofs [e2, c1, c2, c3, c4, hb]
        refine eCall.of i0 (by simp) ?_
        simp -dsimp -implicitDefEqProofs [q0, frQ, ng]
      have hok : WOk g r b k p := ⟨hgd, hp, by omega, by omega, by omega, by rw [Int.toNat_natCast, kl_eq hb]; omega⟩
      have hq := hq.yes hok
      obtain ⟨n, b', j, hw⟩ := WAt.of hs hf hok
      obtain rfl : b = b' := by have := hw.ea; omega
      obtain rfl := hw.ek
      have hn := hw.hn
      have hj := hw.hj
      rw [hw.ew, Int.toNat_natCast, Int.toNat_natCast, Int.toNat_natCast, ceAt_eq hn, kdAt_eq hb hj] at hq
      rw [e1, hw.ew] at e2
      rw [e1, hw.ew]
      simp -dsimp -implicitDefEqProofs [e2, c1, c2, c3, c4, hb, hn]
      refine eCall.of (hasP_s g r b j n hb hj hn hw.pair) (by simp) ?_
      simp -dsimp -implicitDefEqProofs [hq, frQ, ng]
    · have e1 : e = -1 := by
        rcases he with h | h
        · exact absurd h.2.1 hp
        · exact h.2
      have q0 := hq.no (fun h => hp h.2.1)
      subst e1
      simp -dsimp -implicitDefEqProofs
      refine eCall.of i0 (by simp) ?_
      simp -dsimp -implicitDefEqProofs [q0, frQ, ng]
  · have q0 := hq.no (fun h => hgd h.1)
    simp -dsimp -implicitDefEqProofs [Tryz.f40]
    refine eCall.of hid (by simp) ?_
    simp -dsimp -implicitDefEqProofs
    refine eCall.of (rightR4_s g r hs eg hg1) (by simp) ?_
    have h0 : ¬ eg = 0 := fun h => hgd (hg2.1 h)
    simp -dsimp -implicitDefEqProofs [h0]
    refine eCall.of i0 (by simp) ?_
    simp -dsimp -implicitDefEqProofs [q0, frQ, ng]

set_option maxRecDepth 20000 in
theorem lawWorth_s (g : Gm) (r : List Ce) (hg : g.ok) (hl : lenOk r) (hr : ∀ c ∈ r, c.ok) (p : List Int) (hpl : p.length ≤ 140737488355328) (a k : Int) : CallsS Tryz.prog 8 [gmS g, ruS r, .agg [intsS p, .int .i64 a, .int .i64 k]] (B true) := by
  refine calls Tryz.func8 rfl (by rfl) (by rfl) (by kernel_rfl) ?_
  simp -dsimp -implicitDefEqProofs [Tryz.f8]
  refine eCall.of (bey4_s g r hg hl hr) (by simp) ?_
  cases h1 : far g with
  | true => simp -dsimp -implicitDefEqProofs
  | false =>
  cases h2 : beyondRule r with
  | true => simp -dsimp -implicitDefEqProofs
  | false =>
  have hs := seen_of hg hr h1 h2
  by_cases c1 : (100 : Int) < (p.length : Int)
  · simp -dsimp -implicitDefEqProofs [c1]
  obtain ⟨q, hq⟩ := isWorth_of g r a k p
  have hz : sz q ≤ 4096 := by
    by_cases hw : WOk g r a k p
    · obtain ⟨n, b, j, h⟩ := WAt.of hs h1 hw
      have e := hq.yes hw
      have hn := h.hn
      have hb := h.hb
      have hj := h.hj
      rw [h.ea, h.ek, h.ew, Int.toNat_natCast, Int.toNat_natCast, Int.toNat_natCast, ceAt_eq hn, kdAt_eq hb hj] at e
      have := h.pair.has
      rw [e]; exact (cap_mz (by omega)).2
    · rw [hq.no hw]; decide +kernel
  simp -dsimp -implicitDefEqProofs [c1]
  refine eCall.of (worthR_s g r hs h1 a k p hpl q hq) (by simp) ?_
  simp -dsimp -implicitDefEqProofs
  refine eCall.of (rworth_s g r hs h1 a k p hpl q hq) (by simp) ?_
  simp -dsimp -implicitDefEqProofs
  refine eCall.of (exact_s (frQ q) (frQ_ok (by omega))) (by simp [frQ, ng]) ?_
  simp -dsimp -implicitDefEqProofs
  refine eCall.of fixed_s (by simp) ?_
  simp -dsimp -implicitDefEqProofs
end Go.Proofs.YtmgaoecfipkjbaaGreat.Sh

/- Profiles and their places; the walk of RuleLie. -/
namespace Go.Proofs.YtmgaoecfipkjbaaGreat.Sh
open Go Go.RowKit

theorem at_whrTo {g : Gm} {p : List Int} (hp : isProf g p) : ∀ j, j ≤ g.agents.length → atR ((szs g).take j).reverse (whrTo g p j).toNat = p.take j
  | 0, _ => rfl
  | j + 1, hj => by
    have a1 : j < g.agents.length := hj
    obtain ⟨A, x, e1, e2, e3, e4⟩ := hp.2 j a1
    rw [List.getElem?_eq_getElem a1] at e1
    obtain rfl := Option.some.inj e1
    have hrev : ((szs g).take (j + 1)).reverse = g.agents[j].kinds.length :: ((szs g).take j).reverse := by
      rw [takeSnoc (szs g) j (by simp [szs]; omega), List.reverse_append]; simp [szs]
    have hw := (whrTo_le (g := g) (p := p) j (by omega) (fun i hi => hp.2 i (by omega))).1
    have ih := at_whrTo hp j (by omega)
    rw [hrev, atR, whrTo_step (List.getElem?_eq_getElem a1) e2]
    obtain ⟨W, hW⟩ : ∃ W : Nat, whrTo g p j = W := ⟨_, (Int.toNat_of_nonneg hw).symm⟩
    obtain ⟨X, rfl⟩ : ∃ X : Nat, x = X := ⟨_, (Int.toNat_of_nonneg e3).symm⟩
    have e4 : X < g.agents[j].kinds.length := by omega
    rw [hW] at ih ⊢
    rw [Int.toNat_natCast] at ih
    have e5 : ((W : Int) * (g.agents[j].kinds.length : Int) + (X : Int)).toNat = W * g.agents[j].kinds.length + X := by
      rw [← Int.natCast_mul, ← Int.natCast_add, Int.toNat_natCast]
    rw [e5, Nat.mul_comm, Nat.mul_add_div (by omega), Nat.div_eq_of_lt e4, Nat.add_zero, Nat.mul_add_mod, Nat.mod_eq_of_lt e4, ih, List.take_add_one, e2]
    rfl
theorem at_whr {g : Gm} {p : List Int} (hp : isProf g p) : atG g (whr g p).toNat = p := by
  have := at_whrTo hp g.agents.length (Nat.le_refl _)
  rw [List.take_of_length_le (by simp [szs]), ← hp.1, List.take_length] at this
  unfold atG whr
  rw [← hp.1]; exact this

theorem Spot.wok {g : Gm} {r : List Ce} {a n : Nat} (h : Spot g r a n) {p : List Int} (hp : isProf g p) : WOk g r a (kOf g n a) p := by
  obtain ⟨k1, k2⟩ := h.kof
  have := h.ha
  exact ⟨h.play.good, hp, by omega, by omega, by omega, by rw [Int.toNat_natCast, kl_eq h.ha]; omega⟩
theorem Spot.here {g : Gm} {r : List Ce} {a n : Nat} (h : Spot g r a n) {q : Rat} (hq : isWorth g r a (kOf g n a) (atG g n) q) : q = hasQ (ceAt r n) (kdAt g a (kOf g n a)) a := by
  have := h.hn
  have := h.play.good.2.2.1
  have e := hq.yes (h.wok h.prof)
  rw [whr_at (by omega)] at e
  simpa using e
theorem Spot.there {g : Gm} {r : List Ce} {a n t : Nat} (h : Spot g r a n) (ht : t < (g.agents[a]'h.ha).kinds.length) {q : Rat} (hq : isWorth g r a (kOf g n a) (putP (atG g n) a t) q) : q = hasQ (ceAt r (Sh.toAt g n a t)) (kdAt g a (kOf g n a)) a := by
  have e := hq.yes (h.wok (h.put ht))
  rw [(h.toAt ht).1] at e
  simpa using e
theorem worth_sz {g : Gm} {r : List Ce} (hs : Seen g r) (h1 : far g = false) {a k : Int} {p : List Int} {q : Rat} (hq : isWorth g r a k p q) : mz q ≤ 222 := by
  by_cases hw : WOk g r a k p
  · obtain ⟨n, b, j, h⟩ := WAt.of hs h1 hw
    have e := hq.yes hw
    have hn := h.hn
    have hb := h.hb
    have hj := h.hj
    rw [h.ea, h.ek, h.ew, Int.toNat_natCast, Int.toNat_natCast, Int.toNat_natCast, ceAt_eq hn, kdAt_eq hb hj] at e
    rw [e]; exact h.pair.has
  · rw [hq.no hw]; decide +kernel

set_option maxRecDepth 20000 in
set_option maxHeartbeats 2000000 in
theorem lawLie_s (g : Gm) (r : List Ce) (hg : g.ok) (hl : lenOk r) (hr : ∀ c ∈ r, c.ok) (p : List Int) (hpl : p.length ≤ 140737488355328) (a k : Int) : CallsS Tryz.prog 7 [gmS g, ruS r, .agg [intsS p, .int .i64 a, .int .i64 k]] (B true) := by
  refine calls Tryz.func7 rfl (by rfl) (by rfl) (by kernel_rfl) ?_
  simp -dsimp -implicitDefEqProofs [Tryz.f7]
  refine eCall.of (bey4_s g r hg hl hr) (by simp) ?_
  cases h1 : far g with
  | true => simp -dsimp -implicitDefEqProofs
  | false =>
  cases h2 : beyondRule r with
  | true => simp -dsimp -implicitDefEqProofs
  | false =>
  have hs := seen_of hg hr h1 h2
  by_cases c1 : (100 : Int) < (p.length : Int)
  · simp -dsimp -implicitDefEqProofs [c1]
  simp -dsimp -implicitDefEqProofs [c1]
  obtain ⟨eg, hg1, hg2⟩ := isGood_of g r
  by_cases hgd : Good g r
  · have hp : Play g r := ⟨hs, h1, hgd⟩
    obtain rfl : eg = 0 := hg2.2 hgd
    obtain ⟨l, ok, htr⟩ := isTr_of (g := g) (r := r)
    refine eCall.of (rtruth_s g r hp l ok htr) (by simp) ?_
    simp -dsimp -implicitDefEqProofs
    refine eCall.of (rightR4_s g r hs 0 hg1) (by simp) ?_
    have hsz := (sizeOk_all hp.fine.sz).1
    rcases htr with ⟨b, n, t, hf, rfl, rfl⟩ | ⟨hno, rfl, rfl⟩
    · have hsp : Spot g r b n := ⟨hp, hf.ha, hf.hn⟩
      have ht := hf.ht
      rw [kl_eq hf.ha] at ht
      obtain ⟨q1, hq1⟩ := isWorth_of g r b (kOf g n b) (atG g n)
      obtain ⟨q2, hq2⟩ := isWorth_of g r b (kOf g n b) (putP (atG g n) b t)
      have z1 := worth_sz hs h1 hq1
      have z2 := worth_sz hs h1 hq2
      obtain ⟨-, z1'⟩ := cap_mz (show mz q1 ≤ 2048 by omega)
      obtain ⟨-, z2'⟩ := cap_mz (show mz q2 ≤ 2048 by omega)
      have hg12 : q2 - q1 = gainQ g r b n t := by rw [hsp.here hq1, hsp.there ht hq2]; rfl
      have hpos : q1 < q2 := by have := hf.pos; grind
      have gz := hsp.gain_mz ht
      obtain ⟨gc, gz'⟩ := cap_mz (show mz (gainQ g r b n t) ≤ 2048 by omega)
      have hal := atG_length g n
      have hb := hf.ha
      obtain ⟨k1, k2⟩ := hsp.kof
      have al : b < (atG g n).length := by omega
      have k1' : (atG g n)[b] = (kOf g n b : Int) := by rw [List.getElem?_eq_getElem al] at k1; exact Option.some.inj k1
      have hid := ridx_s g r hs (atG g n) (by omega) (whr g (atG g n)) (.inl ⟨⟨hgd.1, hgd.2.1⟩, hsp.prof, rfl⟩)
      have hw0 := (whrTo_le (g := g) g.agents.length (Nat.le_refl _) hsp.prof.2).1
      have hw0 : ¬ whr g (atG g n) < 0 := by unfold whr; omega
      have hcm := cmpR_s (frQ q2) (frQ q1) (frQ_ok (by omega)) (frQ_ok (by omega))
      have hsb := subR_s (frQ q2) (frQ q1) (frQ_ok (by omega)) (frQ_ok (by omega))
      rw [fix_frQ z1', fix_frQ z2'] at hcm hsb
      rw [hg12, gc] at hsb
      have hsa := sameR_s (frQ (gainQ g r b n t)) (frQ (gainQ g r b n t)) (frQ_ok (by omega)) (frQ_ok (by omega))
      have hc0 := cmpQ_pos.2 hpos
      simp -dsimp -implicitDefEqProofs [lieAt]
      refine eCall.of (rworth_s g r hs h1 b (kOf g n b) (atG g n) (by omega) q1 hq1) (by simp) ?_
      simp -dsimp -implicitDefEqProofs
      refine eCall.of (putR_s (atG g n) b t (by omega)) (by simp) ?_
      simp -dsimp -implicitDefEqProofs
      refine eCall.of (rworth_s g r hs h1 b (kOf g n b) (putP (atG g n) b t) (by rw [putp_length]; omega) q2 hq2) (by simp) ?_
      simp -dsimp -implicitDefEqProofs
      refine eCall.of hid (by simp) ?_
      simp -dsimp -implicitDefEqProofs [hw0, hb, al, k1']
      refine eCall.of hcm (by simp [frQ, ng]) ?_
      simp -dsimp -implicitDefEqProofs [hc0]
      refine eCall.of hsb (by simp [frQ, ng]) ?_
      simp -dsimp -implicitDefEqProofs
      refine eCall.of hsa (by simp [frQ, ng]) ?_
      simp -dsimp -implicitDefEqProofs
      refine eCall.of fixed_s (by simp) ?_
      simp -dsimp -implicitDefEqProofs
    · obtain ⟨e, he⟩ := isIdx2_of g p
      have hid := ridx_s g r hs p hpl e he
      simp -dsimp -implicitDefEqProofs [noLi]
      refine eCall.of hid (by simp) ?_
      by_cases hpf : isProf g p
      · have e1 : e = whr g p := by
          rcases he with h | h
          · exact h.2.2
          · exact absurd ⟨⟨hgd.1, hgd.2.1⟩, hpf⟩ h.1
        have hw0 := (whrTo_le g.agents.length (Nat.le_refl _) hpf.2).1
        have e2 : ¬ e < 0 := by rw [e1]; unfold whr; omega
        by_cases c2 : a < 0
        · simp -dsimp -implicitDefEqProofs [e2, c2]
          refine eCall.of fixed_s (by simp) ?_
          simp -dsimp -implicitDefEqProofs
        by_cases c3 : (g.agents.length : Int) ≤ a
        · simp -dsimp -implicitDefEqProofs [e2, c2, c3]
          refine eCall.of fixed_s (by simp) ?_
          simp -dsimp -implicitDefEqProofs
        by_cases c4 : k < 0
        · simp -dsimp -implicitDefEqProofs [e2, c2, c3, c4]
          refine eCall.of fixed_s (by simp) ?_
          simp -dsimp -implicitDefEqProofs
        obtain ⟨b, rfl⟩ : ∃ b : Nat, a = b := ⟨a.toNat, by omega⟩
        obtain ⟨t, rfl⟩ : ∃ t : Nat, k = t := ⟨k.toNat, by omega⟩
        have hb : b < g.agents.length := by omega
        have c3' : ¬ g.agents.length ≤ b := by omega
        by_cases c5 : (g.agents[b].kinds.length : Int) ≤ (t : Int)
        · have c5' : g.agents[b].kinds.length ≤ t := by omega
          simp -dsimp -implicitDefEqProofs [e2, c2, c3, c3', c4, hb, c5']
          refine eCall.of fixed_s (by simp) ?_
          simp -dsimp -implicitDefEqProofs
        have ht : t < g.agents[b].kinds.length := by omega
        have c5' : ¬ g.agents[b].kinds.length ≤ t := by omega
        have hatp := at_whr hpf
        have hwl := (whrTo_le g.agents.length (Nat.le_refl _) hpf.2).2
        rw [List.take_length] at hwl
        have hrl := hgd.2.2.1
        generalize hn0 : (whr g p).toNat = n at hatp
        have hn : n < r.length := by unfold whr at hn0; omega
        have hsp : Spot g r b n := ⟨hp, hb, hn⟩
        subst hatp
        obtain ⟨k1, k2⟩ := hsp.kof
        have hal := atG_length g n
        have al : b < (atG g n).length := by omega
        have k1' : (atG g n)[b] = (kOf g n b : Int) := by rw [List.getElem?_eq_getElem al] at k1; exact Option.some.inj k1
        obtain ⟨q1, hq1⟩ := isWorth_of g r b (kOf g n b) (atG g n)
        obtain ⟨q2, hq2⟩ := isWorth_of g r b (kOf g n b) (putP (atG g n) b t)
        have z1 := worth_sz hs h1 hq1
        have z2 := worth_sz hs h1 hq2
        obtain ⟨-, z1'⟩ := cap_mz (show mz q1 ≤ 2048 by omega)
        obtain ⟨-, z2'⟩ := cap_mz (show mz q2 ≤ 2048 by omega)
        have hg12 : q2 - q1 = gainQ g r b n t := by rw [hsp.here hq1, hsp.there ht hq2]; rfl
        have hneg : ¬ q1 < q2 := by
          have := hno b hb n hn t (by rw [kl_eq hb]; exact ht)
          grind
        have hcm := cmpR_s (frQ q2) (frQ q1) (frQ_ok (by omega)) (frQ_ok (by omega))
        rw [fix_frQ z1', fix_frQ z2'] at hcm
        have hc0 : cmpQ q2 q1 ≤ 0 := Int.not_lt.1 (mt cmpQ_pos.1 hneg)
        simp -dsimp -implicitDefEqProofs [e2, c2, c3, c3', c4, hb, c5', al, k1']
        refine eCall.of (rworth_s g r hs h1 b (kOf g n b) (atG g n) (by omega) q1 hq1) (by simp) ?_
        simp -dsimp -implicitDefEqProofs [al, k1']
        refine eCall.of (putR_s (atG g n) b t (by omega)) (by simp) ?_
        simp -dsimp -implicitDefEqProofs
        refine eCall.of (rworth_s g r hs h1 b (kOf g n b) (putP (atG g n) b t) (by rw [putp_length]; omega) q2 hq2) (by simp) ?_
        simp -dsimp -implicitDefEqProofs
        refine eCall.of hcm (by simp [frQ, ng]) ?_
        simp -dsimp -implicitDefEqProofs [hc0]
        refine eCall.of fixed_s (by simp) ?_
        simp -dsimp -implicitDefEqProofs
      · have e1 : e = -1 := by
          rcases he with h | h
          · exact absurd h.2.1 hpf
          · exact h.2
        subst e1
        simp -dsimp -implicitDefEqProofs
        refine eCall.of fixed_s (by simp) ?_
        simp -dsimp -implicitDefEqProofs
  · have h0 : ¬ eg = 0 := fun h => hgd (hg2.1 h)
    refine eCall.of (rtruthNo_s g r hs hgd) (by simp) ?_
    simp -dsimp -implicitDefEqProofs
    refine eCall.of (rightR4_s g r hs eg hg1) (by simp) ?_
    simp -dsimp -implicitDefEqProofs [h0]
    refine eCall.of fixed_s (by simp) ?_
    simp -dsimp -implicitDefEqProofs
end Go.Proofs.YtmgaoecfipkjbaaGreat.Sh

/- Fractions over one denominator: how great a sum can grow. No program in sight. -/
namespace Go.Proofs.YtmgaoecfipkjbaaGreat.Sh
open Go Go.RowKit

/-- A fraction over a denominator, of not too great a value. -/
def Over (D M : Nat) (q : Rat) : Prop := ∃ z : Int, q = mkRat z D ∧ z.natAbs ≤ M * D
theorem Over.base {q : Rat} {M : Nat} (h : q.num.natAbs ≤ M) : Over q.den M q :=
  ⟨q.num, (Rat.mkRat_self q).symm, Nat.le_trans h (Nat.le_mul_of_pos_right _ q.den_pos)⟩
theorem Over.zero (D M : Nat) : Over D M 0 := ⟨0, (Rat.zero_mkRat D).symm, Nat.zero_le _⟩
theorem Over.up {D E M M' : Nat} {q : Rat} (h : Over D M q) (hd : D ∣ E) (hE : E ≠ 0) (hm : M ≤ M') : Over E M' q := by
  obtain ⟨z, rfl, hz⟩ := h
  obtain ⟨k, rfl⟩ := hd
  have hk : k ≠ 0 := fun e => hE (by rw [e, Nat.mul_zero])
  refine ⟨z * k, (Rat.mkRat_mul_right hk).symm, ?_⟩
  rw [Int.natAbs_mul, Int.natAbs_natCast, ← Nat.mul_assoc]
  exact Nat.mul_le_mul_right _ (Nat.le_trans hz (Nat.mul_le_mul_right _ hm))
theorem Over.add {D M M' : Nat} {p q : Rat} (hD : D ≠ 0) (h : Over D M p) (h' : Over D M' q) : Over D (M + M') (p + q) := by
  obtain ⟨z, rfl, hz⟩ := h
  obtain ⟨y, rfl, hy⟩ := h'
  refine ⟨z + y, ?_, ?_⟩
  · rw [Rat.mkRat_add_mkRat _ _ hD hD, ← Int.add_mul, Rat.mkRat_mul_right hD]
  · have := Int.natAbs_add_le z y
    rw [Nat.add_mul]; omega
theorem Over.mul {D E M M' : Nat} {p q : Rat} (h : Over D M p) (h' : Over E M' q) : Over (D * E) (M * M') (p * q) := by
  obtain ⟨z, rfl, hz⟩ := h
  obtain ⟨y, rfl, hy⟩ := h'
  refine ⟨z * y, Rat.mkRat_mul_mkRat _ _ _ _, ?_⟩
  rw [Int.natAbs_mul, show M * M' * (D * E) = M * D * (M' * E) by rw [Nat.mul_mul_mul_comm]]
  exact Nat.mul_le_mul hz hy
theorem Over.cap {D M : Nat} {q : Rat} (h : Over D M q) : Over D M (Sh.cap q) := by
  unfold Sh.cap; split
  · exact Over.zero D M
  · exact h
theorem Over.sz {D M : Nat} {q : Rat} (hD : D ≠ 0) (h : Over D M q) : Sh.sz q ≤ 2 * (wl M + wl D) := by
  obtain ⟨z, rfl, hz⟩ := h
  have h1 := mz_mkRat z D hD
  have h2 := wl_mono hz
  have h3 := wl_mul M D
  have := (sz_mz (mkRat z D)).1
  omega
theorem Over.sum {D M : Nat} (hD : D ≠ 0) : ∀ {l : List Rat}, (∀ q ∈ l, Over D M q) → Over D (l.length * M) (sumQ l)
  | [], _ => Over.zero _ _
  | q :: l, h => by
    have h1 := h q (List.mem_cons_self ..)
    have h2 := Over.sum hD (fun x hx => h x (List.mem_cons_of_mem _ hx))
    have := h1.add hD h2
    rw [show M + l.length * M = (q :: l).length * M by rw [List.length_cons, Nat.add_mul]; omega] at this
    exact this

/-- A product of many. -/
def pr : List Nat → Nat
  | [] => 1
  | n :: l => n * pr l
theorem pr_dvd : ∀ {l : List Nat} {n : Nat}, n ∈ l → n ∣ pr l
  | m :: l, n, h => by
    rcases List.mem_cons.1 h with rfl | h
    · exact Nat.dvd_mul_right _ _
    · exact Nat.dvd_trans (pr_dvd h) (Nat.dvd_mul_left _ _)
theorem pr_ne : ∀ {l : List Nat}, (∀ n ∈ l, n ≠ 0) → pr l ≠ 0
  | [], _ => Nat.one_ne_zero
  | n :: l, h => Nat.mul_ne_zero (h n (List.mem_cons_self ..)) (pr_ne fun x hx => h x (List.mem_cons_of_mem _ hx))
theorem pr_snoc (n : Nat) : ∀ l : List Nat, pr (l ++ [n]) = pr l * n
  | [] => by show n * 1 = 1 * n; omega
  | m :: l => by rw [List.cons_append, pr, pr, pr_snoc n l, Nat.mul_assoc]
theorem pr_wl {b : Nat} : ∀ {l : List Nat}, (∀ n ∈ l, wl n ≤ b) → wl (pr l) ≤ l.length * b + 1
  | [], _ => by rw [pr, wl_one]; omega
  | n :: l, h => by
    have h1 := h n (List.mem_cons_self ..)
    have h2 := pr_wl (l := l) fun x hx => h x (List.mem_cons_of_mem _ hx)
    have h3 := wl_mul n (pr l)
    rw [pr, List.length_cons, Nat.add_mul]; omega
def dens (l : List FR) : Nat := pr (l.map fun f => f.fix.den)
theorem dens_ne (l : List FR) : dens l ≠ 0 := pr_ne fun n hn => by
  obtain ⟨f, -, rfl⟩ := List.mem_map.1 hn
  exact f.fix.den_nz
theorem dens_dvd {l : List FR} {f : FR} (h : f ∈ l) : f.fix.den ∣ dens l := pr_dvd (List.mem_map.2 ⟨f, h, rfl⟩)
theorem dens_wl {l : List FR} {b : Nat} (h : ∀ f ∈ l, mz f.fix ≤ b) : wl (dens l) ≤ l.length * b + 1 := by
  have := pr_wl (b := b) (l := l.map fun f => f.fix.den) fun n hn => by
    obtain ⟨f, hf, rfl⟩ := List.mem_map.1 hn
    have := h f hf
    unfold mz at this; omega
  rwa [List.length_map] at this
/-- A word's first number too great. -/
def W : Nat := 4294967296
theorem num_le {q : Rat} {b : Nat} (h : mz q ≤ b) : q.num.natAbs ≤ W ^ b := by
  have h1 := toW_lt q.num.natAbs
  have h2 : wl q.num.natAbs ≤ b := by unfold mz at h; omega
  exact Nat.le_of_lt (Nat.lt_of_lt_of_le h1 (Nat.pow_le_pow_right (by decide) h2))
theorem fix_over {f : FR} {b D : Nat} (h : mz f.fix ≤ b) (hd : f.fix.den ∣ D) (hD : D ≠ 0) : Over D (W ^ b) f.fix := (Over.base (num_le h)).up hd hD (Nat.le_refl _)
end Go.Proofs.YtmgaoecfipkjbaaGreat.Sh

/- The aim's sum: nothing of it is too great to be told. No program in sight. -/
namespace Go.Proofs.YtmgaoecfipkjbaaGreat.Sh
open Go Go.RowKit

def WG (g : Gm) (i : Nat) : Nat := pr ((g.agents.take i).map fun A => dens (A.kinds.map Kd.weight))
def VG (g : Gm) : Nat := pr (g.agents.map fun A => pr (A.kinds.map fun K => dens K.worth))
def LR (r : List Ce) : Nat := pr (r.map fun c => dens c.lot)
def PR (r : List Ce) : Nat := pr (r.map fun c => dens c.pay)
theorem WG_ne (g : Gm) (i : Nat) : WG g i ≠ 0 := pr_ne fun n hn => by
  obtain ⟨A, -, rfl⟩ := List.mem_map.1 hn
  exact dens_ne _
theorem VG_ne (g : Gm) : VG g ≠ 0 := pr_ne fun n hn => by
  obtain ⟨A, -, rfl⟩ := List.mem_map.1 hn
  exact pr_ne fun n hn => by
    obtain ⟨K, -, rfl⟩ := List.mem_map.1 hn
    exact dens_ne _
theorem LR_ne (r : List Ce) : LR r ≠ 0 := pr_ne fun n hn => by
  obtain ⟨c, -, rfl⟩ := List.mem_map.1 hn
  exact dens_ne _
theorem PR_ne (r : List Ce) : PR r ≠ 0 := pr_ne fun n hn => by
  obtain ⟨c, -, rfl⟩ := List.mem_map.1 hn
  exact dens_ne _
theorem mul_le' {a b c d : Nat} (h : a ≤ b) (h' : c ≤ d) : a * c ≤ b * d := Nat.mul_le_mul h h'

section
variable {g : Gm} {r : List Ce} (h : Play g r)
include h
theorem WG_wl (i : Nat) : wl (WG g i) ≤ 53 := by
  have hs := sizeOk_all h.fine.sz
  have := pr_wl (b := 13) (l := (g.agents.take i).map fun A => dens (A.kinds.map Kd.weight)) fun n hn => by
    obtain ⟨A, hA, rfl⟩ := List.mem_map.1 hn
    have hA := List.mem_of_mem_take hA
    have := dens_wl (b := 3) (l := A.kinds.map Kd.weight) fun f hf => by
      obtain ⟨K, hK, rfl⟩ := List.mem_map.1 hf
      exact (h.kd hA hK).1.w
    have hk := hs.2.2.2.1 A hA
    rw [List.length_map] at this
    omega
  rw [List.length_map, List.length_take] at this
  have := hs.1
  unfold WG
  omega
theorem VG_wl : wl (VG g) ≤ 309 := by
  have hs := sizeOk_all h.fine.sz
  have := pr_wl (b := 77) (l := g.agents.map fun A => pr (A.kinds.map fun K => dens K.worth)) fun n hn => by
    obtain ⟨A, hA, rfl⟩ := List.mem_map.1 hn
    have := pr_wl (b := 19) (l := A.kinds.map fun K => dens K.worth) fun n hn => by
      obtain ⟨K, hK, rfl⟩ := List.mem_map.1 hn
      obtain ⟨k1, k2⟩ := h.kd hA hK
      have := dens_wl (b := 3) (l := K.worth) k1.wo
      have := hs.2.1
      omega
    have hk := hs.2.2.2.1 A hA
    rw [List.length_map] at this
    omega
  rw [List.length_map] at this
  have := hs.1
  unfold VG
  omega
theorem LR_wl (six : ∀ c ∈ r, CeSix c) : wl (LR r) ≤ 593 := by
  have hs := sizeOk_all h.fine.sz
  have := pr_wl (b := 37) (l := r.map fun c => dens c.lot) fun n hn => by
    obtain ⟨c, hc, rfl⟩ := List.mem_map.1 hn
    obtain ⟨c1, c2, c3⟩ := h.ce hc
    have := dens_wl (b := 6) (l := c.lot) fun f hf => (six c hc).lot f hf
    have := hs.2.1
    omega
  rw [List.length_map] at this
  have := h.good.2.2.1
  have := hs.2.2.2.2
  unfold LR
  omega
theorem PR_wl (six : ∀ c ∈ r, CeSix c) : wl (PR r) ≤ 401 := by
  have hs := sizeOk_all h.fine.sz
  have := pr_wl (b := 25) (l := r.map fun c => dens c.pay) fun n hn => by
    obtain ⟨c, hc, rfl⟩ := List.mem_map.1 hn
    obtain ⟨c1, c2, c3⟩ := h.ce hc
    have := dens_wl (b := 6) (l := c.pay) fun f hf => (six c hc).pay f hf
    have := hs.1
    omega
  rw [List.length_map] at this
  have := h.good.2.2.1
  have := hs.2.2.2.2
  unfold PR
  omega

theorem wgt_over {n : Nat} (hn : n < r.length) : ∀ i, i ≤ g.agents.length → Over (WG g i) (W ^ (3 * i)) (wgtTo g n i)
  | 0, _ => by
    have : Over (1 : Rat).den 1 1 := Over.base (by decide)
    exact this
  | i + 1, hi => by
    have hs : Spot g r i n := ⟨h, hi, hn⟩
    obtain ⟨k1, k2⟩ := hs.kof
    have hA : i < g.agents.length := hi
    have hw := (h.kd (List.getElem_mem hs.ha) (List.getElem_mem k2)).1.w
    have ih := wgt_over hn i (by omega)
    have hm : (g.agents[i].kinds[kOf g n i]).weight ∈ g.agents[i].kinds.map Kd.weight := List.mem_map.2 ⟨_, List.getElem_mem k2, rfl⟩
    have h1 := ih.mul (fix_over hw (dens_dvd hm) (dens_ne _))
    rw [wgtTo, kdAt_eq hs.ha k2]
    have e : WG g (i + 1) = WG g i * dens (g.agents[i].kinds.map Kd.weight) := by
      unfold WG; rw [takeSnoc _ i hA, List.map_append]; exact pr_snoc _ _
    rw [e, show 3 * (i + 1) = 3 * i + 3 by omega, Nat.pow_add]
    exact h1
theorem dot_over (six : ∀ c ∈ r, CeSix c) {a n : Nat} (ha : a < g.agents.length) (hn : n < r.length) : Over (dens (ceAt r n).lot * VG g) (6 * (W ^ 6 * W ^ 3)) (sumQ (dotL (ceAt r n).lot (kdAt g a (kOf g n a)).worth)) := by
  have hs : Spot g r a n := ⟨h, ha, hn⟩
  obtain ⟨k1, k2⟩ := hs.kof
  have hP := hs.pair hn k2
  rw [ceAt_eq hn, kdAt_eq ha k2]
  have hV : ∀ f ∈ (g.agents[a].kinds[kOf g n a]).worth, f.fix.den ∣ VG g := fun f hf =>
    Nat.dvd_trans (dens_dvd hf) (Nat.dvd_trans (pr_dvd (List.mem_map.2 ⟨_, List.getElem_mem k2, rfl⟩)) (pr_dvd (List.mem_map.2 ⟨_, List.getElem_mem ha, rfl⟩)))
  have hne : dens r[n].lot * VG g ≠ 0 := Nat.mul_ne_zero (dens_ne _) (VG_ne g)
  have h1 := Over.sum hne (M := W ^ 6 * W ^ 3) (l := dotL r[n].lot (g.agents[a].kinds[kOf g n a]).worth) fun q hq => by
    unfold dotL at hq
    obtain ⟨i, hi, rfl⟩ := List.getElem_of_mem hq
    rw [List.getElem_zipWith]
    have i1 : i < r[n].lot.length := by simp at hi; omega
    have i2 : i < (g.agents[a].kinds[kOf g n a]).worth.length := by simp at hi; omega
    have e1 := (six _ (List.getElem_mem hn)).lot _ (List.getElem_mem i1)
    have e2 := hP.kf.wo _ (List.getElem_mem i2)
    exact (fix_over e1 (dens_dvd (List.getElem_mem i1)) (dens_ne _)).mul (fix_over e2 (hV _ (List.getElem_mem i2)) (VG_ne g))
  exact h1.up (Nat.dvd_refl _) hne (Nat.mul_le_mul_right _ hP.dot.2.1)
theorem tot_over (six : ∀ c ∈ r, CeSix c) {n : Nat} (hn : n < r.length) : ∀ i, i ≤ g.agents.length → Over (dens (ceAt r n).lot * VG g) (i * (6 * (W ^ 6 * W ^ 3))) (totTo g r n i)
  | 0, _ => by rw [totTo]; exact Over.zero _ _
  | i + 1, hi => by
    have hne : dens (ceAt r n).lot * VG g ≠ 0 := Nat.mul_ne_zero (dens_ne _) (VG_ne g)
    have := ((tot_over six hn i (by omega)).add hne (dot_over h six hi hn).cap).cap
    rw [totTo, Nat.add_mul, Nat.one_mul]
    exact this
theorem paid_over (six : ∀ c ∈ r, CeSix c) {n : Nat} (hn : n < r.length) : Over (dens (ceAt r n).pay) (4 * W ^ 6) (paidQ (ceAt r n)) := by
  obtain ⟨c1, c2, c3⟩ := h.ce (List.getElem_mem hn)
  rw [ceAt_eq hn]
  unfold paidQ
  have h1 := Over.sum (dens_ne r[n].pay) (M := W ^ 6) (l := r[n].pay.map FR.fix) fun q hq => by
    obtain ⟨f, hf, rfl⟩ := List.mem_map.1 hq
    exact fix_over ((six _ (List.getElem_mem hn)).pay f hf) (dens_dvd hf) (dens_ne _)
  rw [List.length_map] at h1
  have := (sizeOk_all h.fine.sz).1
  exact (h1.up (Nat.dvd_refl _) (dens_ne _) (Nat.mul_le_mul_right _ (by omega))).cap
end

/-- What a place adds to the aim. -/
def addX (g : Gm) (r : List Ce) (n : Nat) : Rat := cap (wgt g n * partQ g r n)
def DA (g : Gm) (r : List Ce) : Nat := if g.aim = 1 then WG g g.agents.length * (LR r * VG g) else WG g g.agents.length * PR r
theorem DA_ne (g : Gm) (r : List Ce) : DA g r ≠ 0 := by
  unfold DA; split
  · exact Nat.mul_ne_zero (WG_ne g _) (Nat.mul_ne_zero (LR_ne r) (VG_ne g))
  · exact Nat.mul_ne_zero (WG_ne g _) (PR_ne r)
theorem DA_wl {g : Gm} {r : List Ce} (h : Play g r) (six : ∀ c ∈ r, CeSix c) : wl (DA g r) ≤ 955 := by
  have h1 := WG_wl h g.agents.length
  have h2 := VG_wl h
  have h3 := LR_wl h six
  have h4 := PR_wl h six
  unfold DA; split
  · have := wl_mul (WG g g.agents.length) (LR r * VG g)
    have := wl_mul (LR r) (VG g)
    omega
  · have := wl_mul (WG g g.agents.length) (PR r)
    omega
theorem Wpow {a b : Nat} (h : a ≤ b) : W ^ a ≤ W ^ b := Nat.pow_le_pow_right (by decide) h
theorem add_over {g : Gm} {r : List Ce} (h : Play g r) (six : ∀ c ∈ r, CeSix c) {n : Nat} (hn : n < r.length) : Over (DA g r) (W ^ 22) (addX g r n) := by
  have hs := (sizeOk_all h.fine.sz).1
  have hw := wgt_over h hn g.agents.length (Nat.le_refl _)
  have hL : dens (ceAt r n).lot ∣ LR r := by rw [ceAt_eq hn]; exact pr_dvd (List.mem_map.2 ⟨_, List.getElem_mem hn, rfl⟩)
  have hP : dens (ceAt r n).pay ∣ PR r := by rw [ceAt_eq hn]; exact pr_dvd (List.mem_map.2 ⟨_, List.getElem_mem hn, rfl⟩)
  have w12 : W ^ (3 * g.agents.length) ≤ W ^ 12 := Wpow (by omega)
  unfold addX partQ
  refine Over.cap ?_
  by_cases c : g.aim = 1
  · rw [if_pos c]
    have h1 := hw.mul (tot_over h six hn g.agents.length (Nat.le_refl _))
    unfold wgt
    have hD := DA_ne g r
    unfold DA at hD ⊢
    rw [if_pos c] at hD ⊢
    refine h1.up (Nat.mul_dvd_mul (Nat.dvd_refl _) (Nat.mul_dvd_mul hL (Nat.dvd_refl _))) hD ?_
    have h2 : g.agents.length * (6 * (W ^ 6 * W ^ 3)) ≤ W ^ 10 := Nat.le_trans (Nat.mul_le_mul_right _ hs) (by decide)
    have h3 := Nat.mul_le_mul w12 h2
    rw [← Nat.pow_add] at h3
    exact h3
  · rw [if_neg c]
    have h1 := hw.mul (paid_over h six hn)
    unfold wgt
    have hD := DA_ne g r
    unfold DA at hD ⊢
    rw [if_neg c] at hD ⊢
    refine h1.up (Nat.mul_dvd_mul (Nat.dvd_refl _) hP) hD ?_
    have h3 := Nat.mul_le_mul w12 (show 4 * W ^ 6 ≤ W ^ 10 by decide)
    rw [← Nat.pow_add] at h3
    exact h3
theorem addX_sz {g : Gm} {r : List Ce} (h : Play g r) (six : ∀ c ∈ r, CeSix c) {l : List Nat} (hl : ∀ n ∈ l, n < r.length) (hc : l.length ≤ 16) : sz (sumQ (l.map (addX g r))) ≤ 4096 := by
  have h1 := Over.sum (DA_ne g r) (M := W ^ 22) (l := l.map (addX g r)) fun q hq => by
    obtain ⟨n, hn, rfl⟩ := List.mem_map.1 hq
    exact add_over h six (hl n hn)
  rw [List.length_map] at h1
  have h2 := (h1.up (Nat.dvd_refl _) (DA_ne g r) (show l.length * W ^ 22 ≤ W ^ 23 from Nat.le_trans (Nat.mul_le_mul_right _ hc) (by decide))).sz (DA_ne g r)
  have h3 := DA_wl h six
  have h4 : wl (W ^ 23) ≤ 24 := toW_len_lt (k := 24) (by decide)
  omega
theorem aimTo_sum {g : Gm} {r : List Ce} (h : Play g r) (six : ∀ c ∈ r, CeSix c) : ∀ n, n ≤ r.length → aimTo g r n = sumQ ((List.range n).map (addX g r))
  | 0, _ => rfl
  | n + 1, hn => by
    have h16 := (sizeOk_all h.fine.sz).2.2.2.2
    have hrl := h.good.2.2.1
    have hz := addX_sz h six (l := List.range (n + 1)) (fun m hm => by have := List.mem_range.1 hm; omega) (by rw [List.length_range]; omega)
    rw [List.range_succ, List.map_append, List.map_cons, List.map_nil, sumQ_snoc] at hz ⊢
    rw [aimTo, aimTo_sum h six n (by omega), ← cap_of hz]
    rfl
theorem sumQ_perm {l m : List Rat} (h : l.Perm m) : sumQ l = sumQ m := by
  induction h with
  | nil => rfl
  | cons x _ ih => rw [sumQ, sumQ, ih]
  | swap x y l => rw [sumQ, sumQ, sumQ, sumQ, Rat.add_left_comm]
  | trans _ _ h1 h2 => rw [h1, h2]
end Go.Proofs.YtmgaoecfipkjbaaGreat.Sh

/- Mixtures: plain laws. No program in sight. -/
namespace Go.Proofs.YtmgaoecfipkjbaaGreat.Sh
open Go Go.RowKit

def mixQ (w x y : Rat) : Rat := w * x + (1 - w) * y
def mixF (w : Rat) (f h : FR) : FR := frQ (mixQ w f.fix h.fix)
def mixL (w : Rat) (l m : List FR) : List FR := List.zipWith (mixF w) l m
def mixC (w : Rat) (c d : Ce) : Ce := ⟨mixL w c.lot d.lot, mixL w c.pay d.pay⟩
def mixR (w : Rat) (a b : List Ce) : List Ce := List.zipWith (mixC w) a b

theorem mixQ_zero (w : Rat) : mixQ w 0 0 = 0 := by unfold mixQ; grind
theorem mixQ_add (w x y x' y' : Rat) : mixQ w x y + mixQ w x' y' = mixQ w (x + x') (y + y') := by unfold mixQ; grind
theorem mixQ_sub (w x y x' y' : Rat) : mixQ w x y - mixQ w x' y' = mixQ w (x - x') (y - y') := by unfold mixQ; grind
theorem mixQ_mul (w x y z : Rat) : mixQ w x y * z = mixQ w (x * z) (y * z) := by unfold mixQ; grind
theorem mixQ_mul' (w x y z : Rat) : z * mixQ w x y = mixQ w (z * x) (z * y) := by unfold mixQ; grind
theorem mixQ_self (w x : Rat) : mixQ w x x = x := by unfold mixQ; grind
theorem mixQ_le {w x y x' y' : Rat} (h0 : 0 ≤ w) (h1 : w ≤ 1) (hx : x ≤ x') (hy : y ≤ y') : mixQ w x y ≤ mixQ w x' y' := by
  have e1 : w * x ≤ w * x' := Rat.mul_le_mul_of_nonneg_left hx h0
  have e2 : (1 - w) * y ≤ (1 - w) * y' := Rat.mul_le_mul_of_nonneg_left hy (by grind)
  unfold mixQ; grind
theorem mixQ_mz {w x y : Rat} (hw : mz w ≤ 6) (hx : mz x ≤ 6) (hy : mz y ≤ 6) : mz (mixQ w x y) ≤ 28 := by
  have h1 := mz_mul w x
  have h2 := mz_mul (1 - w) y
  have h3 := mz_sub 1 w
  have h4 := mz_add (w * x) ((1 - w) * y)
  have h5 : mz 1 = 1 := by decide +kernel
  unfold mixQ; omega
theorem mixF_fix {w : Rat} {f h : FR} (hw : mz w ≤ 6) (hf : mz f.fix ≤ 6) (hh : mz h.fix ≤ 6) : (mixF w f h).fix = mixQ w f.fix h.fix := by
  have := mixQ_mz hw hf hh
  exact fix_frQ (cap_mz (by omega)).2
theorem sum_mix (w : Rat) : ∀ (l m : List Rat), l.length = m.length → sumQ (List.zipWith (mixQ w) l m) = mixQ w (sumQ l) (sumQ m)
  | [], [], _ => (mixQ_zero w).symm
  | x :: l, y :: m, h => by
    rw [List.zipWith_cons_cons, sumQ, sumQ, sumQ, sum_mix w l m (by simpa using h), mixQ_add]
theorem fix_mixL {w : Rat} (hw : mz w ≤ 6) : ∀ {l m : List FR}, (∀ f ∈ l, mz f.fix ≤ 6) → (∀ f ∈ m, mz f.fix ≤ 6) → (mixL w l m).map FR.fix = List.zipWith (mixQ w) (l.map FR.fix) (m.map FR.fix)
  | [], _, _, _ => by simp [mixL]
  | _ :: _, [], _, _ => by simp [mixL]
  | f :: l, h :: m, h1, h2 => by
    have ih := fix_mixL hw (l := l) (m := m) (fun x hx => h1 x (List.mem_cons_of_mem _ hx)) (fun x hx => h2 x (List.mem_cons_of_mem _ hx))
    unfold mixL at ih ⊢
    rw [List.zipWith_cons_cons, List.map_cons, ih, mixF_fix hw (h1 f (List.mem_cons_self ..)) (h2 h (List.mem_cons_self ..))]
    rfl
theorem dot_mix {w : Rat} (hw : mz w ≤ 6) : ∀ {l m v : List FR}, (∀ f ∈ l, mz f.fix ≤ 6) → (∀ f ∈ m, mz f.fix ≤ 6) → l.length = m.length → sumQ (dotL (mixL w l m) v) = mixQ w (sumQ (dotL l v)) (sumQ (dotL m v))
  | [], [], v, _, _, _ => by simp only [mixL, dotL, List.zipWith_nil_left]; exact (mixQ_zero w).symm
  | f :: l, h :: m, [], _, _, _ => by simp only [mixL, dotL, List.zipWith_nil_right]; exact (mixQ_zero w).symm
  | f :: l, h :: m, z :: v, h1, h2, h3 => by
    have ih := dot_mix hw (l := l) (m := m) (v := v) (fun x hx => h1 x (List.mem_cons_of_mem _ hx)) (fun x hx => h2 x (List.mem_cons_of_mem _ hx)) (by simpa using h3)
    unfold mixL dotL at ih ⊢
    rw [List.zipWith_cons_cons, List.zipWith_cons_cons, List.zipWith_cons_cons, List.zipWith_cons_cons, sumQ, sumQ, sumQ, ih, mixF_fix hw (h1 f (List.mem_cons_self ..)) (h2 h (List.mem_cons_self ..)), mixQ_mul, mixQ_add]
theorem pay_mix {w : Rat} (hw : mz w ≤ 6) {c d : Ce} (hc : CeSix c) (hd : CeSix d) (hl : c.pay.length = d.pay.length) {a : Nat} (ha : a < c.pay.length) : payQ (mixC w c d) a = mixQ w (payQ c a) (payQ d a) := by
  have ha' : a < d.pay.length := by omega
  have h1 : (mixC w c d).pay[a]? = some (mixF w c.pay[a] d.pay[a]) := by
    show (List.zipWith (mixF w) c.pay d.pay)[a]? = _
    rw [List.getElem?_zipWith, List.getElem?_eq_getElem ha, List.getElem?_eq_getElem ha']
  unfold payQ
  rw [h1, List.getElem?_eq_getElem ha, List.getElem?_eq_getElem ha']
  exact mixF_fix hw (hc.pay _ (List.getElem_mem ha)) (hd.pay _ (List.getElem_mem ha'))
theorem has_mix {w : Rat} (hw : mz w ≤ 6) {c d : Ce} (hc : CeSix c) (hd : CeSix d) (hl : c.lot.length = d.lot.length) (hp : c.pay.length = d.pay.length) {a : Nat} (ha : a < c.pay.length) (K : Kd) : hasQ (mixC w c d) K a = mixQ w (hasQ c K a) (hasQ d K a) := by
  unfold hasQ
  rw [pay_mix hw hc hd hp ha, show (mixC w c d).lot = mixL w c.lot d.lot from rfl, dot_mix hw hc.lot hd.lot hl, mixQ_sub]
end Go.Proofs.YtmgaoecfipkjbaaGreat.Sh

/- Groups and their joint reports. No program in sight. -/
namespace Go.Proofs.YtmgaoecfipkjbaaGreat.Sh
open Go Go.RowKit

/-- The members of a group, by its number. -/
def bitN (grp a : Nat) : Bool := grp / 2 ^ a % 2 == 1
def mems (N grp : Nat) : List Nat := (List.range N).filter (bitN grp)
def intsN (l : List Nat) : List Int := l.map fun (a : Nat) => (a : Int)
theorem mems_lt {N grp a : Nat} (h : a ∈ mems N grp) : a < N := List.mem_range.1 (List.mem_filter.1 h).1
theorem mems_succ (N grp : Nat) : mems (N + 1) grp = if bitN grp N = true then mems N grp ++ [N] else mems N grp := by
  unfold mems
  rw [List.range_succ, List.filter_append]
  split
  · rename_i h; simp [h]
  · rename_i h; simp [h]
theorem mems_len (N grp : Nat) : (mems N grp).length ≤ N := by
  have := List.length_filter_le (bitN grp) (List.range N)
  rwa [List.length_range] at this

def szM (g : Gm) (M : List Nat) : List Nat := M.map (kl g)
def toldM (g : Gm) (M : List Nat) (n : Nat) : List Int := atR (szM g M).reverse n
def repM (g : Gm) (M : List Nat) : Nat := prodR (szM g M).reverse
theorem toldM_len (g : Gm) (M : List Nat) (n : Nat) : (toldM g M n).length = M.length := by unfold toldM; rw [atR_length]; simp [szM]

/-- A profile with the reports of members changed. -/
def setAll : List Int → List Nat → List Int → List Int
  | p, a :: M, t :: T => setAll (p.set a t) M T
  | p, _, _ => p
theorem setAll_len : ∀ (p : List Int) (M : List Nat) (T : List Int), (setAll p M T).length = p.length
  | p, [], _ => by cases ‹List Int› <;> rfl
  | p, _ :: _, [] => rfl
  | p, a :: M, t :: T => by rw [setAll, setAll_len]; simp
theorem setAll_snoc : ∀ (p : List Int) (M : List Nat) (T : List Int) (a : Nat) (t : Int), M.length = T.length → setAll p (M ++ [a]) (T ++ [t]) = (setAll p M T).set a t
  | p, [], [], a, t, _ => rfl
  | p, [], _ :: _, a, t, h => by simp at h
  | p, _ :: _, [], a, t, h => by simp at h
  | p, b :: M, u :: T, a, t, h => by
    rw [List.cons_append, List.cons_append, setAll, setAll, setAll_snoc _ M T a t (by simpa using h)]

theorem profTo_iff {g : Gm} {p : List Int} (h : p.length = g.agents.length) : isProf g p ↔ ∀ j x, p[j]? = some x → 0 ≤ x ∧ x < (kl g j : Int) := by
  constructor
  · intro hp j x hx
    have hj := (List.getElem?_eq_some_iff.1 hx).1
    obtain ⟨A, y, e1, e2, e3, e4⟩ := hp.2 j (by omega)
    rw [e2] at hx
    obtain rfl := Option.some.inj hx
    have hj' : j < g.agents.length := by omega
    rw [List.getElem?_eq_getElem hj'] at e1
    obtain rfl := Option.some.inj e1
    rw [kl_eq hj']
    exact ⟨e3, e4⟩
  · intro hp
    refine ⟨h, fun j hj => ⟨g.agents[j], p[j]'(by omega), List.getElem?_eq_getElem hj, List.getElem?_eq_getElem _, ?_⟩⟩
    have := hp j _ (List.getElem?_eq_getElem (show j < p.length by omega))
    rw [kl_eq hj] at this
    exact this
theorem set_isProf {g : Gm} {p : List Int} (hp : isProf g p) {a : Nat} {t : Int} (h0 : 0 ≤ t) (h1 : t < (kl g a : Int)) : isProf g (p.set a t) := by
  rw [profTo_iff (by simpa using hp.1)]
  intro j x hx
  rw [List.getElem?_set] at hx
  split at hx
  · rename_i e
    split at hx
    · obtain rfl := Option.some.inj hx; subst e; exact ⟨h0, h1⟩
    · cases hx
  · exact (profTo_iff hp.1).1 hp j x hx
theorem setAll_isProf {g : Gm} : ∀ {M : List Nat} {T : List Int} {p : List Int}, isProf g p → (∀ (i a : Nat) (t : Int), M[i]? = some a → T[i]? = some t → 0 ≤ t ∧ t < (kl g a : Int)) → isProf g (setAll p M T)
  | [], T, p, hp, _ => by cases T <;> exact hp
  | _ :: _, [], p, hp, _ => hp
  | a :: M, t :: T, p, hp, h => by
    rw [setAll]
    have h0 := h 0 a t rfl rfl
    exact setAll_isProf (set_isProf hp h0.1 h0.2) (fun i b u hi hu => h (i + 1) b u (by simpa using hi) (by simpa using hu))

theorem atR_digit : ∀ (r : List Nat) (i j : Nat) (x : Int), i < prodR r → (atR r i)[j]? = some x → ∃ k, r.reverse[j]? = some k ∧ 0 ≤ x ∧ x < (k : Int) := by
  intro r i j x hi hx
  have hj := (List.getElem?_eq_some_iff.1 hx).1
  rw [atR_length] at hj
  obtain ⟨y, h1, h2⟩ := atR_get r i j hi hj
  rw [h1] at hx
  obtain rfl := Option.some.inj hx
  exact ⟨_, List.getElem?_eq_getElem _, by omega, by omega⟩
theorem toldM_digit {g : Gm} {M : List Nat} {n : Nat} (hn : n < repM g M) (i a : Nat) (t : Int) (hi : M[i]? = some a) (ht : (toldM g M n)[i]? = some t) : 0 ≤ t ∧ t < (kl g a : Int) := by
  obtain ⟨k, h1, h2, h3⟩ := atR_digit _ n i t hn ht
  rw [List.reverse_reverse] at h1
  unfold szM at h1
  rw [List.getElem?_map, hi] at h1
  obtain rfl := Option.some.inj h1
  exact ⟨h2, h3⟩

def toM (g : Gm) (m : Nat) (M : List Nat) (T : List Int) : Nat := (whr g (setAll (atG g m) M T)).toNat
/-- A joint report is better for each member. -/
def BetterM (g : Gm) (r : List Ce) (M : List Nat) (m n : Nat) : Prop := ∀ a ∈ M, useQ g r m a < hasQ (ceAt r (toM g m M (toldM g M n))) (kdAt g a (kOf g m a)) a

theorem toM_lt {g : Gm} {r : List Ce} (h : Play g r) {M : List Nat} {m n : Nat} (hm : m < r.length) (hn : n < repM g M) : whr g (setAll (atG g m) M (toldM g M n)) = (toM g m M (toldM g M n) : Int) ∧ toM g m M (toldM g M n) < r.length ∧ isProf g (setAll (atG g m) M (toldM g M n)) := by
  have hrl := h.good.2.2.1
  have hp := setAll_isProf (p := atG g m) (at_isProf (by omega)) (toldM_digit hn)
  obtain ⟨k, h1, h2, h3⟩ : ∃ k : Nat, whr g (setAll (atG g m) M (toldM g M n)) = (k : Int) ∧ k < r.length ∧ True := by
    have hw := whrTo_le (g := g) (p := setAll (atG g m) M (toldM g M n)) g.agents.length (Nat.le_refl _) hp.2
    rw [List.take_length] at hw
    exact ⟨(whr g (setAll (atG g m) M (toldM g M n))).toNat, by unfold whr at *; omega, by unfold whr at *; omega, trivial⟩
  unfold toM
  rw [h1, Int.toNat_natCast]
  exact ⟨rfl, h2, hp⟩

section
variable (g : Gm) (r : List Ce)
def NoJm (grp m : Nat) : Prop := ∀ n, n < repM g (mems g.agents.length grp) → ¬ BetterM g r (mems g.agents.length grp) m n
def NoJ (grp : Nat) : Prop := 2 ≤ (mems g.agents.length grp).length → ∀ m, m < r.length → NoJm g r grp m
structure FirstJ (grp m n : Nat) : Prop where
  hg : grp < 2 ^ g.agents.length
  hl : 2 ≤ (mems g.agents.length grp).length
  hm : m < r.length
  hn : n < repM g (mems g.agents.length grp)
  yes : BetterM g r (mems g.agents.length grp) m n
  g0 : ∀ grp', grp' < grp → NoJ g r grp'
  m0 : ∀ m', m' < m → NoJm g r grp m'
  n0 : ∀ n', n' < n → ¬ BetterM g r (mems g.agents.length grp) m n'
end
theorem FirstJ.uniq {g : Gm} {r : List Ce} {a n t a' n' t' : Nat} (h : FirstJ g r a n t) (h' : FirstJ g r a' n' t') : a = a' ∧ n = n' ∧ t = t' := by
  have e1 : a = a' := by
    rcases Nat.lt_trichotomy a a' with c | c | c
    · exact absurd h.yes (h'.g0 a c h.hl n h.hm t h.hn)
    · exact c
    · exact absurd h'.yes (h.g0 a' c h'.hl n' h'.hm t' h'.hn)
  subst e1
  have e2 : n = n' := by
    rcases Nat.lt_trichotomy n n' with c | c | c
    · exact absurd h.yes (h'.m0 n c t h.hn)
    · exact c
    · exact absurd h'.yes (h.m0 n' c t' h'.hn)
  subst e2
  refine ⟨rfl, rfl, ?_⟩
  rcases Nat.lt_trichotomy t t' with c | c | c
  · exact absurd h.yes (h'.n0 t c)
  · exact c
  · exact absurd h'.yes (h.n0 t' c)

structure Jt where
  group : List Int
  told : List Int
  prof : List Int
@[simp] def jtS (j : Jt) : SV := .agg [intsS j.group, intsS j.told, intsS j.prof]
def jtAt (g : Gm) (grp m n : Nat) : Jt := ⟨intsN (mems g.agents.length grp), toldM g (mems g.agents.length grp) n, atG g m⟩
def isJt (g : Gm) (r : List Ce) (j : Jt) (ok : Bool) : Prop := (∃ grp m n, FirstJ g r grp m n ∧ j = jtAt g grp m n ∧ ok = true) ∨ ((∀ grp, grp < 2 ^ g.agents.length → NoJ g r grp) ∧ j = ⟨[], [], []⟩ ∧ ok = false)
theorem isJt.at {g : Gm} {r : List Ce} {j : Jt} {ok : Bool} (h : isJt g r j ok) {grp m n : Nat} (hf : FirstJ g r grp m n) : j = jtAt g grp m n ∧ ok = true := by
  rcases h with ⟨a', n', t', h1, h2, h3⟩ | ⟨h1, -, -⟩
  · obtain ⟨rfl, rfl, rfl⟩ := hf.uniq h1
    exact ⟨h2, h3⟩
  · exact absurd hf.yes (h1 grp hf.hg hf.hl m hf.hm n hf.hn)
theorem isJt.none {g : Gm} {r : List Ce} {j : Jt} {ok : Bool} (h : isJt g r j ok) (hn : ∀ grp, grp < 2 ^ g.agents.length → NoJ g r grp) : j = ⟨[], [], []⟩ ∧ ok = false := by
  rcases h with ⟨a', n', t', h1, h2, h3⟩ | ⟨-, h2, h3⟩
  · exact absurd h1.yes (hn a' h1.hg h1.hl n' h1.hm t' h1.hn)
  · exact ⟨h2, h3⟩
theorem least_of (p : Nat → Prop) (h : ∃ n, p n) : ∃ n, p n ∧ ∀ m, m < n → ¬ p m := by
  obtain ⟨n, hn⟩ := h
  induction n using Nat.strongRecOn with
  | _ n ih =>
    by_cases hm : ∃ m, m < n ∧ p m
    · obtain ⟨m, h1, h2⟩ := hm; exact ih m h1 h2
    · exact ⟨n, hn, fun m h1 h2 => hm ⟨m, h1, h2⟩⟩
theorem isJt_of (g : Gm) (r : List Ce) : ∃ j ok, isJt g r j ok := by
  by_cases h : ∀ grp, grp < 2 ^ g.agents.length → NoJ g r grp
  · exact ⟨_, _, .inr ⟨h, rfl, rfl⟩⟩
  · obtain ⟨a, ha, ha0⟩ := least_of (fun a => a < 2 ^ g.agents.length ∧ ¬ NoJ g r a) (Classical.byContradiction fun hc => h fun a ha => Classical.byContradiction fun hn => hc ⟨a, ha, hn⟩)
    have hl : 2 ≤ (mems g.agents.length a).length := Classical.byContradiction fun hc => ha.2 fun hh => absurd hh hc
    obtain ⟨n, hn, hn0⟩ := least_of (fun n => n < r.length ∧ ¬ NoJm g r a n) (Classical.byContradiction fun hc => ha.2 fun _ n hn => Classical.byContradiction fun hx => hc ⟨n, hn, hx⟩)
    obtain ⟨t, ht, ht0⟩ := least_of (fun t => t < repM g (mems g.agents.length a) ∧ BetterM g r (mems g.agents.length a) n t) (Classical.byContradiction fun hc => hn.2 fun t ht hx => hc ⟨t, ht, hx⟩)
    exact ⟨_, _, .inl ⟨a, n, t, ⟨ha.1, hl, hn.1, ht.1, ht.2, fun a' h1 => Classical.byContradiction fun hx => ha0 a' h1 ⟨by have := ha.1; omega, hx⟩, fun n' h1 => Classical.byContradiction fun hx => hn0 n' h1 ⟨by have := hn.1; omega, hx⟩, fun t' h1 hx => ht0 t' h1 ⟨by have := ht.1; omega, hx⟩⟩, rfl, rfl⟩⟩
theorem subV_refl' : ∀ (l : List SV), subV l l
  | [] => trivial
  | a :: l => ⟨by simp, subV_refl' l⟩
theorem st_self (x : ST) : x.sub x = True := by
  cases x with
  | v a => simp
  | tup l => exact eq_true (subV_refl' l)

theorem tfJ {b : Bool} {P : Prop} (h : b = true ↔ P) (hp : P) : b = true := h.2 hp
theorem boolJ (P : Prop) : ∃ b : Bool, b = true ↔ P := by
  by_cases h : P
  · exact ⟨true, by simp [h]⟩
  · exact ⟨false, by simp [h]⟩
end Go.Proofs.YtmgaoecfipkjbaaGreat.Sh

/- A game in which an agent's kinds stand the other way about: plain laws. No program in sight. -/
namespace Go.Proofs.YtmgaoecfipkjbaaGreat.Sh
open Go Go.RowKit

/-- Two kinds with the same numbers. -/
structure SameN (K L : Kd) : Prop where
  w : K.weight = L.weight
  al : K.alone = L.alone
  wo : K.worth = L.worth
def tk (g : Gm) (b i k : Nat) : Nat := if i = b then kl g i - 1 - k else k
/-- A game is another one, in which an agent's kinds stand the other way about, and all names are others. -/
structure Tn (g h : Gm) (b : Nat) : Prop where
  hb : b < g.agents.length
  la : h.agents.length = g.agents.length
  lo : h.outs.length = g.outs.length
  pay : h.pay = g.pay
  lots : h.lots = g.lots
  aim : h.aim = g.aim
  needs : h.needs = []
  kn : ∀ i (hi : i < g.agents.length), (h.agents[i]'(by omega)).kinds.length = g.agents[i].kinds.length
  kd : ∀ i k (hi : i < g.agents.length) (hk : k < g.agents[i].kinds.length), SameN ((h.agents[i]'(by omega)).kinds[k]'(by rw [kn i hi]; exact hk)) (kdAt g i (tk g b i k))
  on : NamesOk h.outs
  an : NamesOk (h.agents.map Ag.name)
  kdn : ∀ A ∈ h.agents, NamesOk (A.kinds.map Kd.name)
  so : ∀ s ∈ h.outs, s.size ≤ 2
  sa : ∀ A ∈ h.agents, A.name.size ≤ 2
  sk : ∀ A ∈ h.agents, ∀ K ∈ A.kinds, K.name.size ≤ 2

section
variable {g h : Gm} {b : Nat} (t : Tn g h b)
include t
theorem Tn.kl_eq (i : Nat) : kl h i = kl g i := by
  unfold kl
  by_cases hi : i < g.agents.length
  · rw [List.getElem?_eq_getElem hi, List.getElem?_eq_getElem (by have := t.la; omega)]
    simp [t.kn i hi]
  · rw [List.getElem?_eq_none (by have := t.la; omega), List.getElem?_eq_none (by have := t.la; omega)]
theorem Tn.szs : szs h = szs g := by
  unfold Sh.szs
  refine List.ext_getElem (by simp [t.la]) fun i h1 h2 => ?_
  simp only [List.getElem_map]
  exact t.kn i (by simpa using h2)
theorem Tn.prodK : prodK h.agents = prodK g.agents := by
  rw [prodK_eq, prodK_eq]
  have := t.szs
  unfold Sh.szs at this
  rw [this]
theorem Tn.at (n : Nat) : atG h n = atG g n := by unfold atG; rw [t.szs]
theorem Tn.whrTo (p : List Int) : ∀ i, whrTo h p i = whrTo g p i
  | 0 => rfl
  | i + 1 => by
    rw [Sh.whrTo, Sh.whrTo, Tn.whrTo p i]
    have := t.kl_eq i
    unfold kl at this
    rw [this]
theorem Tn.whr (p : List Int) : whr h p = whr g p := by unfold Sh.whr; rw [t.whrTo, t.la]
theorem Tn.kOf (n a : Nat) : kOf h n a = kOf g n a := by unfold Sh.kOf; rw [t.at]
theorem Tn.isProf {p : List Int} (hp : isProf g p) : isProf h p := by
  refine (profTo_iff (by rw [t.la]; exact hp.1)).2 fun j x hx => ?_
  rw [t.kl_eq]
  exact (profTo_iff hp.1).1 hp j x hx
theorem Tn.kdAt {i k : Nat} (hi : i < g.agents.length) (hk : k < kl g i) : SameN (kdAt h i k) (kdAt g i (tk g b i k)) := by
  have hk' : k < g.agents[i].kinds.length := by rw [← Sh.kl_eq hi]; exact hk
  have hi' : i < h.agents.length := by rw [t.la]; exact hi
  have := t.kd i k hi hk'
  rwa [kdAt_eq hi' (by rw [t.kn i hi]; exact hk')]
end
theorem tk_lt {g : Gm} {b i k : Nat} (h : k < kl g i) : tk g b i k < kl g i := by unfold tk; split <;> omega
theorem tk_tk {g : Gm} {b i k : Nat} (h : k < kl g i) : tk g b i (tk g b i k) = k := by unfold tk; split <;> omega

/-- A profile, in which the agent tells the other end of its kinds. -/
def tp (g : Gm) (b : Nat) (p : List Int) : List Int := putP p b ((kl g b : Int) - 1 - (p[b]?).getD 0)
def tn (g : Gm) (b n : Nat) : Nat := (whr g (tp g b (atG g n))).toNat

theorem putP_get {p : List Int} {a : Nat} (ha : a < p.length) (k : Int) (j : Nat) : (putP p a k)[j]? = if j = a then some k else p[j]? := by
  unfold putP
  rw [if_pos ⟨by omega, by omega⟩, Int.toNat_natCast, List.getElem?_set]
  by_cases c : j = a
  · subst c; simp [ha]
  · rw [if_neg (fun e => c e.symm), if_neg c]

section
variable {g : Gm} {r : List Ce} (hp : Play g r) {b : Nat} (hb : b < g.agents.length)
include hp hb
theorem klb : 0 < kl g b := by rw [kl_eq hb]; exact List.length_pos_iff.2 (hp.good.2.1.all _ (List.getElem_mem hb)).1
theorem tp_ok {p : List Int} (h : isProf g p) : isProf g (tp g b p) := by
  have hl : b < p.length := by rw [h.1]; exact hb
  have h1 := (profTo_iff h.1).1 h b _ (List.getElem?_eq_getElem hl)
  unfold tp
  rw [List.getElem?_eq_getElem hl]
  simp only [Option.getD_some]
  exact put_isProf h (List.getElem?_eq_getElem hb) (by omega) (by rw [← kl_eq hb]; omega)
theorem tp_get {p : List Int} (h : isProf g p) (j : Nat) : (tp g b p)[j]? = if j = b then some ((kl g b : Int) - 1 - (p[b]?).getD 0) else p[j]? := by
  have hl : b < p.length := by rw [h.1]; exact hb
  exact putP_get hl _ j
theorem tp_tp {p : List Int} (h : isProf g p) : tp g b (tp g b p) = p := by
  have hl : b < p.length := by rw [h.1]; exact hb
  refine List.ext_getElem? fun j => ?_
  rw [tp_get hp hb (tp_ok hp hb h), tp_get hp hb h, tp_get hp hb h, if_pos rfl, Option.getD_some]
  by_cases c : j = b
  · subst c
    rw [if_pos rfl, List.getElem?_eq_getElem hl]
    simp only [Option.getD_some, Option.some.injEq]
    omega
  · rw [if_neg c, if_neg c]
theorem tn_lt {n : Nat} (hn : n < r.length) : tn g b n < r.length ∧ atG g (tn g b n) = tp g b (atG g n) ∧ (tn g b n : Int) = whr g (tp g b (atG g n)) := by
  have hrl := hp.good.2.2.1
  have h1 := tp_ok hp hb (at_isProf (g := g) (i := n) (by omega))
  obtain ⟨w1, w2⟩ := whrTo_le (g := g) (p := tp g b (atG g n)) g.agents.length (Nat.le_refl _) h1.2
  rw [List.take_length] at w2
  refine ⟨?_, at_whr h1, ?_⟩
  · unfold tn whr; omega
  · unfold tn whr; omega
theorem tn_tn {n : Nat} (hn : n < r.length) : tn g b (tn g b n) = n := by
  have hrl := hp.good.2.2.1
  obtain ⟨h1, h2, h3⟩ := tn_lt hp hb hn
  have : tn g b (tn g b n) = (whr g (tp g b (atG g (tn g b n)))).toNat := rfl
  rw [this, h2, tp_tp hp hb (at_isProf (by omega)), whr_at (by omega), Int.toNat_natCast]
theorem kOf_tn {n : Nat} (hn : n < r.length) {a : Nat} (ha : a < g.agents.length) : kOf g (tn g b n) a = tk g b a (kOf g n a) := by
  have hrl := hp.good.2.2.1
  obtain ⟨h1, h2, h3⟩ := tn_lt hp hb hn
  have hs : Spot g r a n := ⟨hp, ha, hn⟩
  obtain ⟨k1, k2⟩ := hs.kof
  rw [← kl_eq ha] at k2
  show (((atG g (tn g b n))[a]?).getD 0).toNat = _
  rw [h2, tp_get hp hb (at_isProf (by omega))]
  unfold tk
  by_cases c : a = b
  · subst c
    rw [if_pos rfl, if_pos rfl, k1]
    simp only [Option.getD_some]
    omega
  · rw [if_neg c, if_neg c, k1]
    simp only [Option.getD_some]
    omega
end
end Go.Proofs.YtmgaoecfipkjbaaGreat.Sh

