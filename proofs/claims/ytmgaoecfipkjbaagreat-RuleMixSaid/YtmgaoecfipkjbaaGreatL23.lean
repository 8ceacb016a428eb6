/- A part of the proof: R71, R72, R106, R107, R108, R76, R77 -/
import Derived.Test.YtmgaoecfipkjbaaGreatL22
set_option linter.unusedSimpArgs false
set_option linter.unusedVariables false
set_option linter.unusedSectionVars false
/- Fixed, of the program and of the reference; the walk of RuleFixed. -/
namespace Go.Proofs.YtmgaoecfipkjbaaGreat.Sh
open Go Go.RowKit

theorem flat_one {α : Type} (f : α → List S1) (x : α) : flat f [x] = f x := by simp [flat]
instance : RowF 2 rowCe := ⟨fun _ => rfl, fun x s h => by simp at h; rcases h with rfl | rfl <;> rfl⟩
def fixF (f : FR) : FR := frQ f.fix
def fixC (c : Ce) : Ce := ⟨c.lot.map fixF, c.pay.map fixF⟩
@[simp] theorem fixC_lot (c : Ce) : (fixC c).lot = c.lot.map fixF := rfl
@[simp] theorem fixC_pay (c : Ce) : (fixC c).pay = c.pay.map fixF := rfl

set_option maxRecDepth 20000 in
theorem fixL_s (l : List FR) (hl : ∀ f ∈ l, f.ok) (h1 : l.length ≤ 1099511627776) : CallsS Tryz.prog 106 [.one (frsS l)] (.v (.one (frsS (l.map fixF)))) := by
  refine calls Tryz.func106 rfl (by rfl) (by rfl) (by kernel_rfl) ?_
  simp -dsimp -implicitDefEqProofs [Tryz.f106]
  refine ⟨by omega, ?_⟩
  refine sw_loop_e (fun p : {p : Nat × Nat // p.1 ≤ l.length} => SS.of [(3, .v (.one (.ms 0 0 l.length 3 true))), (9, .v (.one (frsS l))), (10, I .i64 l.length), (11, I .i64 p.1.1)] [(0, ⟨37, flat (optRow [.bool false, .nils, .nils] rowFr) (filled fixF l p.1.1)⟩)] (p.1.2 + 1))
    (fun p => l.length - p.1.1) ⟨(0, 0), Nat.zero_le _⟩ (by kernel_rfl) (Le.to (by simp) (by simp [filled_zero, flat_rep _ rowFr]) (by simp)) ?_
  rintro ⟨⟨i, c⟩, hi⟩
  simp only at hi
  by_cases a1 : i < l.length
  · have wi : IntKind.i64.wrap ((i : Int) + 1) = ((i + 1 : Nat) : Int) := by rw [wrap_i64 _ (by omega) (by omega)]; rfl
    have hok : l[i].ok := hl _ (List.getElem_mem a1)
    have ml := filled_len fixF l hi
    have mset := filled_set fixF l i a1
    simp -dsimp -implicitDefEqProofs [a1, wi]
    refine eCall.of (ffix_s l[i] hok) (by simp) ?_
    simp -dsimp -implicitDefEqProofs [a1, ml]
    refine ⟨by omega, ?_⟩
    have hset := set3_flat (f := optRow [.bool false, .nils, .nils] rowFr) (filled fixF l i) i (some (fixF l[i])) rfl (by omega)
    rw [mset] at hset
    exact Again.by ⟨(i + 1, c + 1), a1⟩ (Le.to (by simp [wi]) (by simp [← hset, fixF, frQ, ng]) (by simp)) (by simp; omega)
  · have hi2 : i = l.length := by omega
    subst hi2
    simp -dsimp -implicitDefEqProofs [filled_full]
    intro a _
    rfl

def isFixd (g : Gm) (c d : Ce) (r : List Ce) (e : Int) : Prop :=
  (¬ (sizeOk g = true ∧ RightOk g) ∧ r = [] ∧ e = 2) ∨ ((sizeOk g = true ∧ RightOk g) ∧ ¬ FitsOk g c ∧ r = [] ∧ e = 3) ∨ ((sizeOk g = true ∧ RightOk g) ∧ FitsOk g c ∧ r = List.replicate (prodK g.agents) d ∧ e = 0)
theorem isFixd_of (g : Gm) (c d : Ce) : ∃ r e, isFixd g c d r e := by
  by_cases h : sizeOk g = true ∧ RightOk g
  · by_cases h2 : FitsOk g c
    · exact ⟨_, _, .inr (.inr ⟨h, h2, rfl, rfl⟩)⟩
    · exact ⟨_, _, .inr (.inl ⟨h, h2, rfl, rfl⟩)⟩
  · exact ⟨_, _, .inl ⟨h, rfl, rfl⟩⟩

theorem rep_snoc {α : Type} (i : Nat) (x : α) : List.replicate (i + 1) x = List.replicate i x ++ [x] := List.replicate_succ'

set_option maxRecDepth 20000 in
theorem rfixed_s (g : Gm) (c : Ce) (hs : Seen g [c]) (r : List Ce) (e : Int) (h : isFixd g c (fixC c) r e) : CallsS Tryz.prog 45 [gmS g, ceS c] (.tup [ruS r, .one (.int .i64 e)]) := by
  have hc := hs.ce c (by simp)
  refine calls Tryz.func45 rfl (by rfl) (by rfl) (by kernel_rfl) ?_
  simp -dsimp -implicitDefEqProofs [Tryz.f45]
  obtain ⟨er, h1, h2⟩ := isRight_of g
  refine eCall.of (sright_s g hs.ok hs.bey er h1) (by simp) ?_
  rcases h with ⟨hr, rfl, rfl⟩ | ⟨hr, hf, rfl, rfl⟩ | ⟨hr, hf, rfl, rfl⟩
  · have h0 : ¬ er = 0 := fun h => hr (h2.1 h)
    simp -dsimp -implicitDefEqProofs [h0]
  · obtain rfl := h2.2 hr
    have hfi := hs.fine hr
    have ho := (sizeOk_all hfi.sz).2.1
    simp -dsimp -implicitDefEqProofs
    refine eCall.of (fits_s g c ho hc false (by simp [hf])) (by simp) ?_
    simp -dsimp -implicitDefEqProofs
  · obtain rfl := h2.2 hr
    have hfi := hs.fine hr
    obtain ⟨h1, ho, -, -, h5⟩ := sizeOk_all hfi.sz
    have l1 := hf.1
    have l2 := hf.2.1
    have hpl := profs_length g
    have f1 := fixL_s c.lot hc.ok.2.2.1 (by omega)
    have f2 := fixL_s c.pay hc.ok.2.2.2 (by omega)
    simp -dsimp -implicitDefEqProofs
    refine eCall.of (fits_s g c ho hc true (by simp [hf])) (by simp) ?_
    simp -dsimp -implicitDefEqProofs
    refine eCall.of (profiles_s g hfi) (by simp) ?_
    simp -dsimp -implicitDefEqProofs [hpl]
    refine sw_loop_e (fun p : {p : Nat × Nat // p.1 ≤ prodK g.agents ∧ (p.1 ≠ 0 → p.2 ≠ 0)} => SS.of [(3, .v (.one (.mp 1 0))), (4, .v (.one (.mp 2 0))), (6, .v (.one (.fn 106 []))), (7, .v (.one (.mp 3 0))), (19, I .i64 (prodK g.agents)), (20, I .i64 p.1.1)]
        ((1, ⟨60, rowCe c⟩) :: (2, ⟨29, [.nils]⟩) :: (3, ⟨29, [if p.1.1 = 0 then .nils else .ms (p.1.2 + 3) 0 p.1.1 2 true]⟩) :: if p.1.1 = 0 then [] else [(p.1.2 + 3, ⟨60, flat rowCe (List.replicate p.1.1 (fixC c))⟩)]) (p.1.2 + 4))
      (fun p => prodK g.agents - p.1.1) ⟨(0, 0), Nat.zero_le _, fun h => absurd rfl h⟩ (by kernel_rfl) (Le.to (by simp) (by simp) (by simp)) ?_
    rintro ⟨⟨i, n⟩, hi, hn⟩
    simp only at hi hn
    by_cases a1 : i < prodK g.agents
    · have wi : IntKind.i64.wrap ((i : Int) + 1) = ((i + 1 : Nat) : Int) := by rw [wrap_i64 _ (by omega) (by omega)]; rfl
      have hfl := flat_snoc (f := rowCe) (fixC c) (List.replicate i (fixC c))
      rw [← rep_snoc] at hfl
      by_cases a0 : i = 0
      · subst a0
        rw [List.replicate_zero, flat_nil, List.nil_append] at hfl
        simp -dsimp -implicitDefEqProofs [a1]
        refine eCall.of f1 (by simp) ?_
        simp -dsimp -implicitDefEqProofs
        refine eCall.of f2 (by simp) ?_
        simp -dsimp -implicitDefEqProofs [slots]
        exact Again.by ⟨(1, n + 2), by omega, by simp⟩ (Le.to (by simp [wi, i64_1]) (by simp [flat_one]) (by simp)) (by simp; omega)
      · have hn0 := hn a0
        simp -dsimp -implicitDefEqProofs [a1, a0, hn0]
        refine eCall.of f1 (by simp) ?_
        simp -dsimp -implicitDefEqProofs [a0, hn0]
        refine eCall.of f2 (by simp) ?_
        simp -dsimp -implicitDefEqProofs [slots, a0, hn0]
        refine ⟨by omega, ?_⟩
        exact Again.by ⟨(i + 1, n + 2), by omega, by simp⟩ (Le.to (by simp [wi]) (by simp [hfl, hn0]) (by simp)) (by simp; omega)
    have hi2 : i = prodK g.agents := by omega
    subst hi2
    have hp0 : ¬ prodK g.agents = 0 := by
      have := prod_pos (l := g.agents) (fun a ha => (hr.2.all a ha).1) g.agents.length (Nat.le_refl _)
      rw [List.take_length] at this
      omega
    have hn0 := hn hp0
    simp -dsimp -implicitDefEqProofs [hp0, hn0]
end Go.Proofs.YtmgaoecfipkjbaaGreat.Sh

/- The reference's Fixed, SameRule; the walk of RuleFixed. -/
namespace Go.Proofs.YtmgaoecfipkjbaaGreat.Sh
open Go Go.RowKit

set_option maxRecDepth 20000 in
theorem fixedR_s (g : Gm) (c : Ce) (hs : Seen g [c]) (r : List Ce) (e : Int) (h : isFixd g c c r e) : CallsS Tryz.prog 44 [gmS g, ceS c] (.tup [ruS r, .one (.int .i64 e)]) := by
  have hc := hs.ce c (by simp)
  refine calls Tryz.func44 rfl (by rfl) (by rfl) (by kernel_rfl) ?_
  simp -dsimp -implicitDefEqProofs [Tryz.f44]
  obtain ⟨er, h1, h2⟩ := isRight_of g
  refine eCall.of (right_s g hs.ok hs.bey er h1) (by simp) ?_
  rcases h with ⟨hr, rfl, rfl⟩ | ⟨hr, hf, rfl, rfl⟩ | ⟨hr, hf, rfl, rfl⟩
  · have h0 : ¬ er = 0 := fun h => hr (h2.1 h)
    simp -dsimp -implicitDefEqProofs [h0]
  · obtain rfl := h2.2 hr
    have hfi := hs.fine hr
    have ho := (sizeOk_all hfi.sz).2.1
    simp -dsimp -implicitDefEqProofs
    refine eCall.of (fitsR_s g c ho hc false (by simp [hf])) (by simp) ?_
    simp -dsimp -implicitDefEqProofs
  · obtain rfl := h2.2 hr
    have hfi := hs.fine hr
    obtain ⟨h1, ho, -, -, h5⟩ := sizeOk_all hfi.sz
    simp -dsimp -implicitDefEqProofs
    refine eCall.of (fitsR_s g c ho hc true (by simp [hf])) (by simp) ?_
    simp -dsimp -implicitDefEqProofs
    refine sw_loop_e (fun p : {p : Nat × Nat // p.1 ≤ prodK g.agents ∧ (p.1 ≠ 0 → p.2 ≠ 0)} => SS.of [(2, .v (.one (.mp 0 0))), (3, .v (.one (.mp 1 0))), (4, .v (.one (.mp 2 0))), (6, .v (.one (.mp 3 0))), (7, I .i64 p.1.1)]
        ((0, ⟨26, rowGm g⟩) :: (1, ⟨60, rowCe c⟩) :: (2, ⟨29, [.nils]⟩) :: (3, ⟨29, [if p.1.1 = 0 then .nils else .ms (p.1.2 + 3) 0 p.1.1 2 true]⟩) :: if p.1.1 = 0 then [] else [(p.1.2 + 3, ⟨60, flat rowCe (List.replicate p.1.1 c)⟩)]) (p.1.2 + 4))
      (fun p => prodK g.agents - p.1.1) ⟨(0, 0), Nat.zero_le _, fun h => absurd rfl h⟩ (by kernel_rfl) (Le.to (by simp) (by simp) (by simp)) ?_
    rintro ⟨⟨i, n⟩, hi, hn⟩
    simp only at hi hn
    by_cases a0 : i = 0
    · subst a0
      have hp0 : 0 < prodK g.agents := by
        have := prod_pos (l := g.agents) (fun a ha => (hr.2.all a ha).1) g.agents.length (Nat.le_refl _)
        rwa [List.take_length] at this
      simp -dsimp -implicitDefEqProofs
      refine eCall.of (count_s g hfi) (by simp) ?_
      have hfl := flat_snoc (f := rowCe) c (List.replicate 0 c)
      rw [← rep_snoc, List.replicate_zero, flat_nil, List.nil_append] at hfl
      simp -dsimp -implicitDefEqProofs [hp0, slots]
      exact Again.by ⟨(1, n + 2), by omega, by simp⟩ (Le.to (by simp [i64_1]) (by simp [flat_one]) (by simp)) (by simp; omega)
    have hn0 := hn a0
    simp -dsimp -implicitDefEqProofs [a0, hn0]
    refine eCall.of (count_s g hfi) (by simp) ?_
    by_cases a1 : i < prodK g.agents
    · have wi : IntKind.i64.wrap ((i : Int) + 1) = ((i + 1 : Nat) : Int) := by rw [wrap_i64 _ (by omega) (by omega)]; rfl
      have hfl := flat_snoc (f := rowCe) c (List.replicate i c)
      rw [← rep_snoc] at hfl
      simp -dsimp -implicitDefEqProofs [a1, slots, a0, hn0]
      refine ⟨by omega, ?_⟩
      exact Again.by ⟨(i + 1, n + 2), by omega, by simp⟩ (Le.to (by simp [wi]) (by simp [hfl, hn0]) (by simp)) (by simp; omega)
    have hi2 : i = prodK g.agents := by omega
    subst hi2
    simp -dsimp -implicitDefEqProofs [a0, hn0]

set_option maxRecDepth 20000 in
theorem sameRule_s (a b : List Ce) (ha : ∀ c ∈ a, c.ok) (hb : ∀ c ∈ b, c.ok) (h1 : a.length ≤ 1048576) (hab : a.length = b.length) (h2 : ∀ c ∈ a, c.lot.length ≤ 1048576 ∧ c.pay.length ≤ 1048576)
    (h : ∀ i (h : i < a.length), a[i].lot.map FR.fix = (b[i]'(by omega)).lot.map FR.fix ∧ a[i].pay.map FR.fix = (b[i]'(by omega)).pay.map FR.fix) : CallsS Tryz.prog 46 [ruS a, ruS b] (B true) := by
  refine calls Tryz.func46 rfl (by rfl) (by rfl) (by kernel_rfl) ?_
  simp -dsimp -implicitDefEqProofs [Tryz.f46, hab]
  refine sw_loop_e (fun p : {p : Nat // p ≤ a.length} => SS.of [(2, .v (.one (.mp 0 0))), (3, .v (.one (.mp 1 0))), (5, I .i64 p.1)] [(0, ⟨29, [cesS a]⟩), (1, ⟨29, [cesS b]⟩)] 2)
    (fun p => a.length - p.1) ⟨0, Nat.zero_le _⟩ (by kernel_rfl) (Le.to (by simp) (by simp) (by simp)) ?_
  rintro ⟨i, hi⟩
  by_cases a1 : i < a.length
  · have wi : IntKind.i64.wrap ((i : Int) + 1) = ((i + 1 : Nat) : Int) := by rw [wrap_i64 _ (by omega) (by omega)]; rfl
    have a2 : i < b.length := by omega
    have oa := ha _ (List.getElem_mem a1)
    have ob := hb _ (List.getElem_mem a2)
    obtain ⟨l1, l2⟩ := h2 _ (List.getElem_mem a1)
    obtain ⟨e1, e2⟩ := h i a1
    simp -dsimp -implicitDefEqProofs [a1, a2]
    refine eCall.of (sameNumbers_s a[i].lot b[i].lot oa.2.2.1 ob.2.2.1 l1 e1) (by simp) ?_
    simp -dsimp -implicitDefEqProofs [a1, a2]
    refine eCall.of (sameNumbers_s a[i].pay b[i].pay oa.2.2.2 ob.2.2.2 l2 e2) (by simp) ?_
    simp -dsimp -implicitDefEqProofs
    exact Again.by ⟨i + 1, a1⟩ (Le.to (by simp [wi]) (by simp) (by simp)) (by simp; omega)
  have hi2 : i = a.length := by omega
  subst hi2
  simp -dsimp -implicitDefEqProofs

/-! ### What is fixed -/
theorem fixF_fix {f : FR} (h : f.ok) : (fixF f).fix = f.fix := fix_frQ (sz_fix h)
theorem fixF_ok {f : FR} (h : f.ok) : (fixF f).ok := frQ_ok (by have := sz_fix h; omega)
theorem fixF_big {f : FR} (h : f.ok) {b : Nat} (hb : 1 ≤ b) (h1 : f.big ≤ b) : (fixF f).big ≤ b := by
  by_cases hr : f.right = true
  · have h2 := (FR.right_fix h hr).1
    simp at h2
    obtain ⟨-, h3, h4⟩ := h2
    have l3 := congrArg List.length h3
    have l4 := congrArg List.length h4
    simp at l3 l4
    unfold FR.big at h1 ⊢
    unfold fixF frQ
    simp only
    omega
  · have : f.fix = 0 := by unfold FR.fix; rw [if_neg hr]
    unfold fixF
    rw [this, show (frQ 0).big = 1 by decide +kernel]; exact hb
theorem map_fixF {l : List FR} (h : ∀ f ∈ l, f.ok) : (l.map fixF).map FR.fix = l.map FR.fix := by
  rw [List.map_map]
  exact List.map_congr_left (fun f hf => fixF_fix (h f hf))
theorem fixC_ok {c : Ce} (h : c.ok) : (fixC c).ok := by
  obtain ⟨h1, h2, h3, h4⟩ := h
  refine ⟨by unfold lenOk at *; simpa using h1, by unfold lenOk at *; simpa using h2, fun f hf => ?_, fun f hf => ?_⟩
  · obtain ⟨f1, hf1, rfl⟩ := List.mem_map.1 hf; exact fixF_ok (h3 f1 hf1)
  · obtain ⟨f1, hf1, rfl⟩ := List.mem_map.1 hf; exact fixF_ok (h4 f1 hf1)
theorem fixC_fine {c : Ce} (h : CeFine c) : CeFine (fixC c) := by
  refine ⟨fixC_ok h.ok, fun f hf => ?_, fun f hf => ?_⟩
  · obtain ⟨f1, hf1, rfl⟩ := List.mem_map.1 hf; rw [fixF_fix (h.ok.2.2.1 f1 hf1)]; exact h.lot f1 hf1
  · obtain ⟨f1, hf1, rfl⟩ := List.mem_map.1 hf; rw [fixF_fix (h.ok.2.2.2 f1 hf1)]; exact h.pay f1 hf1
theorem fixC_fits {g : Gm} {c : Ce} (h : c.ok) (hf : FitsOk g c) : FitsOk g (fixC c) := by
  obtain ⟨h1, h2, ⟨h3, h3'⟩, h4, h5⟩ := hf
  obtain ⟨-, -, o3, o4⟩ := h
  refine ⟨by simpa using h1, by simpa using h2, ⟨fun f hf => ?_, by rw [fixC_lot, map_fixF o3]; exact h3'⟩, h4.imp id (fun ⟨f, hf, e⟩ => ⟨fixF f, List.mem_map.2 ⟨f, hf, rfl⟩, by rw [fixF_fix (o3 f hf)]; exact e⟩), h5.imp id (fun h f hf => ?_)⟩
  · obtain ⟨f1, hf1, rfl⟩ := List.mem_map.1 hf; rw [fixF_fix (o3 f1 hf1)]; exact h3 f1 hf1
  · obtain ⟨f1, hf1, rfl⟩ := List.mem_map.1 hf; rw [fixF_fix (o4 f1 hf1)]; exact h f1 hf1

theorem const_no {g : Gm} {d : Ce} {n : Nat} (hp : Play g (List.replicate n d)) : ∀ a, a < g.agents.length → NoA g (List.replicate n d) a := by
  intro a ha m hm t ht
  have hsp : Spot g (List.replicate n d) a m := ⟨hp, ha, hm⟩
  rw [kl_eq ha] at ht
  obtain ⟨-, h2⟩ := hsp.toAt ht
  unfold gainQ
  rw [ceAt_eq h2, ceAt_eq hm, List.getElem_replicate, List.getElem_replicate, Rat.sub_self]
  exact Rat.lt_irrefl

set_option maxRecDepth 20000 in
set_option maxHeartbeats 1000000 in
theorem lawFixed_s (g : Gm) (c : Ce) (hg : g.ok) (hc : c.ok) : CallsS Tryz.prog 9 [gmS g, ceS c] (B true) := by
  refine calls Tryz.func9 rfl (by rfl) (by rfl) (by kernel_rfl) ?_
  have hr : ∀ x ∈ [c], x.ok := fun x hx => by rw [List.mem_singleton.1 hx]; exact hc
  simp -dsimp -implicitDefEqProofs [Tryz.f9]
  refine eCall.of (far_s g hg) (by simp) ?_
  cases h1 : far g with
  | true => simp -dsimp -implicitDefEqProofs
  | false =>
  simp -dsimp -implicitDefEqProofs [slots]
  refine eCall.of (beyondRule_s [c] (by unfold lenOk; simp) hr) (by simp [rowsOf]) ?_
  cases h2 : beyondRule [c] with
  | true => simp -dsimp -implicitDefEqProofs
  | false =>
  have hs := seen_of hg hr h1 h2
  have hcf := hs.ce c (by simp)
  simp -dsimp -implicitDefEqProofs
  by_cases hR : sizeOk g = true ∧ RightOk g
  · by_cases hf : FitsOk g c
    · have hfi := hs.fine hR
      obtain ⟨k1, ho, -, -, h5⟩ := sizeOk_all hfi.sz
      have w1 : isFixd g c c (List.replicate (prodK g.agents) c) 0 := .inr (.inr ⟨hR, hf, rfl, rfl⟩)
      have w2 : isFixd g c (fixC c) (List.replicate (prodK g.agents) (fixC c)) 0 := .inr (.inr ⟨hR, hf, rfl, rfl⟩)
      have hgd : Good g (List.replicate (prodK g.agents) (fixC c)) := ⟨hR.1, hR.2, by simp, fun x hx => by rw [List.eq_of_mem_replicate hx]; exact fixC_fits hc hf⟩
      have hp : Play g (List.replicate (prodK g.agents) (fixC c)) := ⟨⟨hg, hs.bey, by simp; omega, fun x hx => by rw [List.eq_of_mem_replicate hx]; exact fixC_fine hcf⟩, h1, hgd⟩
      have htr : isTr g (List.replicate (prodK g.agents) (fixC c)) (noLi 0 0) true := .inr ⟨const_no hp, rfl, rfl⟩
      have hsr := sameRule_s (List.replicate (prodK g.agents) (fixC c)) (List.replicate (prodK g.agents) c) (fun x hx => by rw [List.eq_of_mem_replicate hx]; exact fixC_ok hc) (fun x hx => by rw [List.eq_of_mem_replicate hx]; exact hc) (by simp; omega) (by simp)
        (fun x hx => by rw [List.eq_of_mem_replicate hx]; have := hf.1; have := hf.2.1; simp; omega) (fun i hi => by rw [List.getElem_replicate, List.getElem_replicate]; exact ⟨map_fixF hc.2.2.1, map_fixF hc.2.2.2⟩)
      refine eCall.of (fixedR_s g c hs _ 0 w1) (by simp) ?_
      simp -dsimp -implicitDefEqProofs
      refine eCall.of (rfixed_s g c hs _ 0 w2) (by simp) ?_
      simp -dsimp -implicitDefEqProofs
      refine eCall.of (rtruth_s g _ hp _ _ htr) (by simp) ?_
      simp -dsimp -implicitDefEqProofs [noLi]
      refine eCall.of hsr (by simp) ?_
      simp -dsimp -implicitDefEqProofs
      refine eCall.of fixed_s (by simp) ?_
      simp -dsimp -implicitDefEqProofs
    · have hfi := hs.fine hR
      have hse : Seen g [] := ⟨hg, hs.bey, by simp, by simp⟩
      have hng : ¬ Good g [] := fun h => by
        have := h.2.2.1
        have := prod_pos (l := g.agents) (fun a ha => (hR.2.all a ha).1) g.agents.length (Nat.le_refl _)
        rw [List.take_length] at this
        simp at *; omega
      refine eCall.of (fixedR_s g c hs [] 3 (.inr (.inl ⟨hR, hf, rfl, rfl⟩))) (by simp) ?_
      simp -dsimp -implicitDefEqProofs
      refine eCall.of (rfixed_s g c hs [] 3 (.inr (.inl ⟨hR, hf, rfl, rfl⟩))) (by simp) ?_
      simp -dsimp -implicitDefEqProofs
      refine eCall.of (rtruthNo_s g [] hse hng) (by simp) ?_
      simp -dsimp -implicitDefEqProofs
      refine eCall.of (sameRule_s [] [] (by simp) (by simp) (by decide) rfl (by simp) (fun i hi => absurd hi (by simp))) (by simp) ?_
      simp -dsimp -implicitDefEqProofs
      refine eCall.of fixed_s (by simp) ?_
      simp -dsimp -implicitDefEqProofs
  · have hse : Seen g [] := ⟨hg, hs.bey, by simp, by simp⟩
    have hng : ¬ Good g [] := fun h => hR ⟨h.1, h.2.1⟩
    refine eCall.of (fixedR_s g c hs [] 2 (.inl ⟨hR, rfl, rfl⟩)) (by simp) ?_
    simp -dsimp -implicitDefEqProofs
    refine eCall.of (rfixed_s g c hs [] 2 (.inl ⟨hR, rfl, rfl⟩)) (by simp) ?_
    simp -dsimp -implicitDefEqProofs
    refine eCall.of (rtruthNo_s g [] hse hng) (by simp) ?_
    simp -dsimp -implicitDefEqProofs
    refine eCall.of (sameRule_s [] [] (by simp) (by simp) (by decide) rfl (by simp) (fun i hi => absurd hi (by simp))) (by simp) ?_
    simp -dsimp -implicitDefEqProofs
    refine eCall.of fixed_s (by simp) ?_
    simp -dsimp -implicitDefEqProofs
end Go.Proofs.YtmgaoecfipkjbaaGreat.Sh

/- The reference's Mix. -/
namespace Go.Proofs.YtmgaoecfipkjbaaGreat.Sh
open Go Go.RowKit

theorem six_mix {g : Gm} {a b : List Ce} {w : FR} (h : Mx g a b w.fix) (hw : w.ok) {n : Nat} (hn : n < a.length) : MixOk w (ceAt a n).lot (ceAt b n).lot ∧ MixOk w (ceAt a n).pay (ceAt b n).pay := by
  have hb : n < b.length := by rw [← h.len]; exact hn
  obtain ⟨c1, c2, c3, c4, c5, c6⟩ := h.cells hn
  obtain ⟨q1, q2, -⟩ := sizeOk_all h.pa.fine.sz
  have ca := (h.pa.ce (List.getElem_mem hn)).1.ok
  have cb := (h.pb.ce (List.getElem_mem hb)).1.ok
  rw [← ceAt_eq hn] at ca
  rw [← ceAt_eq hb] at cb
  exact ⟨⟨hw, h.w6, ca.2.2.1, cb.2.2.1, c1.lot, c2.lot, by omega, by omega⟩, ⟨hw, h.w6, ca.2.2.2, cb.2.2.2, c1.pay, c2.pay, by omega, by omega⟩⟩

set_option maxRecDepth 20000 in
set_option maxHeartbeats 1000000 in
theorem mix4_s (g : Gm) (a b : List Ce) (w : FR) (ha : Seen g a) (hb : Seen g b) (hfar : far g = false) (sa : ∀ c ∈ a, CeSix c) (sb : ∀ c ∈ b, CeSix c) (hw : w.ok) (w6 : mz w.fix ≤ 6) (res : List Ce) (e : Int) (hm : IsMix g a b w.fix res e) :
    CallsS Tryz.prog 47 [gmS g, ruS a, ruS b, frS w] (.tup [ruS res, .one (.int .i64 e)]) := by
  refine calls Tryz.func47 rfl (by rfl) (by rfl) (by kernel_rfl) ?_
  simp -dsimp -implicitDefEqProofs [Tryz.f47]
  obtain ⟨e1, h1, h2⟩ := isRight_of g
  refine eCall.of (right_s g ha.ok ha.bey e1 h1) (by simp) ?_
  by_cases hr : sizeOk g = true ∧ RightOk g
  case neg =>
    obtain ⟨rfl, rfl⟩ := hm.game hr
    have h0 : ¬ e1 = 0 := fun h => hr (h2.1 h)
    simp -dsimp -implicitDefEqProofs [h0]
  obtain rfl : e1 = 0 := h2.2 hr
  have fin : ∀ r, Seen g r → ∃ b : Bool, (b = true ↔ RuleOk g r) ∧ CallsS Tryz.prog 64 [gmS g, ruS r] (B b) := fun r hs => by
    by_cases h : RuleOk g r
    · exact ⟨true, by simp [h], fitsRule_s g r hs true (by simp [Good, hr, h])⟩
    · exact ⟨false, by simp [h], fitsRule_s g r hs false (by simp [Good, hr, h])⟩
  obtain ⟨x, hx, hfx⟩ := fin a ha
  obtain ⟨y, hy, hfy⟩ := fin b hb
  simp -dsimp -implicitDefEqProofs
  refine eCall.of hfx (by simp) ?_
  cases x with
  | false =>
    obtain ⟨rfl, rfl⟩ := hm.rule hr (fun h => by have := hx.2 h.1; cases this)
    simp -dsimp -implicitDefEqProofs
  | true =>
  simp -dsimp -implicitDefEqProofs
  refine eCall.of hfy (by simp) ?_
  cases y with
  | false =>
    obtain ⟨rfl, rfl⟩ := hm.rule hr (fun h => by have := hy.2 h.2; cases this)
    simp -dsimp -implicitDefEqProofs
  | true =>
  have hro : RuleOk g a ∧ RuleOk g b := ⟨hx.1 rfl, hy.1 rfl⟩
  simp -dsimp -implicitDefEqProofs
  refine eCall.of (signR_s w hw) (by simp) ?_
  by_cases w0 : w.fix < 0
  · obtain ⟨rfl, rfl⟩ := hm.lot hr hro (fun h => Rat.not_lt.2 h.1 w0)
    simp -dsimp -implicitDefEqProofs [sgnQ_neg.2 w0]
  have hcm := cmpR_s w (frQ 1) hw (frQ_ok (by decide +kernel))
  rw [fix_frQ (by decide +kernel)] at hcm
  simp -dsimp -implicitDefEqProofs [mt sgnQ_neg.1 w0]
  refine eCall.of (intR_s 1 (by decide) (by decide)) (by simp) ?_
  simp -dsimp -implicitDefEqProofs
  refine eCall.of hcm (by simp [frQ, ng]; try rfl) ?_
  by_cases w1 : 1 < w.fix
  · obtain ⟨rfl, rfl⟩ := hm.lot hr hro (fun h => Rat.not_lt.2 h.2 w1)
    simp -dsimp -implicitDefEqProofs [cmpQ_pos.2 w1]
  have hw01 : 0 ≤ w.fix ∧ w.fix ≤ 1 := ⟨Rat.not_lt.1 w0, Rat.not_lt.1 w1⟩
  have hM : Mx g a b w.fix := ⟨⟨ha, hfar, hr.1, hr.2, hro.1⟩, ⟨hb, hfar, hr.1, hr.2, hro.2⟩, sa, sb, w6, hw01.1, hw01.2⟩
  obtain ⟨q1, q2, -, q4, q5⟩ := sizeOk_all hr.1
  have hal := hro.1.1
  have hlb := hM.len
  have hlR := hM.lenR
  simp -dsimp -implicitDefEqProofs [mt cmpQ_pos.1 w1]
  refine sw_loop_e (fun p : {p : Nat × Nat // p.1 ≤ a.length ∧ ∀ c ∈ (mixR w.fix a b).take p.1, FitsOk g c} => SS.of [(4, .v (.one (.mp 0 0))), (5, .v (.one (.mp 1 0))), (6, .v (.one (.mp 2 0))), (7, .v (.one (.mp 3 0))), (8, .v (.one (.mp 4 0))), (10, .v (.one (.mp 5 0))), (11, I .i64 p.1.1)] ((0, ⟨26, rowGm g⟩) :: (1, ⟨29, [cesS a]⟩) :: (2, ⟨29, [cesS b]⟩) :: (3, ⟨37, rowFr w⟩) :: (4, ⟨29, [.nils]⟩) :: (5, ⟨29, [if p.1.1 = 0 then .nils else .ms (p.1.2 + 6) 0 p.1.1 2 true]⟩) :: if p.1.1 = 0 then [] else [(p.1.2 + 6, ⟨60, flat rowCe ((mixR w.fix a b).take p.1.1)⟩)]) (p.1.2 + 7))
    (fun p => a.length - p.1.1) ⟨(0, 0), Nat.zero_le _, by simp⟩ (by kernel_rfl) (Le.to (by simp) (by simp) (by simp)) ?_
  rintro ⟨⟨i, c⟩, hi, hq⟩
  simp only at hi hq
  by_cases a1 : i < a.length
  · have wi : IntKind.i64.wrap ((i : Int) + 1) = ((i + 1 : Nat) : Int) := by rw [wrap_i64 _ (by omega) (by omega)]; rfl
    have a2 : i < b.length := by omega
    have a3 : i < (mixR w.fix a b).length := by omega
    obtain ⟨m1, m2⟩ := six_mix hM hw a1
    rw [ceAt_eq a1, ceAt_eq a2] at m1 m2
    have hce : (mixR w.fix a b)[i] = ⟨mixL w.fix a[i].lot b[i].lot, mixL w.fix a[i].pay b[i].pay⟩ := by simp [mixR, mixC]
    have hfine := hM.seen.ce _ (List.getElem_mem a3)
    have htl : ((mixR w.fix a b).take i).length = i := by rw [List.length_take]; omega
    have hfl := flat_snoc (f := rowCe) (mixR w.fix a b)[i] ((mixR w.fix a b).take i)
    rw [← takeSnoc _ i a3, hce] at hfl
    obtain ⟨x, hx2⟩ := boolJ (FitsOk g (mixR w.fix a b)[i])
    have hfit := fitsR_s g _ q2 hfine x hx2
    rw [hce] at hfit
    by_cases i0 : i = 0
    · have hif : ∀ {α : Type} (x y : α), (if i = 0 then x else y) = x := fun x y => if_pos i0
      have hte : (mixR w.fix a b).take i = [] := by rw [i0]; rfl
      rw [hte, flat_nil, List.nil_append] at hfl
      simp -dsimp -implicitDefEqProofs [a1, a2, hif]
      refine eCall.of (mixed4_s w _ _ m1) (by simp) ?_
      simp -dsimp -implicitDefEqProofs [a1, a2, hif]
      refine eCall.of (mixed4_s w _ _ m2) (by simp) ?_
      simp -dsimp -implicitDefEqProofs [hif, slots]
      refine eCall.of hfit (by simp) ?_
      cases x with
      | false =>
        obtain ⟨rfl, rfl⟩ := hm.cell hr hro hw01 (fun h => by have := hx2.2 (h _ (List.getElem_mem a3)); cases this)
        simp -dsimp -implicitDefEqProofs
      | true =>
        have hq2 : ∀ c ∈ (mixR w.fix a b).take (i + 1), FitsOk g c := fun c hc => by
          rw [takeSnoc _ i a3] at hc
          rcases List.mem_append.1 hc with hc | hc
          · exact hq c hc
          · rw [List.mem_singleton.1 hc]; exact hx2.1 rfl
        simp -dsimp -implicitDefEqProofs [hif, slots, htl, wi]
        exact Again.by ⟨(i + 1, c + 3), a1, hq2⟩ (Le.to (by simp) (by simp only [if_neg (show ¬ i + 1 = 0 by omega)]; simp [hfl]; exact i0) (by simp)) (by simp; omega)
    · have hif : ∀ {α : Type} (x y : α), (if i = 0 then x else y) = y := fun x y => if_neg i0
      simp -dsimp -implicitDefEqProofs [a1, a2, hif]
      refine eCall.of (mixed4_s w _ _ m1) (by simp) ?_
      simp -dsimp -implicitDefEqProofs [a1, a2, hif]
      refine eCall.of (mixed4_s w _ _ m2) (by simp) ?_
      simp -dsimp -implicitDefEqProofs [hif, slots]
      refine eCall.of hfit (by simp) ?_
      cases x with
      | false =>
        obtain ⟨rfl, rfl⟩ := hm.cell hr hro hw01 (fun h => by have := hx2.2 (h _ (List.getElem_mem a3)); cases this)
        simp -dsimp -implicitDefEqProofs
      | true =>
        have hq2 : ∀ c ∈ (mixR w.fix a b).take (i + 1), FitsOk g c := fun c hc => by
          rw [takeSnoc _ i a3] at hc
          rcases List.mem_append.1 hc with hc | hc
          · exact hq c hc
          · rw [List.mem_singleton.1 hc]; exact hx2.1 rfl
        simp -dsimp -implicitDefEqProofs [hif, slots, htl, wi]
        refine ⟨⟨by omega, by omega⟩, ?_⟩
        exact Again.by ⟨(i + 1, c + 3), a1, hq2⟩ (Le.to (by simp) (by simp only [if_neg (show ¬ i + 1 = 0 by omega)]; simp [hfl]) (by simp)) (by simp; omega)
  have hi2 : i = a.length := by omega
  subst hi2
  rw [List.take_of_length_le (by omega)] at hq
  obtain ⟨rfl, rfl⟩ := hm.good hr hro hw01 hq
  have htl : ((mixR w.fix a b).take a.length) = mixR w.fix a b := List.take_of_length_le (by omega)
  by_cases i0 : a.length = 0
  · have ha0 : a = [] := List.length_eq_zero_iff.1 i0
    simp -dsimp -implicitDefEqProofs [ha0, mixR]
  · have ha0 : ¬ a = [] := fun e => i0 (by rw [e]; rfl)
    simp -dsimp -implicitDefEqProofs [ha0, htl, hlR]
end Go.Proofs.YtmgaoecfipkjbaaGreat.Sh

/- The program's Mix. -/
namespace Go.Proofs.YtmgaoecfipkjbaaGreat.Sh
open Go Go.RowKit

set_option maxRecDepth 20000 in
set_option maxHeartbeats 1000000 in
theorem mix_s (g : Gm) (a b : List Ce) (w : FR) (ha : Seen g a) (hb : Seen g b) (hfar : far g = false) (sa : ∀ c ∈ a, CeSix c) (sb : ∀ c ∈ b, CeSix c) (hw : w.ok) (w6 : mz w.fix ≤ 6) (res : List Ce) (e : Int) (hm : IsMix g a b w.fix res e) :
    CallsS Tryz.prog 48 [gmS g, ruS a, ruS b, frS w] (.tup [ruS res, .one (.int .i64 e)]) := by
  obtain ⟨ea, ha1, ha2⟩ := isGood_of g a
  obtain ⟨eb, hb1, hb2⟩ := isGood_of g b
  refine calls Tryz.func48 rfl (by rfl) (by rfl) (by kernel_rfl) ?_
  simp -dsimp -implicitDefEqProofs [Tryz.f48, slots]
  refine sw_loop_e (fun p : {p : Nat × Nat // p.1 ≤ 2 ∧ (1 ≤ p.1 → Good g a) ∧ (2 ≤ p.1 → Good g b)} => SS.of [(4, .v (.one (.mp 0 0))), (5, .v (.one (.mp 1 0))), (6, .v (.one (.mp 2 0))), (7, .v (.one (.mp 3 0))), (8, .v (.one (.mp 4 0))), (9, I .i64 0), (23, .v (.one (.ms 5 0 2 1 true))), (24, I .i64 2), (25, I .i64 p.1.1)] [(0, ⟨26, rowGm g⟩), (1, ⟨29, [cesS a]⟩), (2, ⟨29, [cesS b]⟩), (3, ⟨37, rowFr w⟩), (4, ⟨29, [.nils]⟩), (5, ⟨29, [cesS a, cesS b]⟩)] (p.1.2 + 6))
    (fun p => 2 - p.1.1) ⟨(0, 0), Nat.zero_le _, by simp, by simp⟩ (by kernel_rfl) (Le.to (by simp) (by simp) (by simp)) ?_
  rintro ⟨⟨i, c⟩, hi, f1, f2⟩
  simp only at hi f1 f2
  have bada : ¬ Good g a → res = [] ∧ e = ea := fun hn => by
    rcases ha1 with ⟨n, rfl⟩ | ⟨gm, n, rfl⟩ | ⟨gd, rfl⟩
    · exact hm.game n
    · exact hm.rule gm (fun h => n h.1)
    · exact absurd gd hn
  have badb : ¬ Good g b → res = [] ∧ e = eb := fun hn => by
    rcases hb1 with ⟨n, rfl⟩ | ⟨gm, n, rfl⟩ | ⟨gd, rfl⟩
    · exact hm.game n
    · exact hm.rule gm (fun h => n h.2)
    · exact absurd gd hn
  have w1 : IntKind.i64.wrap 1 = 1 := by decide
  have w2 : IntKind.i64.wrap 2 = 2 := by decide
  by_cases i0 : i = 0
  · subst i0
    simp -dsimp -implicitDefEqProofs [w1]
    refine eCall.of (rright_s g a ha ea ha1) (by simp) ?_
    by_cases hg : Good g a
    · obtain rfl : ea = 0 := ha2.2 hg
      simp -dsimp -implicitDefEqProofs [w1]
      exact Again.by ⟨(1, c + 1), by simp, fun _ => hg, fun h => absurd h (by simp)⟩ (Le.to (by simp) (by simp) (by simp)) (by simp)
    · obtain ⟨rfl, rfl⟩ := bada hg
      have h0 : ¬ e = 0 := fun h => hg (ha2.1 h)
      simp -dsimp -implicitDefEqProofs [h0]
  by_cases i1 : i = 1
  · subst i1
    have hga := f1 (by decide)
    simp -dsimp -implicitDefEqProofs [w2]
    refine eCall.of (rright_s g b hb eb hb1) (by simp) ?_
    by_cases hg : Good g b
    · obtain rfl : eb = 0 := hb2.2 hg
      simp -dsimp -implicitDefEqProofs [w2]
      exact Again.by ⟨(2, c + 1), by simp, fun _ => hga, fun _ => hg⟩ (Le.to (by simp) (by simp) (by simp)) (by simp)
    · obtain ⟨rfl, rfl⟩ := badb hg
      have h0 : ¬ e = 0 := fun h => hg (hb2.1 h)
      simp -dsimp -implicitDefEqProofs [h0]
  obtain rfl : i = 2 := by omega
  have hga := f1 (by decide)
  have hgb := f2 (by decide)
  have hr : sizeOk g = true ∧ RightOk g := ⟨hga.1, hga.2.1⟩
  have hro : RuleOk g a ∧ RuleOk g b := ⟨hga.2.2, hgb.2.2⟩
  have hmk := fmake_s 1 1 (by decide) (by decide) (by decide) (by decide) (by decide)
  rw [show (((1 : Int) : Rat) / ((1 : Int) : Rat)) = 1 by decide +kernel] at hmk
  have hsu := fsub_s (frQ 1) w (frQ_ok (by decide +kernel)) hw
  have hw1 : mz (1 - w.fix) ≤ 8 := by
    have h3 := mz_sub 1 w.fix
    have h5 : mz 1 = 1 := by decide +kernel
    omega
  have z1 := (cap_mz (show mz (1 - w.fix) ≤ 2048 by omega)).2
  rw [fix_frQ (by decide +kernel), (cap_mz (show mz (1 - w.fix) ≤ 2048 by omega)).1] at hsu
  have hsg := fsign_s (frQ (1 - w.fix)) (frQ_ok (by omega))
  rw [fix_frQ z1] at hsg
  simp -dsimp -implicitDefEqProofs
  refine eCall.of hmk (by simp) ?_
  simp -dsimp -implicitDefEqProofs
  refine eCall.of hsu (by simp [frQ, ng]; try rfl) ?_
  simp -dsimp -implicitDefEqProofs
  refine eCall.of (fsign_s w hw) (by simp) ?_
  by_cases w0 : w.fix < 0
  · obtain ⟨rfl, rfl⟩ := hm.lot hr hro (fun h => Rat.not_lt.2 h.1 w0)
    simp -dsimp -implicitDefEqProofs [sgnQ_neg.2 w0]
  simp -dsimp -implicitDefEqProofs [mt sgnQ_neg.1 w0]
  refine eCall.of hsg (by simp [frQ, ng]) ?_
  by_cases w1' : 1 - w.fix < 0
  · obtain ⟨rfl, rfl⟩ := hm.lot hr hro (fun h => by have := h.2; grind)
    simp -dsimp -implicitDefEqProofs [sgnQ_neg.2 w1']
  have hw01 : 0 ≤ w.fix ∧ w.fix ≤ 1 := ⟨Rat.not_lt.1 w0, by grind⟩
  simp -dsimp -implicitDefEqProofs [mt sgnQ_neg.1 w1']
  have hM : Mx g a b w.fix := ⟨⟨ha, hfar, hr.1, hr.2, hro.1⟩, ⟨hb, hfar, hr.1, hr.2, hro.2⟩, sa, sb, w6, hw01.1, hw01.2⟩
  obtain ⟨q1, q2, -, q4, q5⟩ := sizeOk_all hr.1
  have hal := hro.1.1
  have hlb := hM.len
  have hlR := hM.lenR
  clear f1 f2
  refine sw_loop_e (fun p : {p : Nat × Nat // p.1 ≤ a.length} => SS.of [(4, .v (.one (.mp 0 0))), (6, .v (.one (.mp 2 0))), (8, .v (.one (.mp 4 0))), (9, I .i64 0), (16, .v (.one (.fn 111 [.rp true (rowFr w), .rp true (rowFr (frQ (1 - w.fix)))]))), (17, .v (.one (.mp (c + 8) 0))), (55, .v (.one (cesS a))), (56, I .i64 a.length), (57, I .i64 p.1.1)] ((0, ⟨26, rowGm g⟩) :: (1, ⟨29, [cesS a]⟩) :: (2, ⟨29, [cesS b]⟩) :: (4, ⟨29, [.nils]⟩) :: (c + 8, ⟨29, [if p.1.1 = 0 then .nils else .ms (c + p.1.2 + 9) 0 p.1.1 2 true]⟩) :: if p.1.1 = 0 then [] else [(c + p.1.2 + 9, ⟨60, flat rowCe ((mixR w.fix a b).take p.1.1)⟩)]) (c + p.1.2 + 10))
    (fun p => a.length - p.1.1) ⟨(0, 0), Nat.zero_le _⟩ (by kernel_rfl) (Le.to (by simp [frQ, ng]) (by simp) (by simp)) ?_
  rintro ⟨⟨i, d⟩, hi⟩
  simp only at hi
  have f1 : ¬ c + d + 1 = c := by omega
  have f2 : ¬ c + d + 2 = c := by omega
  have f3 : ¬ c + d + 3 = c := by omega
  have f4 : ¬ c + d + 4 = c := by omega
  have f5 : ¬ c + d + 5 = c := by omega
  have f1' : ¬ c = c + d + 1 := by omega
  have f2' : ¬ c = c + d + 2 := by omega
  have f3' : ¬ c = c + d + 3 := by omega
  have f4' : ¬ c = c + d + 4 := by omega
  have f5' : ¬ c = c + d + 5 := by omega
  by_cases a1 : i < a.length
  · have wi : IntKind.i64.wrap ((i : Int) + 1) = ((i + 1 : Nat) : Int) := by rw [wrap_i64 _ (by omega) (by omega)]; rfl
    have a2 : i < b.length := by omega
    have a3 : i < (mixR w.fix a b).length := by omega
    obtain ⟨m1, m2⟩ := six_mix hM hw a1
    rw [ceAt_eq a1, ceAt_eq a2] at m1 m2
    have hce : (mixR w.fix a b)[i] = ⟨mixL w.fix a[i].lot b[i].lot, mixL w.fix a[i].pay b[i].pay⟩ := by simp [mixR, mixC]
    have htl : ((mixR w.fix a b).take i).length = i := by rw [List.length_take]; omega
    have hfl := flat_snoc (f := rowCe) (mixR w.fix a b)[i] ((mixR w.fix a b).take i)
    rw [← takeSnoc _ i a3, hce] at hfl
    by_cases i0 : i = 0
    · have hif : ∀ {α : Type} (x y : α), (if i = 0 then x else y) = x := fun x y => if_pos i0
      have hte : (mixR w.fix a b).take i = [] := by rw [i0]; rfl
      rw [hte, flat_nil, List.nil_append] at hfl
      simp -dsimp -implicitDefEqProofs [a1, a2, hif, f1, f2, f3, f4, f5, f1', f2', f3', f4', f5']
      refine eCall.of (mixed1_s w _ _ m1) (by simp [frQ, ng]) ?_
      simp -dsimp -implicitDefEqProofs [a1, a2, hif, f1, f2, f3, f4, f5, f1', f2', f3', f4', f5']
      refine eCall.of (mixed1_s w _ _ m2) (by simp [frQ, ng]) ?_
      simp -dsimp -implicitDefEqProofs [hif, slots, wi, f1, f2, f3, f4, f5, f1', f2', f3', f4', f5']
      exact Again.by ⟨(i + 1, d + 3), a1⟩ (Le.to (by simp) (by simp only [if_neg (show ¬ i + 1 = 0 by omega)]; simp [hfl, ← Nat.add_assoc, f1, f2, f3, f4, f5, f1', f2', f3', f4', f5']; exact i0) (by simp <;> omega)) (by simp; omega)
    · have hif : ∀ {α : Type} (x y : α), (if i = 0 then x else y) = y := fun x y => if_neg i0
      simp -dsimp -implicitDefEqProofs [a1, a2, hif, f1, f2, f3, f4, f5, f1', f2', f3', f4', f5']
      refine eCall.of (mixed1_s w _ _ m1) (by simp [frQ, ng]) ?_
      simp -dsimp -implicitDefEqProofs [a1, a2, hif, f1, f2, f3, f4, f5, f1', f2', f3', f4', f5']
      refine eCall.of (mixed1_s w _ _ m2) (by simp [frQ, ng]) ?_
      simp -dsimp -implicitDefEqProofs [hif, slots, wi, htl, f1, f2, f3, f4, f5, f1', f2', f3', f4', f5']
      refine ⟨⟨by omega, by omega⟩, ?_⟩
      exact Again.by ⟨(i + 1, d + 3), a1⟩ (Le.to (by simp) (by simp only [if_neg (show ¬ i + 1 = 0 by omega)]; simp [hfl, ← Nat.add_assoc, f1, f2, f3, f4, f5, f1', f2', f3', f4', f5']) (by simp <;> omega)) (by simp; omega)
  have hi2 : i = a.length := by omega
  subst hi2
  have htl : ((mixR w.fix a b).take a.length) = mixR w.fix a b := List.take_of_length_le (by omega)
  have hpp := prod_pos (l := g.agents) (fun x hx => (hr.2.all x hx).1) g.agents.length (Nat.le_refl _)
  rw [List.take_length] at hpp
  have ha0 : ¬ a = [] := fun e => by rw [e] at hal; simp at hal; omega
  obtain ⟨em, he, he0⟩ := isGood_of g (mixR w.fix a b)
  simp -dsimp -implicitDefEqProofs [ha0, htl, hlR, f1, f2, f3, f4, f5, f1', f2', f3', f4', f5']
  refine eCall.of (rright_s g (mixR w.fix a b) hM.seen em he) (by simp [hlR]) ?_
  by_cases hfi : ∀ c ∈ mixR w.fix a b, FitsOk g c
  · obtain ⟨rfl, rfl⟩ := hm.good hr hro hw01 hfi
    obtain rfl : em = 0 := he0.2 ⟨hr.1, hr.2, by rw [hlR]; exact hal, hfi⟩
    simp -dsimp -implicitDefEqProofs [htl, hlR, f1, f2, f3, f4, f5, f1', f2', f3', f4', f5']
  · obtain ⟨rfl, rfl⟩ := hm.cell hr hro hw01 hfi
    have hem : em = 3 := by
      rcases he with ⟨n, rfl⟩ | ⟨-, -, rfl⟩ | ⟨gd, rfl⟩
      · exact absurd hr n
      · rfl
      · exact absurd gd.2.2.2 hfi
    simp -dsimp -implicitDefEqProofs [hem, htl, hlR, f1, f2, f3, f4, f5, f1', f2', f3', f4', f5']
end Go.Proofs.YtmgaoecfipkjbaaGreat.Sh

/- Rows of right numbers. -/
namespace Go.Proofs.YtmgaoecfipkjbaaGreat.Sh
open Go Go.RowKit

set_option maxRecDepth 20000 in
theorem rightNumbers_s (l : List FR) (hl : ∀ f ∈ l, f.ok) (hr : ∀ f ∈ l, f.right = true) (h1 : l.length ≤ 1048576) : CallsS Tryz.prog 112 [.one (frsS l)] (B true) := by
  refine calls Tryz.func112 rfl (by rfl) (by rfl) (by kernel_rfl) ?_
  simp -dsimp -implicitDefEqProofs [Tryz.f112]
  refine sw_loop_e (fun p : {p : Nat // p ≤ l.length} => SS.of [(0, .v (.one (frsS l))), (3, I .i64 p.1)] [] 0)
    (fun p => l.length - p.1) ⟨0, Nat.zero_le _⟩ (by kernel_rfl) (Le.to (by simp) (by simp) (by simp)) ?_
  rintro ⟨i, hi⟩
  by_cases a1 : i < l.length
  · have wi : IntKind.i64.wrap ((i : Int) + 1) = ((i + 1 : Nat) : Int) := by rw [wrap_i64 _ (by omega) (by omega)]; rfl
    have hri := rightR_s l[i] (hl _ (List.getElem_mem a1))
    rw [hr _ (List.getElem_mem a1)] at hri
    simp -dsimp -implicitDefEqProofs [a1]
    refine eCall.of hri (by simp) ?_
    simp -dsimp -implicitDefEqProofs
    exact Again.by ⟨i + 1, a1⟩ (Le.to (by simp [wi]) (by simp) (by simp)) (by simp; omega)
  have hi2 : i = l.length := by omega
  subst hi2
  simp -dsimp -implicitDefEqProofs

set_option maxRecDepth 20000 in
theorem same4_s (r : List Ce) (hok : ∀ c ∈ r, c.ok) (hrt : ∀ c ∈ r, (∀ f ∈ c.lot, f.right = true) ∧ ∀ f ∈ c.pay, f.right = true) (h1 : r.length ≤ 1048576) (h2 : ∀ c ∈ r, c.lot.length ≤ 1048576 ∧ c.pay.length ≤ 1048576) : CallsS Tryz.prog 49 [ruS r, ruS r] (B true) := by
  refine calls Tryz.func49 rfl (by rfl) (by rfl) (by kernel_rfl) ?_
  simp -dsimp -implicitDefEqProofs [Tryz.f49]
  refine sw_loop_e (fun p : {p : Nat // p ≤ r.length} => SS.of [(2, .v (.one (.mp 0 0))), (3, .v (.one (.mp 1 0))), (5, I .i64 p.1)] [(0, ⟨29, [cesS r]⟩), (1, ⟨29, [cesS r]⟩)] 2)
    (fun p => r.length - p.1) ⟨0, Nat.zero_le _⟩ (by kernel_rfl) (Le.to (by simp) (by simp) (by simp)) ?_
  rintro ⟨i, hi⟩
  by_cases a1 : i < r.length
  · have wi : IntKind.i64.wrap ((i : Int) + 1) = ((i + 1 : Nat) : Int) := by rw [wrap_i64 _ (by omega) (by omega)]; rfl
    obtain ⟨o1, o2, o3, o4⟩ := hok _ (List.getElem_mem a1)
    obtain ⟨r1, r2⟩ := hrt _ (List.getElem_mem a1)
    obtain ⟨l1, l2⟩ := h2 _ (List.getElem_mem a1)
    simp -dsimp -implicitDefEqProofs [a1]
    refine eCall.of (rightNumbers_s r[i].lot o3 r1 l1) (by simp) ?_
    simp -dsimp -implicitDefEqProofs [a1]
    refine eCall.of (rightNumbers_s r[i].pay o4 r2 l2) (by simp) ?_
    simp -dsimp -implicitDefEqProofs
    exact Again.by ⟨i + 1, a1⟩ (Le.to (by simp [wi]) (by simp) (by simp)) (by simp; omega)
  have hi2 : i = r.length := by omega
  subst hi2
  simp -dsimp -implicitDefEqProofs
  refine eCall.of (sameRule_s r r hok hok h1 rfl h2 (fun i hi => ⟨rfl, rfl⟩)) (by simp) ?_
  simp -dsimp -implicitDefEqProofs
end Go.Proofs.YtmgaoecfipkjbaaGreat.Sh

/- The reference's Meets. -/
namespace Go.Proofs.YtmgaoecfipkjbaaGreat.Sh
open Go Go.RowKit

theorem cmpQ_le {p q : Rat} : cmpQ p q ≤ 0 ↔ p ≤ q := by
  rw [← Int.not_lt, cmpQ_pos, Rat.not_lt]
theorem cmpQ_ge {p q : Rat} : 0 ≤ cmpQ p q ↔ q ≤ p := by
  rw [← Int.not_lt, cmpQ_neg, Rat.not_lt]

theorem tf {b : Bool} {P : Prop} (h : b = true ↔ P) (hp : P) : b = true := h.2 hp

/-- What the order need asks, at one place. -/
theorem order_facts {g : Gm} {r : List Ce} {a m : Nat} (h : Spot g r a m) {xs : List Int} (hx : RiseOk xs g.outs.length) : InR xs (r[m]'h.hn).lot.length ∧ Small (picks (r[m]'h.hn).lot xs) 28 ∧ mz (amongQ (r[m]'h.hn).lot xs) ≤ 175 := by
  have hce := h.play.ce (List.getElem_mem h.hn)
  have h6 := (sizeOk_all h.play.fine.sz).2.1
  have hl := rise_len hx
  have hir : InR xs (r[m]'h.hn).lot.length := by rw [hce.2.1]; exact rise_inR hx
  have hsm := picks_small (CeFine.small (g := g) hce.1 (by omega)) hir (by omega)
  have h2 := mz_sum ((picks (r[m]'h.hn).lot xs).map FR.fix) 28 hsm.mz
  have h3 : ((picks (r[m]'h.hn).lot xs).map FR.fix).length ≤ 6 := by simp [picks]; omega
  exact ⟨hir, hsm, by unfold amongQ; omega⟩

set_option maxRecDepth 20000 in
set_option maxHeartbeats 2000000 in
theorem meetsAt4_s (g : Gm) (r : List Ce) (h : Play g r) (n : Nd) (hn : n.ok) (hsh : ShapedOk g.agents.length g.outs.length n) (m : Nat) (hm : m < r.length) : ∀ b, (b = true ↔ MeetAt g r n m) → CallsS Tryz.prog 113 [gmS g, ruS r, ndS n, .one (.int .i64 (m : Int))] (B b) := by
  intro b hb
  have hf := h.fine
  obtain ⟨h1, h6, -, h4, h5⟩ := sizeOk_all hf.sz
  have hrl := h.good.2.2.1
  have hal := atG_length g m
  have hce := h.ce (List.getElem_mem hm)
  have hpl := hce.2.2
  have hat := at_s g hf m (by omega)
  refine calls Tryz.func113 rfl (by rfl) (by rfl) (by kernel_rfl) ?_
  simp -dsimp -implicitDefEqProofs [Tryz.f113]
  refine eCall.of hat (by simp) ?_
  simp -dsimp -implicitDefEqProofs [hm]
  have hpay := paidR_s r[m] (hce.1.pays (by omega))
  have hpz : sz (paidQ r[m]) ≤ 4096 := sz_cap _
  have hsg := signR_s (frQ (paidQ r[m])) (frQ_ok (by omega))
  rw [fix_frQ hpz] at hsg
  by_cases k1 : n.kind = 1
  · have kk := eq_true k1
    rw [MeetAt, if_pos k1] at hb
    simp -dsimp -implicitDefEqProofs [kk]
    refine sw_loop_e (fun p : {p : Nat // p ≤ g.agents.length ∧ ∀ a, a < p → ¬ useQ g r m a < (kdAt g a (kOf g m a)).alone.fix} => SS.of [(3, I .i64 m), (4, .v (.one (.mp 0 0))), (5, .v (.one (.mp 1 0))), (9, .v (.one (intsS (atG g m)))), (11, I .i64 p.1)] [(0, ⟨26, rowGm g⟩), (1, ⟨29, [cesS r]⟩)] 4)
      (fun p => g.agents.length - p.1) ⟨0, Nat.zero_le _, fun a ha => absurd ha (by omega)⟩ (by kernel_rfl) (Le.to (by simp) (by simp) (by simp)) ?_
    rintro ⟨a, ha, hq⟩
    by_cases a1 : a < g.agents.length
    · have wi : IntKind.i64.wrap ((a : Int) + 1) = ((a + 1 : Nat) : Int) := by rw [wrap_i64 _ (by omega) (by omega)]; rfl
      have hsp : Spot g r a m := ⟨h, a1, hm⟩
      obtain ⟨k1, k2⟩ := hsp.kof
      have al : a < (atG g m).length := by omega
      have k1' : (atG g m)[a] = (kOf g m a : Int) := by rw [List.getElem?_eq_getElem al] at k1; exact Option.some.inj k1
      have hkd := (h.kd (List.getElem_mem a1) (List.getElem_mem k2)).1
      have hP0 := hsp.pair hm k2
      have hu : useQ g r m a = hasQ r[m] (g.agents[a].kinds[kOf g m a]) a := by unfold useQ; rw [ceAt_eq hm, kdAt_eq a1 k2]
      have hhas := hasP_s g r a (kOf g m a) m a1 k2 hm hP0
      rw [← hu] at hhas
      have huz := (cap_mz (show mz (useQ g r m a) ≤ 2048 by have := hsp.use.1; omega)).2
      have hcm := cmpR_s (frQ (useQ g r m a)) (g.agents[a].kinds[kOf g m a]).alone (frQ_ok (by omega)) hkd.ok.2.2.1
      rw [fix_frQ huz] at hcm
      simp -dsimp -implicitDefEqProofs [al, a1, k1', k2]
      refine eCall.of hhas (by simp) ?_
      simp -dsimp -implicitDefEqProofs [al, a1, k1', k2]
      refine eCall.of hcm (by simp [frQ, ng]) ?_
      by_cases c : useQ g r m a < (g.agents[a].kinds[kOf g m a]).alone.fix
      · have hb' := nf hb (fun hh => hh a a1 (by rw [kdAt_eq a1 k2]; exact c))
        simp -dsimp -implicitDefEqProofs [cmpQ_neg.2 c, hb']
      · simp -dsimp -implicitDefEqProofs [mt cmpQ_neg.1 c]
        refine Again.by ⟨a + 1, a1, fun a' ha' => ?_⟩ (Le.to (by simp [wi]) (by simp) (by simp)) (by simp; omega)
        by_cases e : a' = a
        · subst e; rw [kdAt_eq a1 k2]; exact c
        · exact hq a' (by omega)
    have ha2 : a = g.agents.length := by omega
    subst ha2
    have hb' := tf hb hq
    simp -dsimp -implicitDefEqProofs [hal, hb']
  have kk1 := eq_false k1
  rw [MeetAt, if_neg k1] at hb
  by_cases k2 : n.kind = 2
  · have kk := eq_true k2
    rw [if_pos k2, ceAt_eq hm] at hb
    simp -dsimp -implicitDefEqProofs [kk1, kk]
    refine eCall.of hpay (by simp) ?_
    simp -dsimp -implicitDefEqProofs
    refine eCall.of hsg (by simp [frQ, ng]) ?_
    have e : b = decide (0 ≤ sgnQ (paidQ r[m])) := by
      rw [Bool.eq_iff_iff, hb, decide_eq_true_iff, ← Int.not_lt, sgnQ_neg]
    simp -dsimp -implicitDefEqProofs [e]
  have kk2 := eq_false k2
  rw [if_neg k2] at hb
  by_cases k3 : n.kind = 3
  · have kk := eq_true k3
    rw [if_pos k3, ceAt_eq hm] at hb
    simp -dsimp -implicitDefEqProofs [kk1, kk2, kk]
    refine eCall.of hpay (by simp) ?_
    simp -dsimp -implicitDefEqProofs
    refine eCall.of hsg (by simp [frQ, ng]) ?_
    have e : b = (sgnQ (paidQ r[m]) == 0) := by
      rw [Bool.eq_iff_iff, hb, beq_iff_eq]
      have h1 := sgnQ_neg (q := paidQ r[m])
      have h2 := sgnQ_pos (q := paidQ r[m])
      constructor
      · intro h0; rw [h0] at h1 h2 ⊢
        have := mt h1.1 Rat.lt_irrefl
        have := mt h2.1 Rat.lt_irrefl
        omega
      · intro h0
        rw [h0] at h1 h2
        have := mt h1.2 (by omega)
        have := mt h2.2 (by omega)
        grind
    simp -dsimp -implicitDefEqProofs [e]
  have kk3 := eq_false k3
  rw [if_neg k3] at hb
  by_cases k4 : n.kind = 4
  · have kk := eq_true k4
    rw [if_pos k4, ceAt_eq hm] at hb
    simp -dsimp -implicitDefEqProofs [kk1, kk2, kk3, kk]
    refine sw_loop_e (fun p : {p : Nat // p ≤ g.agents.length ∧ ∀ f ∈ r[m].pay.take p, ¬ n.bound.fix < f.fix ∧ ¬ f.fix < -n.bound.fix} => SS.of [(6, .v (.one (.mp 2 0))), (9, .v (.one (intsS (atG g m)))), (10, .v (.one (.mp 3 0))), (12, I .i64 p.1)] [(2, ⟨81, rowNd n⟩), (3, ⟨60, rowCe r[m]⟩)] 4)
      (fun p => g.agents.length - p.1) ⟨0, Nat.zero_le _, by simp⟩ (by kernel_rfl) (Le.to (by simp) (by simp) (by simp)) ?_
    rintro ⟨a, ha, hq⟩
    by_cases a1 : a < g.agents.length
    · have wi : IntKind.i64.wrap ((a : Int) + 1) = ((a + 1 : Nat) : Int) := by rw [wrap_i64 _ (by omega) (by omega)]; rfl
      have a2 : a < r[m].pay.length := by omega
      have hok := hce.1.ok.2.2.2 _ (List.getElem_mem a2)
      have hc1 := cmpR_s r[m].pay[a] n.bound hok hn.2.2.2.1
      have hng := negR_s r[m].pay[a] hok
      have nz : sz (-(r[m].pay[a]).fix) ≤ 4096 := by rw [sz_neg]; exact sz_fix hok
      have hc2 := cmpR_s (frQ (-(r[m].pay[a]).fix)) n.bound (frQ_ok (by omega)) hn.2.2.2.1
      rw [fix_frQ nz] at hc2
      simp -dsimp -implicitDefEqProofs [hal, a1, a2]
      refine eCall.of hc1 (by simp) ?_
      by_cases c1 : n.bound.fix < (r[m].pay[a]).fix
      · have hb' := nf hb (fun hh => (hh _ (List.getElem_mem a2)).1 c1)
        simp -dsimp -implicitDefEqProofs [cmpQ_pos.2 c1, hb']
      simp -dsimp -implicitDefEqProofs [mt cmpQ_pos.1 c1, a2]
      refine eCall.of hng (by simp) ?_
      simp -dsimp -implicitDefEqProofs
      refine eCall.of hc2 (by simp [frQ, ng]) ?_
      by_cases c2 : n.bound.fix < -(r[m].pay[a]).fix
      · have hb' := nf hb (fun hh => (hh _ (List.getElem_mem a2)).2 (by grind))
        simp -dsimp -implicitDefEqProofs [cmpQ_pos.2 c2, hb']
      simp -dsimp -implicitDefEqProofs [mt cmpQ_pos.1 c2]
      refine Again.by ⟨a + 1, a1, fun f hf => ?_⟩ (Le.to (by simp [wi]) (by simp) (by simp)) (by simp; omega)
      rw [List.take_add_one, List.getElem?_eq_getElem a2] at hf
      rcases List.mem_append.1 hf with hf | hf
      · exact hq f hf
      · simp at hf; subst hf; exact ⟨c1, by grind⟩
    have ha2 : a = g.agents.length := by omega
    subst ha2
    rw [List.take_of_length_le (by omega)] at hq
    have hb' := tf hb hq
    simp -dsimp -implicitDefEqProofs [hal, hb']
  have kk4 := eq_false k4
  rw [if_neg k4] at hb
  by_cases k5 : n.kind = 5
  · have kk := eq_true k5
    rw [if_pos k5, MEnvy, envQ, envQ, ceAt_eq hm] at hb
    obtain ⟨A, Bo, e1, e2, hA, hB, hsw⟩ := shaped_envy hsh k5
    rw [e1, e2, Int.toNat_natCast, Int.toNat_natCast] at hb
    have s1 : Spot g r A m := ⟨h, hA, hm⟩
    have s2 : Spot g r Bo m := ⟨h, hB, hm⟩
    simp -dsimp -implicitDefEqProofs [kk1, kk2, kk3, kk4, kk, e1, e2]
    refine eCall.of (envies4_s g r n m A Bo s1 hB hsw) (by simp [e1, e2]) ?_
    by_cases c1 : useQ g r m A < hasQ r[m] ((kdAt g A (kOf g m A)).sw n.swap) Bo
    · have hb' := nf hb (fun hh => hh.1 c1)
      simp -dsimp -implicitDefEqProofs [c1, hb']
    simp -dsimp -implicitDefEqProofs [c1, e1, e2]
    refine eCall.of (envies4_s g r n m Bo A s2 hA hsw) (by simp [e1, e2]) ?_
    by_cases c2 : useQ g r m Bo < hasQ r[m] ((kdAt g Bo (kOf g m Bo)).sw n.swap) A
    · have hb' := nf hb (fun hh => hh.2 c2)
      simp -dsimp -implicitDefEqProofs [c2, hb']
    have hb' := tf hb ⟨c1, c2⟩
    simp -dsimp -implicitDefEqProofs [c2, hb']
  have kk5 := eq_false k5
  rw [if_neg k5] at hb
  have k6 : n.kind = 6 := by rcases shaped_kind hsh with k | k | k | k | k | k <;> first | exact k | omega
  obtain ⟨A, e1, hA, hri⟩ := shaped_order hsh k6
  rw [MOrder, e1, Int.toNat_natCast, kl_eq hA, ceAt_eq hm] at hb
  have hsp : Spot g r A m := ⟨h, hA, hm⟩
  obtain ⟨q1, q2⟩ := hsp.kof
  have al : A < (atG g m).length := by omega
  have q1' : (atG g m)[A] = (kOf g m A : Int) := by rw [List.getElem?_eq_getElem al] at q1; exact Option.some.inj q1
  have hk4 := h4 _ (List.getElem_mem hA)
  have wk : IntKind.i64.wrap ((kOf g m A : Int) + 1) = ((kOf g m A + 1 : Nat) : Int) := by rw [wrap_i64 _ (by omega) (by omega)]; rfl
  by_cases c1 : kOf g m A + 1 < g.agents[A].kinds.length
  · obtain ⟨t1, t2⟩ := hsp.toAt c1
    have hsp2 : Spot g r A (toAt g m A (kOf g m A + 1)) := ⟨h, hA, t2⟩
    obtain ⟨r1, r2, r3⟩ := order_facts hsp hri
    obtain ⟨u1, u2, u3⟩ := order_facts hsp2 hri
    have hol := rise_len hri
    have hpr := placeR_s g hf (atG g m) A ((kOf g m A + 1 : Nat) : Int) (hsp.put c1)
    rw [t1] at hpr
    have hz1 := (cap_mz (show mz (amongQ r[m].lot n.outs) ≤ 2048 by omega)).2
    have hz2 := (cap_mz (show mz (amongQ (r[toAt g m A (kOf g m A + 1)]).lot n.outs) ≤ 2048 by omega)).2
    have hcm := cmpR_s (frQ (amongQ (r[toAt g m A (kOf g m A + 1)]).lot n.outs)) (frQ (amongQ r[m].lot n.outs)) (frQ_ok (by omega)) (frQ_ok (by omega))
    rw [fix_frQ hz1, fix_frQ hz2] at hcm
    have c1' : ¬ g.agents[A].kinds.length ≤ kOf g m A + 1 := by omega
    have c2' : ¬ (g.agents[A].kinds.length : Int) ≤ (kOf g m A : Int) + 1 := by omega
    rw [ceAt_eq t2] at hb
    simp -dsimp -implicitDefEqProofs [kk1, kk2, kk3, kk4, kk5, e1, hA, al, q1', wk, c1', c2']
    refine eCall.of hpr (by simp) ?_
    simp -dsimp -implicitDefEqProofs [t2]
    refine eCall.of (chance4_s _ n.outs u2 u1 (by omega)) (by simp) ?_
    simp -dsimp -implicitDefEqProofs
    refine eCall.of (chance4_s _ n.outs r2 r1 (by omega)) (by simp) ?_
    simp -dsimp -implicitDefEqProofs
    refine eCall.of hcm (by simp [frQ, ng]) ?_
    have e : b = decide (0 ≤ cmpQ (amongQ (r[toAt g m A (kOf g m A + 1)]).lot n.outs) (amongQ r[m].lot n.outs)) := by
      rw [Bool.eq_iff_iff, hb, decide_eq_true_iff, cmpQ_ge, Rat.not_lt]
      exact ⟨fun hh => hh c1, fun hh _ => hh⟩
    simp -dsimp -implicitDefEqProofs [e]
  · have c1' : g.agents[A].kinds.length ≤ kOf g m A + 1 := by omega
    have c2' : (g.agents[A].kinds.length : Int) ≤ (kOf g m A : Int) + 1 := by omega
    have hb' := tf hb (fun hh => absurd hh c1)
    simp -dsimp -implicitDefEqProofs [kk1, kk2, kk3, kk4, kk5, e1, hA, al, q1', wk, c1', c2', hb']
end Go.Proofs.YtmgaoecfipkjbaaGreat.Sh

/- The program's Meets. -/
namespace Go.Proofs.YtmgaoecfipkjbaaGreat.Sh
open Go Go.RowKit

@[simp] theorem fld_lot : fldOf Tryz.prog 60 0 = (tyOf Tryz.prog 46).map fun τ => (0, τ) := by kernel_rfl

set_option maxRecDepth 20000 in
set_option maxHeartbeats 4000000 in
theorem rmeets_s (g : Gm) (r : List Ce) (h : Play g r) (n : Nd) (hn : n.ok) (hsh : ShapedOk g.agents.length g.outs.length n) : ∀ b, (b = true ↔ ∀ m, m < r.length → MeetAt g r n m) → CallsS Tryz.prog 131 [tbS g r, ndS n] (B b) := by
  intro b hb
  have hf := h.fine
  obtain ⟨h1, h6, -, h4, h5⟩ := sizeOk_all hf.sz
  have hrl := h.good.2.2.1
  have hpl := profs_length g
  refine calls Tryz.func131 rfl (by rfl) (by rfl) (by kernel_rfl) ?_
  simp -dsimp -implicitDefEqProofs [Tryz.f131]
  refine eCall.of (places_s g r) (by simp) ?_
  simp -dsimp -implicitDefEqProofs
  refine sw_range_f [0, 1, 2] (fun _ => SS.of [(2, .v (.one (.mp 0 0))), (3, .v (.one (.mp 1 0))), (4, .v (.one (.mp 2 0))), (15, .v (.one (.fn 154 [.rp true (rowTb g r)])))] [(0, ⟨106, rowTb g r⟩), (1, ⟨81, rowNd n⟩), (2, ⟨4, [.bool false]⟩)] 3)
    (fun k => ∀ m, m < k → MeetAt g r n m) (fun m hm => absurd hm (by omega)) (places1_it g r (by omega)) (by simp) (by kernel_rfl) (fun it hit => by obtain ⟨i, -, rfl⟩ := List.mem_map.1 hit; rfl) (Le.to (by simp) (by simp) (by simp)) (fun k => ⟨rfl, rfl, ?_, by simp, rfl, rfl⟩) (fun k w0 ok0 hb => stable_nil) ?_ ?_
  · intro o ob ho
    simp at ho
    grind
  · intro m hm hF
    rw [itemsP_len, hpl, ← hrl] at hm
    have hpn : (profs g)[m]?.getD [] = atG g m := by rw [profs_at (by omega)]; rfl
    have hal := atG_length g m
    have hce := h.ce (List.getElem_mem hm)
    have hpyl := hce.2.2
    have step : MeetAt g r n m → ∀ m', m' < m + 1 → MeetAt g r n m' := fun hh m' hm' => by
      by_cases e : m' = m
      · rw [e]; exact hh
      · exact hF m' (by omega)
    have hbn : ¬ MeetAt g r n m → b = false := fun hh => nf hb (fun ha => hh (ha m hm))
    have hps := (hce.1.pays (by omega))
    have hpay := fsum_s r[m].pay hce.1.ok.2.2.2 (by omega)
    rw [show cap (sumQ (r[m].pay.map FR.fix)) = paidQ r[m] from rfl] at hpay
    have hpz : sz (paidQ r[m]) ≤ 4096 := sz_cap _
    have hsg := fsign_s (frQ (paidQ r[m])) (frQ_ok (by omega))
    rw [fix_frQ hpz] at hsg
    rw [itemsP_get]
    by_cases k1 : n.kind = 1
    · have kk := eq_true k1
      have hM : MeetAt g r n m ↔ MPart g r m := by rw [MeetAt, if_pos k1]
      rw [hM] at step hbn
      simp -dsimp -implicitDefEqProofs [itemP, hpn, hm, kk]
      refine sw_loop_e (fun p : {p : Nat // p ≤ g.agents.length ∧ ∀ a, a < p → ¬ useQ g r m a < (kdAt g a (kOf g m a)).alone.fix} => SS.of [(2, .v (.one (.mp 0 0))), (4, .v (.one (.mp 2 0))), (7, .v (.one (.mp 3 0))), (28, .v (.one (intsS (atG g m)))), (29, I .i64 g.agents.length), (30, I .i64 p.1)] [(0, ⟨106, rowTb g r⟩), (1, ⟨81, rowNd n⟩), (2, ⟨4, [.bool false]⟩), (3, ⟨60, rowCe r[m]⟩)] 4)
        (fun p => g.agents.length - p.1) ⟨0, Nat.zero_le _, fun a ha => absurd ha (by omega)⟩ (by kernel_rfl) (Le.to (by simp [hal]) (by simp) (by simp)) ?_
      rintro ⟨a, ha, hq⟩
      by_cases a1 : a < g.agents.length
      · have wi : IntKind.i64.wrap ((a : Int) + 1) = ((a + 1 : Nat) : Int) := by rw [wrap_i64 _ (by omega) (by omega)]; rfl
        have hsp : Spot g r a m := ⟨h, a1, hm⟩
        obtain ⟨k1, k2⟩ := hsp.kof
        have al : a < (atG g m).length := by omega
        have k1' : (atG g m)[a] = (kOf g m a : Int) := by rw [List.getElem?_eq_getElem al] at k1; exact Option.some.inj k1
        have hkd := (h.kd (List.getElem_mem a1) (List.getElem_mem k2)).1
        have huz := (cap_mz (show mz (useQ g r m a) ≤ 2048 by have := hsp.use.1; omega)).2
        have hcm := fcmp_s (frQ (useQ g r m a)) (g.agents[a].kinds[kOf g m a]).alone (frQ_ok (by omega)) hkd.ok.2.2.1
        rw [fix_frQ huz] at hcm
        simp -dsimp -implicitDefEqProofs [al, a1, k1', k2]
        refine eCall.of hsp.use.2 (by simp) ?_
        simp -dsimp -implicitDefEqProofs [al, a1, k1', k2]
        refine eCall.of hcm (by simp [frQ, ng]) ?_
        by_cases c : useQ g r m a < (g.agents[a].kinds[kOf g m a]).alone.fix
        · have hb' := hbn (fun hh => hh a a1 (by rw [kdAt_eq a1 k2]; exact c))
          simp -dsimp -implicitDefEqProofs [cmpQ_neg.2 c, hb']
        · simp -dsimp -implicitDefEqProofs [mt cmpQ_neg.1 c]
          refine Again.by ⟨a + 1, a1, fun a' ha' => ?_⟩ (Le.to (by simp [wi]) (by simp) (by simp)) (by simp; omega)
          by_cases e : a' = a
          · subst e; rw [kdAt_eq a1 k2]; exact c
          · exact hq a' (by omega)
      have ha2 : a = g.agents.length := by omega
      subst ha2
      have hst := step hq
      simp -dsimp -implicitDefEqProofs
      exact hst
    have kk1 := eq_false k1
    by_cases k2 : n.kind = 2
    · have kk := eq_true k2
      have kk3 : (n.kind = 3) = False := by simp [k2]
      have hM : MeetAt g r n m ↔ ¬ paidQ r[m] < 0 := by rw [MeetAt, if_neg k1, if_pos k2, ceAt_eq hm]
      rw [hM] at step hbn
      simp -dsimp -implicitDefEqProofs [itemP, hpn, hm, kk1, kk]
      refine eCall.of hpay (by simp) ?_
      simp -dsimp -implicitDefEqProofs
      refine eCall.of hsg (by simp [frQ, ng]) ?_
      by_cases c : paidQ r[m] < 0
      · have hb' := hbn (fun hh => hh c)
        simp -dsimp -implicitDefEqProofs [sgnQ_neg.2 c, hb']
      · have hst := step c
        by_cases c2 : 0 < sgnQ (paidQ r[m])
        · simp -dsimp -implicitDefEqProofs [mt sgnQ_neg.1 c, c2, kk3]
          exact hst
        · simp -dsimp -implicitDefEqProofs [mt sgnQ_neg.1 c, c2]
          exact hst
    have kk2 := eq_false k2
    by_cases k3 : n.kind = 3
    · have kk := eq_true k3
      have hM : MeetAt g r n m ↔ paidQ r[m] = 0 := by rw [MeetAt, if_neg k1, if_neg k2, if_pos k3, ceAt_eq hm]
      rw [hM] at step hbn
      simp -dsimp -implicitDefEqProofs [itemP, hpn, hm, kk1, kk2, kk]
      refine eCall.of hpay (by simp) ?_
      simp -dsimp -implicitDefEqProofs
      refine eCall.of hsg (by simp [frQ, ng]) ?_
      by_cases c : paidQ r[m] < 0
      · have hb' := hbn (fun hh => by rw [hh] at c; exact Rat.lt_irrefl c)
        simp -dsimp -implicitDefEqProofs [sgnQ_neg.2 c, hb']
      · by_cases c2 : 0 < paidQ r[m]
        · have hb' := hbn (fun hh => by rw [hh] at c2; exact Rat.lt_irrefl c2)
          simp -dsimp -implicitDefEqProofs [mt sgnQ_neg.1 c, sgnQ_pos.2 c2, kk, hb']
        · have hst := step (by grind)
          simp -dsimp -implicitDefEqProofs [mt sgnQ_neg.1 c, mt sgnQ_pos.1 c2]
          exact hst
    have kk3 := eq_false k3
    by_cases k4 : n.kind = 4
    · have kk := eq_true k4
      have hM : MeetAt g r n m ↔ MBound n r[m] := by rw [MeetAt, if_neg k1, if_neg k2, if_neg k3, if_pos k4, ceAt_eq hm]
      rw [hM] at step hbn
      have hngb := fneg_s n.bound hn.2.2.2.1
      have nz : sz (-n.bound.fix) ≤ 4096 := by rw [sz_neg]; exact sz_fix hn.2.2.2.1
      simp -dsimp -implicitDefEqProofs [itemP, hpn, hm, kk1, kk2, kk3, kk]
      refine sw_loop_e (fun p : {p : Nat × Nat // p.1 ≤ r[m].pay.length ∧ ∀ f ∈ r[m].pay.take p.1, ¬ n.bound.fix < f.fix ∧ ¬ f.fix < -n.bound.fix} => SS.of [(3, .v (.one (.mp 1 0))), (4, .v (.one (.mp 2 0))), (75, .v (.one (frsS r[m].pay))), (76, I .i64 r[m].pay.length), (77, I .i64 p.1.1)] [(0, ⟨106, rowTb g r⟩), (1, ⟨81, rowNd n⟩), (2, ⟨4, [.bool false]⟩)] (p.1.2 + 4))
        (fun p => r[m].pay.length - p.1.1) ⟨(0, 0), Nat.zero_le _, by simp⟩ (by kernel_rfl) (Le.to (by simp) (by simp) (by simp)) ?_
      rintro ⟨⟨a, c⟩, ha, hq⟩
      simp only at ha hq
      by_cases a2 : a < r[m].pay.length
      · have wi : IntKind.i64.wrap ((a : Int) + 1) = ((a + 1 : Nat) : Int) := by rw [wrap_i64 _ (by omega) (by omega)]; rfl
        have hok := hce.1.ok.2.2.2 _ (List.getElem_mem a2)
        have hc1 := fcmp_s r[m].pay[a] n.bound hok hn.2.2.2.1
        have hc2 := fcmp_s r[m].pay[a] (frQ (-n.bound.fix)) hok (frQ_ok (by omega))
        rw [fix_frQ nz] at hc2
        simp -dsimp -implicitDefEqProofs [a2]
        refine eCall.of hc1 (by simp) ?_
        by_cases c1 : n.bound.fix < (r[m].pay[a]).fix
        · have hb' := hbn (fun hh => (hh _ (List.getElem_mem a2)).1 c1)
          simp -dsimp -implicitDefEqProofs [cmpQ_pos.2 c1, hb']
        simp -dsimp -implicitDefEqProofs [mt cmpQ_pos.1 c1]
        refine eCall.of hngb (by simp) ?_
        simp -dsimp -implicitDefEqProofs
        refine eCall.of hc2 (by simp [frQ, ng]) ?_
        by_cases c2 : (r[m].pay[a]).fix < -n.bound.fix
        · have hb' := hbn (fun hh => (hh _ (List.getElem_mem a2)).2 c2)
          simp -dsimp -implicitDefEqProofs [cmpQ_neg.2 c2, hb']
        simp -dsimp -implicitDefEqProofs [mt cmpQ_neg.1 c2]
        refine Again.by ⟨(a + 1, c + 1), a2, fun f hf => ?_⟩ (Le.to (by simp [wi]) (by simp) (by simp)) (by simp; omega)
        rw [List.take_add_one, List.getElem?_eq_getElem a2] at hf
        rcases List.mem_append.1 hf with hf | hf
        · exact hq f hf
        · simp at hf; subst hf; exact ⟨c1, c2⟩
      have ha2 : a = r[m].pay.length := by omega
      subst ha2
      rw [List.take_length] at hq
      have hst := step hq
      simp -dsimp -implicitDefEqProofs
      exact hst
    have kk4 := eq_false k4
    by_cases k5 : n.kind = 5
    · have kk := eq_true k5
      obtain ⟨A, Bo, e1, e2, hA, hB, hsw⟩ := shaped_envy hsh k5
      have hM : MeetAt g r n m ↔ (¬ useQ g r m A < hasQ r[m] ((kdAt g A (kOf g m A)).sw n.swap) Bo ∧ ¬ useQ g r m Bo < hasQ r[m] ((kdAt g Bo (kOf g m Bo)).sw n.swap) A) := by
        rw [MeetAt, if_neg k1, if_neg k2, if_neg k3, if_neg k4, if_pos k5, MEnvy, envQ, envQ, ceAt_eq hm, e1, e2, Int.toNat_natCast, Int.toNat_natCast]
      rw [hM] at step hbn
      have s1 : Spot g r A m := ⟨h, hA, hm⟩
      have s2 : Spot g r Bo m := ⟨h, hB, hm⟩
      simp -dsimp -implicitDefEqProofs [itemP, hpn, hm, kk1, kk2, kk3, kk4, kk, e1, e2]
      refine eCall.of (renvies_s g r n m A Bo s1 hB hsw) (by simp [e1, e2]) ?_
      by_cases c1 : useQ g r m A < hasQ r[m] ((kdAt g A (kOf g m A)).sw n.swap) Bo
      · have hb' := hbn (fun hh => hh.1 c1)
        simp -dsimp -implicitDefEqProofs [c1, hb']
      simp -dsimp -implicitDefEqProofs [c1, e1, e2]
      refine eCall.of (renvies_s g r n m Bo A s2 hA hsw) (by simp [e1, e2]) ?_
      by_cases c2 : useQ g r m Bo < hasQ r[m] ((kdAt g Bo (kOf g m Bo)).sw n.swap) A
      · have hb' := hbn (fun hh => hh.2 c2)
        simp -dsimp -implicitDefEqProofs [c2, hb']
      have hst := step ⟨c1, c2⟩
      simp -dsimp -implicitDefEqProofs [c2, e1, e2]
      exact hst
    have kk5 := eq_false k5
    have k6 : n.kind = 6 := by rcases shaped_kind hsh with k | k | k | k | k | k <;> first | exact k | omega
    have kk := eq_true k6
    obtain ⟨A, e1, hA, hri⟩ := shaped_order hsh k6
    have hM : MeetAt g r n m ↔ (kOf g m A + 1 < g.agents[A].kinds.length → ¬ amongQ (ceAt r (toAt g m A (kOf g m A + 1))).lot n.outs < amongQ r[m].lot n.outs) := by
      rw [MeetAt, if_neg k1, if_neg k2, if_neg k3, if_neg k4, if_neg k5, MOrder, e1, Int.toNat_natCast, kl_eq hA, ceAt_eq hm]
    rw [hM] at step hbn
    have hsp : Spot g r A m := ⟨h, hA, hm⟩
    obtain ⟨q1, q2⟩ := hsp.kof
    have al : A < (atG g m).length := by omega
    have q1' : (atG g m)[A] = (kOf g m A : Int) := by rw [List.getElem?_eq_getElem al] at q1; exact Option.some.inj q1
    have hk4 := h4 _ (List.getElem_mem hA)
    have wk : IntKind.i64.wrap ((kOf g m A : Int) + 1) = ((kOf g m A + 1 : Nat) : Int) := by rw [wrap_i64 _ (by omega) (by omega)]; rfl
    by_cases c1 : kOf g m A + 1 < g.agents[A].kinds.length
    · obtain ⟨t1, t2⟩ := hsp.toAt c1
      have hsp2 : Spot g r A (toAt g m A (kOf g m A + 1)) := ⟨h, hA, t2⟩
      obtain ⟨r1, r2, r3⟩ := order_facts hsp hri
      obtain ⟨u1, u2, u3⟩ := order_facts hsp2 hri
      have hol := rise_len hri
      have haf := after_s g r A m (kOf g m A + 1) hsp c1
      have hz1 := (cap_mz (show mz (amongQ r[m].lot n.outs) ≤ 2048 by omega)).2
      have hz2 := (cap_mz (show mz (amongQ (r[toAt g m A (kOf g m A + 1)]).lot n.outs) ≤ 2048 by omega)).2
      have hcm := fcmp_s (frQ (amongQ (r[toAt g m A (kOf g m A + 1)]).lot n.outs)) (frQ (amongQ r[m].lot n.outs)) (frQ_ok (by omega)) (frQ_ok (by omega))
      rw [fix_frQ hz1, fix_frQ hz2] at hcm
      rw [ceAt_eq t2] at step hbn
      have c1' : ((kOf g m A : Int) + 1 < (g.agents[A].kinds.length : Int)) := by omega
      simp -dsimp -implicitDefEqProofs [itemP, hpn, hm, kk1, kk2, kk3, kk4, kk5, kk, e1, hA, al, q1', wk, c1, c1']
      refine eCall.of haf (by simp) ?_
      simp -dsimp -implicitDefEqProofs [e1]
      refine eCall.of (among_s _ n.outs u2 u1 (by omega)) (by simp) ?_
      simp -dsimp -implicitDefEqProofs
      refine eCall.of (among_s _ n.outs r2 r1 (by omega)) (by simp) ?_
      simp -dsimp -implicitDefEqProofs
      refine eCall.of hcm (by simp [frQ, ng]) ?_
      by_cases c2 : amongQ (r[toAt g m A (kOf g m A + 1)]).lot n.outs < amongQ r[m].lot n.outs
      · have hb' := hbn (fun hh => hh c1 c2)
        simp -dsimp -implicitDefEqProofs [cmpQ_neg.2 c2, hb']
      · have hst := step (fun _ => c2)
        simp -dsimp -implicitDefEqProofs [mt cmpQ_neg.1 c2, e1]
        exact hst
    · have hst := step (fun hh => absurd hh c1)
      have c1' : ¬ ((kOf g m A : Int) + 1 < (g.agents[A].kinds.length : Int)) := by omega
      simp -dsimp -implicitDefEqProofs [itemP, hpn, hm, kk1, kk2, kk3, kk4, kk5, kk, e1, hA, al, q1', wk, c1, c1']
      exact hst
  · intro hF
    rw [itemsP_len, hpl, ← hrl] at hF
    have hb' := tf hb hF
    simp -dsimp -implicitDefEqProofs [hb']
end Go.Proofs.YtmgaoecfipkjbaaGreat.Sh

