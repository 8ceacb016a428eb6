/- A part of the proof: R74, R75, R76, R77, R78 -/
import Derived.Test.YtmgaoecfipkjbaaGreatL21
set_option linter.unusedSimpArgs false
set_option linter.unusedVariables false
/- Envy, of the program and of the reference. -/
namespace Go.Proofs.YtmgaoecfipkjbaaGreat.Sh
open Go Go.RowKit

/-- A kind, its outcomes changed. -/
def Kd.sw (K : Kd) (s : List Int) : Kd := { K with worth := picks K.worth s }
theorem swap_inR {l : List Int} {n : Nat} (h : SwapOk l n) : InR l n := by
  intro x hx
  obtain ⟨i, hi, rfl⟩ := List.getElem_of_mem hx
  exact (h.2 i hi).1

theorem Spot.sw {g : Gm} {r : List Ce} {a m b : Nat} (h : Spot g r a m) (hb : b < g.agents.length) {s : List Int} (hs : SwapOk s g.outs.length) : Pair (r[m]'h.hn) (((g.agents[a]'h.ha).kinds[kOf g m a]'h.kof.2).sw s) b := by
  obtain ⟨k1, k2⟩ := h.kof
  have hP := h.pair h.hn k2
  have hkd := h.play.kd (List.getElem_mem h.ha) (List.getElem_mem k2)
  have hce := h.play.ce (List.getElem_mem h.hn)
  have hir : InR s ((g.agents[a]'h.ha).kinds[kOf g m a]).worth.length := by rw [hkd.2]; exact swap_inR hs
  have h6 := (sizeOk_all h.play.fine.sz).2.1
  refine ⟨hP.cf, ⟨⟨hkd.1.ok.1, hkd.1.ok.2.1, hkd.1.ok.2.2.1, ?_, picks_ok hkd.1.ok.2.2.2.2 hir⟩, hkd.1.w, hkd.1.al, picks_mz hkd.1.wo hir⟩, ?_, hP.six, ?_⟩
  · show lenOk (picks _ s); unfold lenOk picks; rw [List.length_map, hs.1]; omega
  · show _ = (picks _ s).length; unfold picks; rw [List.length_map, hs.1, hce.2.1]
  · rw [hce.2.2]; exact hb

set_option maxRecDepth 20000 in
set_option maxHeartbeats 1000000 in
theorem renvies_s (g : Gm) (r : List Ce) (n : Nd) (m own other : Nat) (h : Spot g r own m) (ho : other < g.agents.length) (hs : SwapOk n.swap g.outs.length) :
    CallsS Tryz.prog 171 [tbS g r, ndS n, ceS (r[m]'h.hn), .one (intsS (atG g m)), .one (.int .i64 (own : Int)), .one (.int .i64 (other : Int))] (B (decide (useQ g r m own < hasQ (r[m]'h.hn) ((kdAt g own (kOf g m own)).sw n.swap) other))) := by
  obtain ⟨k1, k2⟩ := h.kof
  have hown := h.ha
  have al : own < (atG g m).length := by rw [atG_length]; exact h.ha
  have k1' : (atG g m)[own] = (kOf g m own : Int) := by rw [List.getElem?_eq_getElem al] at k1; exact Option.some.inj k1
  have hkd := h.play.kd (List.getElem_mem h.ha) (List.getElem_mem k2)
  have hce := h.play.ce (List.getElem_mem h.hn)
  have h6 := (sizeOk_all h.play.fine.sz).2.1
  have hP := h.sw ho hs
  rw [kdAt_eq h.ha k2]
  have hsl : n.swap.length = ((g.agents[own]'h.ha).kinds[kOf g m own]).worth.length := by rw [hkd.2]; exact hs.1
  have hir : InR n.swap ((g.agents[own]'h.ha).kinds[kOf g m own]).worth.length := by rw [hkd.2]; exact swap_inR hs
  generalize hK : (g.agents[own]'h.ha).kinds[kOf g m own] = K at *
  have huse := h.use
  obtain ⟨d1, d2, d3⟩ := hP.dot
  obtain ⟨p1, p2⟩ := hP.payQ
  have h3 := hP.has
  obtain ⟨c1, z1⟩ := cap_mz (show mz (sumQ (dotL (r[m]'h.hn).lot (K.sw n.swap).worth)) ≤ 2048 by omega)
  obtain ⟨c2, z2⟩ := cap_mz (show mz (hasQ (r[m]'h.hn) (K.sw n.swap) other) ≤ 2048 by omega)
  obtain ⟨-, z3⟩ := cap_mz (show mz (useQ g r m own) ≤ 2048 by omega)
  have hpl := hP.pay
  have hdo := fdot_s (r[m]'h.hn).lot (K.sw n.swap).worth hP.cf.ok.2.2.1 hP.kf.ok.2.2.2.2 (by have := hP.six; omega) hP.len
  rw [c1] at hdo
  have hsu := fsub_s (frQ (sumQ (dotL (r[m]'h.hn).lot (K.sw n.swap).worth))) ((r[m]'h.hn).pay[other]'hpl) (frQ_ok (by omega)) (hP.cf.ok.2.2.2 _ (List.getElem_mem hpl))
  rw [fix_frQ z1, show sumQ (dotL (r[m]'h.hn).lot (K.sw n.swap).worth) - ((r[m]'h.hn).pay[other]'hpl).fix = hasQ (r[m]'h.hn) (K.sw n.swap) other by rw [hasQ, p1], c2] at hsu
  have hcm := fcmp_s (frQ (useQ g r m own)) (frQ (hasQ (r[m]'h.hn) (K.sw n.swap) other)) (frQ_ok (by omega)) (frQ_ok (by omega))
  rw [fix_frQ z3, fix_frQ z2] at hcm
  have hwl : (K.sw n.swap).worth = n.swap.map (pick1 K.worth) := rfl
  refine calls_cut 3 (fun _ : Unit => SS.of [(3, .v (.one (intsS (atG g m)))), (4, I .i64 own), (5, I .i64 other), (6, .v (.one (.mp 0 0))), (8, .v (.one (.mp 2 0))), (14, .v (.one (frsS (K.sw n.swap).worth)))] [(0, ⟨106, rowTb g r⟩), (2, ⟨60, rowCe (r[m]'h.hn)⟩)] 4) Tryz.func171 rfl (by rfl) (by rfl) (by rfl) (by kernel_rfl) (by kernel_rfl) ?_ ?_
  rotate_left
  · intro _
    simp -dsimp -implicitDefEqProofs [al, k1']
    refine eCall.of huse.2 (by simp) ?_
    simp -dsimp -implicitDefEqProofs
    refine eCall.of hdo (by simp) ?_
    simp -dsimp -implicitDefEqProofs [hpl]
    refine eCall.of hsu (by simp [frQ, ng]) ?_
    simp -dsimp -implicitDefEqProofs
    refine eCall.of hcm (by simp [frQ, ng]) ?_
    by_cases c : useQ g r m own < hasQ (r[m]'h.hn) (K.sw n.swap) other
    · simp -dsimp -implicitDefEqProofs [cmpQ_neg.2 c, c]
    · simp -dsimp -implicitDefEqProofs [mt cmpQ_neg.1 c, c]
  simp -dsimp -implicitDefEqProofs [hown, al, k1', k2, hK]
  refine ⟨by omega, ?_⟩
  refine sw_loop_e (fun p : {p : Nat // p ≤ n.swap.length} => SS.of [(3, .v (.one (intsS (atG g m)))), (4, I .i64 own), (5, I .i64 other), (6, .v (.one (.mp 0 0))), (8, .v (.one (.mp 2 0))), (13, .v (.one (frsS K.worth))), (14, .v (.one (.ms 3 0 n.swap.length 3 true))), (35, .v (.one (intsS n.swap))), (36, I .i64 n.swap.length), (37, I .i64 p.1)]
      [(0, ⟨106, rowTb g r⟩), (2, ⟨60, rowCe (r[m]'h.hn)⟩), (3, ⟨37, flat (optRow [.bool false, .nils, .nils] rowFr) (filled (pick1 K.worth) n.swap p.1)⟩)] 4)
    (fun p => n.swap.length - p.1) ⟨0, Nat.zero_le _⟩ (by kernel_rfl) (Le.to (by simp [hsl]) (by simp [filled_zero, flat_rep _ rowFr, hsl]) (by simp)) ?_
  rintro ⟨i, hi⟩
  by_cases a1 : i < n.swap.length
  · have wi : IntKind.i64.wrap ((i : Int) + 1) = ((i + 1 : Nat) : Int) := by rw [wrap_i64 _ (by omega) (by omega)]; rfl
    have hx := hir _ (List.getElem_mem a1)
    have hxl : n.swap[i].toNat < K.worth.length := by omega
    have ml := filled_len (pick1 K.worth) n.swap hi
    have mset := filled_set (pick1 K.worth) n.swap i a1
    rw [pick1_eq hxl] at mset
    simp -dsimp -implicitDefEqProofs [a1, hx, hxl, ml]
    refine ⟨by omega, ?_⟩
    have hset := set3_flat (f := optRow [.bool false, .nils, .nils] rowFr) (filled (pick1 K.worth) n.swap i) i (some K.worth[n.swap[i].toNat]) rfl (by omega)
    rw [mset] at hset
    exact Again.by ⟨i + 1, a1⟩ (Le.to (by simp [wi]) (by simp [← hset]) (by simp)) (by simp; omega)
  have hi2 : i = n.swap.length := by omega
  subst hi2
  have hff : rowsOf (flat (optRow [.bool false, .nils, .nils] rowFr) (filled (pick1 K.worth) n.swap n.swap.length)) 0 3 n.swap.length = (K.sw n.swap).worth.map rowFr := by
    rw [rowsOf_flat _ _ (by rw [filled_len _ _ (Nat.le_refl _)]), filled_full, hwl]
    simp [optRow]
  simp -dsimp -implicitDefEqProofs
  exact Cut.by () (Le.fzF [3] (Le.to (by simp [hff, filled_len]) (by simp) (by simp)))
end Go.Proofs.YtmgaoecfipkjbaaGreat.Sh

/- The reference's needs. -/
namespace Go.Proofs.YtmgaoecfipkjbaaGreat.Sh
open Go Go.RowKit

def MPart (g : Gm) (r : List Ce) (m : Nat) : Prop := ∀ a, a < g.agents.length → ¬ useQ g r m a < (kdAt g a (kOf g m a)).alone.fix
def MBound (n : Nd) (c : Ce) : Prop := ∀ f ∈ c.pay, ¬ n.bound.fix < f.fix ∧ ¬ f.fix < -n.bound.fix
def envQ (g : Gm) (r : List Ce) (m : Nat) (s : List Int) (own other : Nat) : Rat := hasQ (ceAt r m) ((kdAt g own (kOf g m own)).sw s) other
def MEnvy (g : Gm) (r : List Ce) (m : Nat) (n : Nd) : Prop := ¬ useQ g r m n.agent.toNat < envQ g r m n.swap n.agent.toNat n.other.toNat ∧ ¬ useQ g r m n.other.toNat < envQ g r m n.swap n.other.toNat n.agent.toNat
def MOrder (g : Gm) (r : List Ce) (m : Nat) (n : Nd) : Prop := kOf g m n.agent.toNat + 1 < kl g n.agent.toNat → ¬ amongQ (ceAt r (toAt g m n.agent.toNat (kOf g m n.agent.toNat + 1))).lot n.outs < amongQ (ceAt r m).lot n.outs
/-- A rule meets a need at the place of a profile. -/
def MeetAt (g : Gm) (r : List Ce) (n : Nd) (m : Nat) : Prop :=
  if n.kind = 1 then MPart g r m else if n.kind = 2 then ¬ paidQ (ceAt r m) < 0 else if n.kind = 3 then paidQ (ceAt r m) = 0 else if n.kind = 4 then MBound n (ceAt r m) else if n.kind = 5 then MEnvy g r m n else MOrder g r m n

theorem rise_inR {l : List Int} {n : Nat} (h : RiseOk l n) : InR l n := by
  intro x hx
  obtain ⟨i, hi, rfl⟩ := List.getElem_of_mem hx
  exact (h.2 i hi).1
theorem rise_len {l : List Int} {n : Nat} (h : RiseOk l n) : l.length ≤ n := by
  have key : ∀ i (hi : i < l.length), (i : Int) ≤ l[i] := by
    intro i
    induction i with
    | zero => intro hi; exact (h.2 0 hi).1.1
    | succ i ih =>
      intro hi
      obtain ⟨x, h1, h2⟩ := (h.2 (i + 1) hi).2 (by omega)
      rw [Nat.add_sub_cancel, List.getElem?_eq_getElem (show i < l.length by omega)] at h1
      have := Option.some.inj h1
      have := ih (by omega)
      omega
  rcases Nat.eq_zero_or_pos l.length with h0 | h0
  · omega
  · have h1 := key (l.length - 1) (by omega)
    have h2 := (h.2 (l.length - 1) (by omega)).1.2
    omega

theorem shaped_kind {na no : Nat} {n : Nd} (h : ShapedOk na no n) : n.kind = 1 ∨ n.kind = 2 ∨ n.kind = 3 ∨ n.kind = 4 ∨ n.kind = 5 ∨ n.kind = 6 := by
  unfold ShapedOk at h
  split at h
  · rename_i h; omega
  split at h
  · omega
  split at h
  · omega
  split at h
  · omega
  · exact h.elim
theorem shaped_envy {na no : Nat} {n : Nd} (h : ShapedOk na no n) (hk : n.kind = 5) : ∃ a b : Nat, n.agent = a ∧ n.other = b ∧ a < na ∧ b < na ∧ SwapOk n.swap no := by
  unfold ShapedOk at h
  rw [if_neg (by omega), if_neg (by omega), if_pos hk] at h
  obtain ⟨h1, h2, h3, -, -, h4⟩ := h
  exact ⟨n.agent.toNat, n.other.toNat, by omega, by omega, by omega, by omega, h4⟩
theorem shaped_order {na no : Nat} {n : Nd} (h : ShapedOk na no n) (hk : n.kind = 6) : ∃ a : Nat, n.agent = a ∧ a < na ∧ RiseOk n.outs no := by
  unfold ShapedOk at h
  rw [if_neg (by omega), if_neg (by omega), if_neg (by omega), if_pos hk] at h
  obtain ⟨h1, h2, -, -, h4, -⟩ := h
  exact ⟨n.agent.toNat, by omega, by omega, h4⟩

theorem CeFine.pays {c : Ce} (h : CeFine c) (hl : c.pay.length ≤ 4) : Small c.pay 6 :=
  ⟨h.ok.2.2.2, fun q hq => by obtain ⟨f, hf, rfl⟩ := List.mem_map.1 hq; exact fixBig (h.ok.2.2.2 f hf) (by omega) (h.pay f hf), by omega⟩

set_option maxRecDepth 20000 in
set_option maxHeartbeats 1000000 in
theorem envies4_s (g : Gm) (r : List Ce) (n : Nd) (m own other : Nat) (h : Spot g r own m) (ho : other < g.agents.length) (hs : SwapOk n.swap g.outs.length) :
    CallsS Tryz.prog 164 [gmS g, ruS r, ndS n, .one (.int .i64 (m : Int)), .one (.int .i64 (own : Int)), .one (.int .i64 (other : Int))] (B (decide (useQ g r m own < hasQ (r[m]'h.hn) ((kdAt g own (kOf g m own)).sw n.swap) other))) := by
  obtain ⟨k1, k2⟩ := h.kof
  have hown := h.ha
  have hm := h.hn
  have hf := h.play.fine
  obtain ⟨-, h6, -, -, h5⟩ := sizeOk_all hf.sz
  have hrl := h.play.good.2.2.1
  have al : own < (atG g m).length := by rw [atG_length]; exact h.ha
  have k1' : (atG g m)[own] = (kOf g m own : Int) := by rw [List.getElem?_eq_getElem al] at k1; exact Option.some.inj k1
  have hkd := h.play.kd (List.getElem_mem h.ha) (List.getElem_mem k2)
  have hce := h.play.ce (List.getElem_mem h.hn)
  have hP := h.sw ho hs
  have hP0 := h.pair h.hn k2
  have hu : useQ g r m own = hasQ (r[m]'h.hn) ((g.agents[own]'h.ha).kinds[kOf g m own]) own := by unfold useQ; rw [ceAt_eq h.hn, kdAt_eq h.ha k2]
  have hhas := hasP_s g r own (kOf g m own) m h.ha k2 h.hn hP0
  rw [← hu] at hhas
  have huz := h.use.1
  rw [kdAt_eq h.ha k2]
  have hsl : n.swap.length = ((g.agents[own]'h.ha).kinds[kOf g m own]).worth.length := by rw [hkd.2]; exact hs.1
  have hir : InR n.swap ((g.agents[own]'h.ha).kinds[kOf g m own]).worth.length := by rw [hkd.2]; exact swap_inR hs
  generalize hK : (g.agents[own]'h.ha).kinds[kOf g m own] = K at *
  obtain ⟨d1, d2, d3⟩ := hP.dot
  obtain ⟨p1, p2⟩ := hP.payQ
  have h3 := hP.has
  obtain ⟨c1, z1⟩ := cap_mz (show mz (sumQ (dotL (r[m]'h.hn).lot (K.sw n.swap).worth)) ≤ 2048 by omega)
  obtain ⟨c2, z2⟩ := cap_mz (show mz (hasQ (r[m]'h.hn) (K.sw n.swap) other) ≤ 2048 by omega)
  obtain ⟨-, z3⟩ := cap_mz (show mz (useQ g r m own) ≤ 2048 by omega)
  have hpl := hP.pay
  have hdo := dotF_s (r[m]'h.hn).lot (K.sw n.swap).worth 9 hP.cf.ok.2.2.1 hP.kf.ok.2.2.2.2 hP.len d1 (by omega)
  have hsu := subR_s (frQ (sumQ (dotL (r[m]'h.hn).lot (K.sw n.swap).worth))) ((r[m]'h.hn).pay[other]'hpl) (frQ_ok (by omega)) (hP.cf.ok.2.2.2 _ (List.getElem_mem hpl))
  rw [fix_frQ z1, show sumQ (dotL (r[m]'h.hn).lot (K.sw n.swap).worth) - ((r[m]'h.hn).pay[other]'hpl).fix = hasQ (r[m]'h.hn) (K.sw n.swap) other by rw [hasQ, p1], c2] at hsu
  have hcm := cmpR_s (frQ (hasQ (r[m]'h.hn) (K.sw n.swap) other)) (frQ (useQ g r m own)) (frQ_ok (by omega)) (frQ_ok (by omega))
  rw [fix_frQ z3, fix_frQ z2] at hcm
  have hwl : (K.sw n.swap).worth = picks K.worth n.swap := rfl
  have hpk : (picks K.worth n.swap).length = n.swap.length := by simp [picks]
  refine calls_cut 5 (fun c : Nat => SS.of [(3, I .i64 m), (4, I .i64 own), (5, I .i64 other), (6, .v (.one (.mp 0 0))), (7, .v (.one (.mp 1 0))), (13, .v (.one (intsS (atG g m)))), (14, .v (.one (.mp 3 0))), (16, .v (.one (frsS (K.sw n.swap).worth)))] [(0, ⟨26, rowGm g⟩), (1, ⟨29, [cesS r]⟩), (3, ⟨60, rowCe (r[m]'h.hn)⟩)] (c + 4)) Tryz.func164 rfl (by rfl) (by rfl) (by rfl) (by kernel_rfl) (by kernel_rfl) ?_ ?_
  rotate_left
  · intro c
    simp -dsimp -implicitDefEqProofs
    refine eCall.of hdo (by simp) ?_
    simp -dsimp -implicitDefEqProofs [hpl]
    refine eCall.of hsu (by simp [frQ, ng]) ?_
    simp -dsimp -implicitDefEqProofs [al, k1']
    refine eCall.of hhas (by simp) ?_
    simp -dsimp -implicitDefEqProofs
    refine eCall.of hcm (by simp [frQ, ng]) ?_
    by_cases c : useQ g r m own < hasQ (r[m]'h.hn) (K.sw n.swap) other
    · simp -dsimp -implicitDefEqProofs [cmpQ_pos.2 c, c]
    · simp -dsimp -implicitDefEqProofs [mt cmpQ_pos.1 c, c]
  simp -dsimp -implicitDefEqProofs
  refine eCall.of (at_s g hf m (by omega)) (by simp) ?_
  simp -dsimp -implicitDefEqProofs [hm, hown, al, k1', k2, hK]
  refine sw_loop_e (fun p : {p : Nat × Nat // p.1 ≤ n.swap.length ∧ (p.1 ≠ 0 → p.2 ≠ 0)} => SS.of [(3, I .i64 m), (4, I .i64 own), (5, I .i64 other), (6, .v (.one (.mp 0 0))), (7, .v (.one (.mp 1 0))), (8, .v (.one (.mp 2 0))), (13, .v (.one (intsS (atG g m)))), (14, .v (.one (.mp 3 0))), (15, .v (.one (frsS K.worth))), (16, if p.1.1 = 0 then .v (.one .nils) else .v (.one (.ms (p.1.2 + 3) 0 p.1.1 3 true))), (17, I .i64 p.1.1)]
      ((0, ⟨26, rowGm g⟩) :: (1, ⟨29, [cesS r]⟩) :: (2, ⟨81, rowNd n⟩) :: (3, ⟨60, rowCe (r[m]'h.hn)⟩) :: if p.1.1 = 0 then [] else [(p.1.2 + 3, ⟨37, flat rowFr ((picks K.worth n.swap).take p.1.1)⟩)]) (p.1.2 + 4))
    (fun p => n.swap.length - p.1.1) ⟨(0, 0), Nat.zero_le _, fun h => absurd rfl h⟩ (by kernel_rfl) (Le.to (by simp) (by simp) (by simp)) ?_
  rintro ⟨⟨i, c⟩, hi, hc⟩
  simp only at hi hc
  by_cases a1 : i < n.swap.length
  · have wi : IntKind.i64.wrap ((i : Int) + 1) = ((i + 1 : Nat) : Int) := by rw [wrap_i64 _ (by omega) (by omega)]; rfl
    have hx := hir _ (List.getElem_mem a1)
    have hxl : n.swap[i].toNat < K.worth.length := by omega
    have hfl := flat_snoc (f := rowFr) K.worth[n.swap[i].toNat] ((picks K.worth n.swap).take i)
    have hsn := takeSnoc (picks K.worth n.swap) i (by omega)
    rw [show (picks K.worth n.swap)[i]'(by omega) = K.worth[n.swap[i].toNat] by simp [picks, pick1_eq hxl]] at hsn
    rw [← hsn] at hfl
    have hll : ((picks K.worth n.swap).take i).length = i := by simp; omega
    by_cases a0 : i = 0
    · subst a0
      rw [List.take_zero, flat_nil, List.nil_append] at hfl
      simp -dsimp -implicitDefEqProofs [a1, hx, hxl, slots]
      exact Again.by ⟨(1, c + 2), by omega, by simp⟩ (Le.to (by simp [i64_1]) (by simp [hfl]) (by simp)) (by simp; omega)
    · have hc0 := hc a0
      simp -dsimp -implicitDefEqProofs [a1, a0, hc0, hx, hxl, slots, hll]
      refine ⟨by omega, ?_⟩
      exact Again.by ⟨(i + 1, c + 2), by omega, by simp⟩ (Le.to (by simp [wi]) (by simp [hfl, hc0]) (by simp)) (by simp; omega)
  have hi2 : i = n.swap.length := by omega
  subst hi2
  have htk : (picks K.worth n.swap).take n.swap.length = picks K.worth n.swap := List.take_of_length_le (by omega)
  have a0 : ¬ n.swap.length = 0 := by
    rw [hs.1]
    exact fun e => h.play.good.2.1.ou (List.length_eq_zero_iff.1 e)
  have hc0 := hc a0
  simp -dsimp -implicitDefEqProofs [a0, hc0, htk]
  exact Cut.by c (Le.fzF [c + 3] (Le.to (by simp [hwl, hpk, hc0]) (by simp [hc0]) (by simp [hc0])))
end Go.Proofs.YtmgaoecfipkjbaaGreat.Sh

/- The reference's Meets. -/
namespace Go.Proofs.YtmgaoecfipkjbaaGreat.Sh
open Go Go.RowKit

theorem cmpQ_le {p q : Rat} : cmpQ p q ≤ 0 ↔ p ≤ q := by
  rw [← Int.not_lt, cmpQ_pos, Rat.not_lt]
theorem cmpQ_ge {p q : Rat} : 0 ≤ cmpQ p q ↔ q ≤ p := by
  rw [← Int.not_lt, cmpQ_neg, Rat.not_lt]

theorem tf {b : Bool} {P : Prop} (h : b = true ↔ P) (hp : P) : b = true := h.2 hp

/-- What the order need asks, at one place. -/
theorem order_facts {g : Gm} {r : List Ce} {a m : Nat} (h : Spot g r a m) {xs : List Int} (hx : RiseOk xs g.outs.length) : InR xs (r[m]'h.hn).lot.length ∧ Small (picks (r[m]'h.hn).lot xs) 6 ∧ mz (amongQ (r[m]'h.hn).lot xs) ≤ 43 := by
  have hce := h.play.ce (List.getElem_mem h.hn)
  have h6 := (sizeOk_all h.play.fine.sz).2.1
  have hl := rise_len hx
  have hir : InR xs (r[m]'h.hn).lot.length := by rw [hce.2.1]; exact rise_inR hx
  have hsm := picks_small (CeFine.small (g := g) hce.1 (by omega)) hir (by omega)
  have h2 := mz_sum ((picks (r[m]'h.hn).lot xs).map FR.fix) 6 hsm.mz
  have h3 : ((picks (r[m]'h.hn).lot xs).map FR.fix).length ≤ 6 := by simp [picks]; omega
  exact ⟨hir, hsm, by unfold amongQ; omega⟩

set_option maxRecDepth 20000 in
set_option maxHeartbeats 2000000 in
theorem meetsAt4_s (g : Gm) (r : List Ce) (h : Play g r) (n : Nd) (hn : n.ok) (hsh : ShapedOk g.agents.length g.outs.length n) (m : Nat) (hm : m < r.length) : ∀ b, (b = true ↔ MeetAt g r n m) → CallsS Tryz.prog 113 [gmS g, ruS r, ndS n, .one (.int .i64 (m : Int))] (B b) := by
  intro b hb
  have hf := h.fine
  obtain ⟨h1, h6, -, h4, h5⟩ := sizeOk_all hf.sz
  have hrl := h.good.2.2.1
  have hal := atG_length g m
  have hce := h.ce (List.getElem_mem hm)
  have hpl := hce.2.2
  have hat := at_s g hf m (by omega)
  refine calls Tryz.func113 rfl (by rfl) (by rfl) (by kernel_rfl) ?_
  simp -dsimp -implicitDefEqProofs [Tryz.f113]
  refine eCall.of hat (by simp) ?_
  simp -dsimp -implicitDefEqProofs [hm]
  have hpay := paidR_s r[m] (hce.1.pays (by omega))
  have hpz : sz (paidQ r[m]) ≤ 4096 := sz_cap _
  have hsg := signR_s (frQ (paidQ r[m])) (frQ_ok (by omega))
  rw [fix_frQ hpz] at hsg
  by_cases k1 : n.kind = 1
  · have kk := eq_true k1
    rw [MeetAt, if_pos k1] at hb
    simp -dsimp -implicitDefEqProofs [kk]
    refine sw_loop_e (fun p : {p : Nat // p ≤ g.agents.length ∧ ∀ a, a < p → ¬ useQ g r m a < (kdAt g a (kOf g m a)).alone.fix} => SS.of [(3, I .i64 m), (4, .v (.one (.mp 0 0))), (5, .v (.one (.mp 1 0))), (9, .v (.one (intsS (atG g m)))), (11, I .i64 p.1)] [(0, ⟨26, rowGm g⟩), (1, ⟨29, [cesS r]⟩)] 4)
      (fun p => g.agents.length - p.1) ⟨0, Nat.zero_le _, fun a ha => absurd ha (by omega)⟩ (by kernel_rfl) (Le.to (by simp) (by simp) (by simp)) ?_
    rintro ⟨a, ha, hq⟩
    by_cases a1 : a < g.agents.length
    · have wi : IntKind.i64.wrap ((a : Int) + 1) = ((a + 1 : Nat) : Int) := by rw [wrap_i64 _ (by omega) (by omega)]; rfl
      have hsp : Spot g r a m := ⟨h, a1, hm⟩
      obtain ⟨k1, k2⟩ := hsp.kof
      have al : a < (atG g m).length := by omega
      have k1' : (atG g m)[a] = (kOf g m a : Int) := by rw [List.getElem?_eq_getElem al] at k1; exact Option.some.inj k1
      have hkd := (h.kd (List.getElem_mem a1) (List.getElem_mem k2)).1
      have hP0 := hsp.pair hm k2
      have hu : useQ g r m a = hasQ r[m] (g.agents[a].kinds[kOf g m a]) a := by unfold useQ; rw [ceAt_eq hm, kdAt_eq a1 k2]
      have hhas := hasP_s g r a (kOf g m a) m a1 k2 hm hP0
      rw [← hu] at hhas
      have huz := (cap_mz (show mz (useQ g r m a) ≤ 2048 by have := hsp.use.1; omega)).2
      have hcm := cmpR_s (frQ (useQ g r m a)) (g.agents[a].kinds[kOf g m a]).alone (frQ_ok (by omega)) hkd.ok.2.2.1
      rw [fix_frQ huz] at hcm
      simp -dsimp -implicitDefEqProofs [al, a1, k1', k2]
      refine eCall.of hhas (by simp) ?_
      simp -dsimp -implicitDefEqProofs [al, a1, k1', k2]
      refine eCall.of hcm (by simp [frQ, ng]) ?_
      by_cases c : useQ g r m a < (g.agents[a].kinds[kOf g m a]).alone.fix
      · have hb' := nf hb (fun hh => hh a a1 (by rw [kdAt_eq a1 k2]; exact c))
        simp -dsimp -implicitDefEqProofs [cmpQ_neg.2 c, hb']
      · simp -dsimp -implicitDefEqProofs [mt cmpQ_neg.1 c]
        refine Again.by ⟨a + 1, a1, fun a' ha' => ?_⟩ (Le.to (by simp [wi]) (by simp) (by simp)) (by simp; omega)
        by_cases e : a' = a
        · subst e; rw [kdAt_eq a1 k2]; exact c
        · exact hq a' (by omega)
    have ha2 : a = g.agents.length := by omega
    subst ha2
    have hb' := tf hb hq
    simp -dsimp -implicitDefEqProofs [hal, hb']
  have kk1 := eq_false k1
  rw [MeetAt, if_neg k1] at hb
  by_cases k2 : n.kind = 2
  · have kk := eq_true k2
    rw [if_pos k2, ceAt_eq hm] at hb
    simp -dsimp -implicitDefEqProofs [kk1, kk]
    refine eCall.of hpay (by simp) ?_
    simp -dsimp -implicitDefEqProofs
    refine eCall.of hsg (by simp [frQ, ng]) ?_
    have e : b = decide (0 ≤ sgnQ (paidQ r[m])) := by
      rw [Bool.eq_iff_iff, hb, decide_eq_true_iff, ← Int.not_lt, sgnQ_neg]
    simp -dsimp -implicitDefEqProofs [e]
  have kk2 := eq_false k2
  rw [if_neg k2] at hb
  by_cases k3 : n.kind = 3
  · have kk := eq_true k3
    rw [if_pos k3, ceAt_eq hm] at hb
    simp -dsimp -implicitDefEqProofs [kk1, kk2, kk]
    refine eCall.of hpay (by simp) ?_
    simp -dsimp -implicitDefEqProofs
    refine eCall.of hsg (by simp [frQ, ng]) ?_
    have e : b = (sgnQ (paidQ r[m]) == 0) := by
      rw [Bool.eq_iff_iff, hb, beq_iff_eq]
      have h1 := sgnQ_neg (q := paidQ r[m])
      have h2 := sgnQ_pos (q := paidQ r[m])
      constructor
      · intro h0; rw [h0] at h1 h2 ⊢
        have := mt h1.1 Rat.lt_irrefl
        have := mt h2.1 Rat.lt_irrefl
        omega
      · intro h0
        rw [h0] at h1 h2
        have := mt h1.2 (by omega)
        have := mt h2.2 (by omega)
        grind
    simp -dsimp -implicitDefEqProofs [e]
  have kk3 := eq_false k3
  rw [if_neg k3] at hb
  by_cases k4 : n.kind = 4
  · have kk := eq_true k4
    rw [if_pos k4, ceAt_eq hm] at hb
    simp -dsimp -implicitDefEqProofs [kk1, kk2, kk3, kk]
    refine sw_loop_e (fun p : {p : Nat // p ≤ g.agents.length ∧ ∀ f ∈ r[m].pay.take p, ¬ n.bound.fix < f.fix ∧ ¬ f.fix < -n.bound.fix} => SS.of [(6, .v (.one (.mp 2 0))), (9, .v (.one (intsS (atG g m)))), (10, .v (.one (.mp 3 0))), (12, I .i64 p.1)] [(2, ⟨81, rowNd n⟩), (3, ⟨60, rowCe r[m]⟩)] 4)
      (fun p => g.agents.length - p.1) ⟨0, Nat.zero_le _, by simp⟩ (by kernel_rfl) (Le.to (by simp) (by simp) (by simp)) ?_
    rintro ⟨a, ha, hq⟩
    by_cases a1 : a < g.agents.length
    · have wi : IntKind.i64.wrap ((a : Int) + 1) = ((a + 1 : Nat) : Int) := by rw [wrap_i64 _ (by omega) (by omega)]; rfl
      have a2 : a < r[m].pay.length := by omega
      have hok := hce.1.ok.2.2.2 _ (List.getElem_mem a2)
      have hc1 := cmpR_s r[m].pay[a] n.bound hok hn.2.2.2.1
      have hng := negR_s r[m].pay[a] hok
      have nz : sz (-(r[m].pay[a]).fix) ≤ 4096 := by rw [sz_neg]; exact sz_fix hok
      have hc2 := cmpR_s (frQ (-(r[m].pay[a]).fix)) n.bound (frQ_ok (by omega)) hn.2.2.2.1
      rw [fix_frQ nz] at hc2
      simp -dsimp -implicitDefEqProofs [hal, a1, a2]
      refine eCall.of hc1 (by simp) ?_
      by_cases c1 : n.bound.fix < (r[m].pay[a]).fix
      · have hb' := nf hb (fun hh => (hh _ (List.getElem_mem a2)).1 c1)
        simp -dsimp -implicitDefEqProofs [cmpQ_pos.2 c1, hb']
      simp -dsimp -implicitDefEqProofs [mt cmpQ_pos.1 c1, a2]
      refine eCall.of hng (by simp) ?_
      simp -dsimp -implicitDefEqProofs
      refine eCall.of hc2 (by simp [frQ, ng]) ?_
      by_cases c2 : n.bound.fix < -(r[m].pay[a]).fix
      · have hb' := nf hb (fun hh => (hh _ (List.getElem_mem a2)).2 (by grind))
        simp -dsimp -implicitDefEqProofs [cmpQ_pos.2 c2, hb']
      simp -dsimp -implicitDefEqProofs [mt cmpQ_pos.1 c2]
      refine Again.by ⟨a + 1, a1, fun f hf => ?_⟩ (Le.to (by simp [wi]) (by simp) (by simp)) (by simp; omega)
      rw [List.take_add_one, List.getElem?_eq_getElem a2] at hf
      rcases List.mem_append.1 hf with hf | hf
      · exact hq f hf
      · simp at hf; subst hf; exact ⟨c1, by grind⟩
    have ha2 : a = g.agents.length := by omega
    subst ha2
    rw [List.take_of_length_le (by omega)] at hq
    have hb' := tf hb hq
    simp -dsimp -implicitDefEqProofs [hal, hb']
  have kk4 := eq_false k4
  rw [if_neg k4] at hb
  by_cases k5 : n.kind = 5
  · have kk := eq_true k5
    rw [if_pos k5, MEnvy, envQ, envQ, ceAt_eq hm] at hb
    obtain ⟨A, Bo, e1, e2, hA, hB, hsw⟩ := shaped_envy hsh k5
    rw [e1, e2, Int.toNat_natCast, Int.toNat_natCast] at hb
    have s1 : Spot g r A m := ⟨h, hA, hm⟩
    have s2 : Spot g r Bo m := ⟨h, hB, hm⟩
    simp -dsimp -implicitDefEqProofs [kk1, kk2, kk3, kk4, kk, e1, e2]
    refine eCall.of (envies4_s g r n m A Bo s1 hB hsw) (by simp [e1, e2]) ?_
    by_cases c1 : useQ g r m A < hasQ r[m] ((kdAt g A (kOf g m A)).sw n.swap) Bo
    · have hb' := nf hb (fun hh => hh.1 c1)
      simp -dsimp -implicitDefEqProofs [c1, hb']
    simp -dsimp -implicitDefEqProofs [c1, e1, e2]
    refine eCall.of (envies4_s g r n m Bo A s2 hA hsw) (by simp [e1, e2]) ?_
    by_cases c2 : useQ g r m Bo < hasQ r[m] ((kdAt g Bo (kOf g m Bo)).sw n.swap) A
    · have hb' := nf hb (fun hh => hh.2 c2)
      simp -dsimp -implicitDefEqProofs [c2, hb']
    have hb' := tf hb ⟨c1, c2⟩
    simp -dsimp -implicitDefEqProofs [c2, hb']
  have kk5 := eq_false k5
  rw [if_neg k5] at hb
  have k6 : n.kind = 6 := by rcases shaped_kind hsh with k | k | k | k | k | k <;> first | exact k | omega
  obtain ⟨A, e1, hA, hri⟩ := shaped_order hsh k6
  rw [MOrder, e1, Int.toNat_natCast, kl_eq hA, ceAt_eq hm] at hb
  have hsp : Spot g r A m := ⟨h, hA, hm⟩
  obtain ⟨q1, q2⟩ := hsp.kof
  have al : A < (atG g m).length := by omega
  have q1' : (atG g m)[A] = (kOf g m A : Int) := by rw [List.getElem?_eq_getElem al] at q1; exact Option.some.inj q1
  have hk4 := h4 _ (List.getElem_mem hA)
  have wk : IntKind.i64.wrap ((kOf g m A : Int) + 1) = ((kOf g m A + 1 : Nat) : Int) := by rw [wrap_i64 _ (by omega) (by omega)]; rfl
  by_cases c1 : kOf g m A + 1 < g.agents[A].kinds.length
  · obtain ⟨t1, t2⟩ := hsp.toAt c1
    have hsp2 : Spot g r A (toAt g m A (kOf g m A + 1)) := ⟨h, hA, t2⟩
    obtain ⟨r1, r2, r3⟩ := order_facts hsp hri
    obtain ⟨u1, u2, u3⟩ := order_facts hsp2 hri
    have hol := rise_len hri
    have hpr := placeR_s g hf (atG g m) A ((kOf g m A + 1 : Nat) : Int) (hsp.put c1)
    rw [t1] at hpr
    have hz1 := (cap_mz (show mz (amongQ r[m].lot n.outs) ≤ 2048 by omega)).2
    have hz2 := (cap_mz (show mz (amongQ (r[toAt g m A (kOf g m A + 1)]).lot n.outs) ≤ 2048 by omega)).2
    have hcm := cmpR_s (frQ (amongQ (r[toAt g m A (kOf g m A + 1)]).lot n.outs)) (frQ (amongQ r[m].lot n.outs)) (frQ_ok (by omega)) (frQ_ok (by omega))
    rw [fix_frQ hz1, fix_frQ hz2] at hcm
    have c1' : ¬ g.agents[A].kinds.length ≤ kOf g m A + 1 := by omega
    have c2' : ¬ (g.agents[A].kinds.length : Int) ≤ (kOf g m A : Int) + 1 := by omega
    rw [ceAt_eq t2] at hb
    simp -dsimp -implicitDefEqProofs [kk1, kk2, kk3, kk4, kk5, e1, hA, al, q1', wk, c1', c2']
    refine eCall.of hpr (by simp) ?_
    simp -dsimp -implicitDefEqProofs [t2]
    refine eCall.of (chance4_s _ n.outs u2 u1 (by omega)) (by simp) ?_
    simp -dsimp -implicitDefEqProofs
    refine eCall.of (chance4_s _ n.outs r2 r1 (by omega)) (by simp) ?_
    simp -dsimp -implicitDefEqProofs
    refine eCall.of hcm (by simp [frQ, ng]) ?_
    have e : b = decide (0 ≤ cmpQ (amongQ (r[toAt g m A (kOf g m A + 1)]).lot n.outs) (amongQ r[m].lot n.outs)) := by
      rw [Bool.eq_iff_iff, hb, decide_eq_true_iff, cmpQ_ge, Rat.not_lt]
      exact ⟨fun hh => hh c1, fun hh _ => hh⟩
    simp -dsimp -implicitDefEqProofs [e]
  · have c1' : g.agents[A].kinds.length ≤ kOf g m A + 1 := by omega
    have c2' : (g.agents[A].kinds.length : Int) ≤ (kOf g m A : Int) + 1 := by omega
    have hb' := tf hb (fun hh => absurd hh c1)
    simp -dsimp -implicitDefEqProofs [kk1, kk2, kk3, kk4, kk5, e1, hA, al, q1', wk, c1', c2', hb']
end Go.Proofs.YtmgaoecfipkjbaaGreat.Sh

/- The program's Meets. -/
namespace Go.Proofs.YtmgaoecfipkjbaaGreat.Sh
open Go Go.RowKit

@[simp] theorem fld_lot : fldOf Tryz.prog 60 0 = (tyOf Tryz.prog 46).map fun τ => (0, τ) := by kernel_rfl

set_option maxRecDepth 20000 in
set_option maxHeartbeats 4000000 in
theorem rmeets_s (g : Gm) (r : List Ce) (h : Play g r) (n : Nd) (hn : n.ok) (hsh : ShapedOk g.agents.length g.outs.length n) : ∀ b, (b = true ↔ ∀ m, m < r.length → MeetAt g r n m) → CallsS Tryz.prog 131 [tbS g r, ndS n] (B b) := by
  intro b hb
  have hf := h.fine
  obtain ⟨h1, h6, -, h4, h5⟩ := sizeOk_all hf.sz
  have hrl := h.good.2.2.1
  have hpl := profs_length g
  refine calls Tryz.func131 rfl (by rfl) (by rfl) (by kernel_rfl) ?_
  simp -dsimp -implicitDefEqProofs [Tryz.f131]
  refine eCall.of (places_s g r) (by simp) ?_
  simp -dsimp -implicitDefEqProofs
  refine sw_range_f [0, 1, 2] (fun _ => SS.of [(2, .v (.one (.mp 0 0))), (3, .v (.one (.mp 1 0))), (4, .v (.one (.mp 2 0))), (15, .v (.one (.fn 154 [.rp true (rowTb g r)])))] [(0, ⟨106, rowTb g r⟩), (1, ⟨81, rowNd n⟩), (2, ⟨4, [.bool false]⟩)] 3)
    (fun k => ∀ m, m < k → MeetAt g r n m) (fun m hm => absurd hm (by omega)) (places1_it g r (by omega)) (by simp) (by kernel_rfl) (fun it hit => by obtain ⟨i, -, rfl⟩ := List.mem_map.1 hit; rfl) (Le.to (by simp) (by simp) (by simp)) (fun k => ⟨rfl, rfl, ?_, by simp, rfl, rfl⟩) (fun k w0 ok0 hb => stable_nil) ?_ ?_
  · intro o ob ho
    simp at ho
    grind
  · intro m hm hF
    rw [itemsP_len, hpl, ← hrl] at hm
    have hpn : (profs g)[m]?.getD [] = atG g m := by rw [profs_at (by omega)]; rfl
    have hal := atG_length g m
    have hce := h.ce (List.getElem_mem hm)
    have hpyl := hce.2.2
    have step : MeetAt g r n m → ∀ m', m' < m + 1 → MeetAt g r n m' := fun hh m' hm' => by
      by_cases e : m' = m
      · rw [e]; exact hh
      · exact hF m' (by omega)
    have hbn : ¬ MeetAt g r n m → b = false := fun hh => nf hb (fun ha => hh (ha m hm))
    have hps := (hce.1.pays (by omega))
    have hpay := fsum_s r[m].pay hce.1.ok.2.2.2 (by omega)
    rw [show cap (sumQ (r[m].pay.map FR.fix)) = paidQ r[m] from rfl] at hpay
    have hpz : sz (paidQ r[m]) ≤ 4096 := sz_cap _
    have hsg := fsign_s (frQ (paidQ r[m])) (frQ_ok (by omega))
    rw [fix_frQ hpz] at hsg
    rw [itemsP_get]
    by_cases k1 : n.kind = 1
    · have kk := eq_true k1
      have hM : MeetAt g r n m ↔ MPart g r m := by rw [MeetAt, if_pos k1]
      rw [hM] at step hbn
      simp -dsimp -implicitDefEqProofs [itemP, hpn, hm, kk]
      refine sw_loop_e (fun p : {p : Nat // p ≤ g.agents.length ∧ ∀ a, a < p → ¬ useQ g r m a < (kdAt g a (kOf g m a)).alone.fix} => SS.of [(2, .v (.one (.mp 0 0))), (4, .v (.one (.mp 2 0))), (7, .v (.one (.mp 3 0))), (28, .v (.one (intsS (atG g m)))), (29, I .i64 g.agents.length), (30, I .i64 p.1)] [(0, ⟨106, rowTb g r⟩), (1, ⟨81, rowNd n⟩), (2, ⟨4, [.bool false]⟩), (3, ⟨60, rowCe r[m]⟩)] 4)
        (fun p => g.agents.length - p.1) ⟨0, Nat.zero_le _, fun a ha => absurd ha (by omega)⟩ (by kernel_rfl) (Le.to (by simp [hal]) (by simp) (by simp)) ?_
      rintro ⟨a, ha, hq⟩
      by_cases a1 : a < g.agents.length
      · have wi : IntKind.i64.wrap ((a : Int) + 1) = ((a + 1 : Nat) : Int) := by rw [wrap_i64 _ (by omega) (by omega)]; rfl
        have hsp : Spot g r a m := ⟨h, a1, hm⟩
        obtain ⟨k1, k2⟩ := hsp.kof
        have al : a < (atG g m).length := by omega
        have k1' : (atG g m)[a] = (kOf g m a : Int) := by rw [List.getElem?_eq_getElem al] at k1; exact Option.some.inj k1
        have hkd := (h.kd (List.getElem_mem a1) (List.getElem_mem k2)).1
        have huz := (cap_mz (show mz (useQ g r m a) ≤ 2048 by have := hsp.use.1; omega)).2
        have hcm := fcmp_s (frQ (useQ g r m a)) (g.agents[a].kinds[kOf g m a]).alone (frQ_ok (by omega)) hkd.ok.2.2.1
        rw [fix_frQ huz] at hcm
        simp -dsimp -implicitDefEqProofs [al, a1, k1', k2]
        refine eCall.of hsp.use.2 (by simp) ?_
        simp -dsimp -implicitDefEqProofs [al, a1, k1', k2]
        refine eCall.of hcm (by simp [frQ, ng]) ?_
        by_cases c : useQ g r m a < (g.agents[a].kinds[kOf g m a]).alone.fix
        · have hb' := hbn (fun hh => hh a a1 (by rw [kdAt_eq a1 k2]; exact c))
          simp -dsimp -implicitDefEqProofs [cmpQ_neg.2 c, hb']
        · simp -dsimp -implicitDefEqProofs [mt cmpQ_neg.1 c]
          refine Again.by ⟨a + 1, a1, fun a' ha' => ?_⟩ (Le.to (by simp [wi]) (by simp) (by simp)) (by simp; omega)
          by_cases e : a' = a
          · subst e; rw [kdAt_eq a1 k2]; exact c
          · exact hq a' (by omega)
      have ha2 : a = g.agents.length := by omega
      subst ha2
      have hst := step hq
      simp -dsimp -implicitDefEqProofs
      exact hst
    have kk1 := eq_false k1
    by_cases k2 : n.kind = 2
    · have kk := eq_true k2
      have kk3 : (n.kind = 3) = False := by simp [k2]
      have hM : MeetAt g r n m ↔ ¬ paidQ r[m] < 0 := by rw [MeetAt, if_neg k1, if_pos k2, ceAt_eq hm]
      rw [hM] at step hbn
      simp -dsimp -implicitDefEqProofs [itemP, hpn, hm, kk1, kk]
      refine eCall.of hpay (by simp) ?_
      simp -dsimp -implicitDefEqProofs
      refine eCall.of hsg (by simp [frQ, ng]) ?_
      by_cases c : paidQ r[m] < 0
      · have hb' := hbn (fun hh => hh c)
        simp -dsimp -implicitDefEqProofs [sgnQ_neg.2 c, hb']
      · have hst := step c
        by_cases c2 : 0 < sgnQ (paidQ r[m])
        · simp -dsimp -implicitDefEqProofs [mt sgnQ_neg.1 c, c2, kk3]
          exact hst
        · simp -dsimp -implicitDefEqProofs [mt sgnQ_neg.1 c, c2]
          exact hst
    have kk2 := eq_false k2
    by_cases k3 : n.kind = 3
    · have kk := eq_true k3
      have hM : MeetAt g r n m ↔ paidQ r[m] = 0 := by rw [MeetAt, if_neg k1, if_neg k2, if_pos k3, ceAt_eq hm]
      rw [hM] at step hbn
      simp -dsimp -implicitDefEqProofs [itemP, hpn, hm, kk1, kk2, kk]
      refine eCall.of hpay (by simp) ?_
      simp -dsimp -implicitDefEqProofs
      refine eCall.of hsg (by simp [frQ, ng]) ?_
      by_cases c : paidQ r[m] < 0
      · have hb' := hbn (fun hh => by rw [hh] at c; exact Rat.lt_irrefl c)
        simp -dsimp -implicitDefEqProofs [sgnQ_neg.2 c, hb']
      · by_cases c2 : 0 < paidQ r[m]
        · have hb' := hbn (fun hh => by rw [hh] at c2; exact Rat.lt_irrefl c2)
          simp -dsimp -implicitDefEqProofs [mt sgnQ_neg.1 c, sgnQ_pos.2 c2, kk, hb']
        · have hst := step (by grind)
          simp -dsimp -implicitDefEqProofs [mt sgnQ_neg.1 c, mt sgnQ_pos.1 c2]
          exact hst
    have kk3 := eq_false k3
    by_cases k4 : n.kind = 4
    · have kk := eq_true k4
      have hM : MeetAt g r n m ↔ MBound n r[m] := by rw [MeetAt, if_neg k1, if_neg k2, if_neg k3, if_pos k4, ceAt_eq hm]
      rw [hM] at step hbn
      have hngb := fneg_s n.bound hn.2.2.2.1
      have nz : sz (-n.bound.fix) ≤ 4096 := by rw [sz_neg]; exact sz_fix hn.2.2.2.1
      simp -dsimp -implicitDefEqProofs [itemP, hpn, hm, kk1, kk2, kk3, kk]
      refine sw_loop_e (fun p : {p : Nat × Nat // p.1 ≤ r[m].pay.length ∧ ∀ f ∈ r[m].pay.take p.1, ¬ n.bound.fix < f.fix ∧ ¬ f.fix < -n.bound.fix} => SS.of [(3, .v (.one (.mp 1 0))), (4, .v (.one (.mp 2 0))), (75, .v (.one (frsS r[m].pay))), (76, I .i64 r[m].pay.length), (77, I .i64 p.1.1)] [(0, ⟨106, rowTb g r⟩), (1, ⟨81, rowNd n⟩), (2, ⟨4, [.bool false]⟩)] (p.1.2 + 4))
        (fun p => r[m].pay.length - p.1.1) ⟨(0, 0), Nat.zero_le _, by simp⟩ (by kernel_rfl) (Le.to (by simp) (by simp) (by simp)) ?_
      rintro ⟨⟨a, c⟩, ha, hq⟩
      simp only at ha hq
      by_cases a2 : a < r[m].pay.length
      · have wi : IntKind.i64.wrap ((a : Int) + 1) = ((a + 1 : Nat) : Int) := by rw [wrap_i64 _ (by omega) (by omega)]; rfl
        have hok := hce.1.ok.2.2.2 _ (List.getElem_mem a2)
        have hc1 := fcmp_s r[m].pay[a] n.bound hok hn.2.2.2.1
        have hc2 := fcmp_s r[m].pay[a] (frQ (-n.bound.fix)) hok (frQ_ok (by omega))
        rw [fix_frQ nz] at hc2
        simp -dsimp -implicitDefEqProofs [a2]
        refine eCall.of hc1 (by simp) ?_
        by_cases c1 : n.bound.fix < (r[m].pay[a]).fix
        · have hb' := hbn (fun hh => (hh _ (List.getElem_mem a2)).1 c1)
          simp -dsimp -implicitDefEqProofs [cmpQ_pos.2 c1, hb']
        simp -dsimp -implicitDefEqProofs [mt cmpQ_pos.1 c1]
        refine eCall.of hngb (by simp) ?_
        simp -dsimp -implicitDefEqProofs
        refine eCall.of hc2 (by simp [frQ, ng]) ?_
        by_cases c2 : (r[m].pay[a]).fix < -n.bound.fix
        · have hb' := hbn (fun hh => (hh _ (List.getElem_mem a2)).2 c2)
          simp -dsimp -implicitDefEqProofs [cmpQ_neg.2 c2, hb']
        simp -dsimp -implicitDefEqProofs [mt cmpQ_neg.1 c2]
        refine Again.by ⟨(a + 1, c + 1), a2, fun f hf => ?_⟩ (Le.to (by simp [wi]) (by simp) (by simp)) (by simp; omega)
        rw [List.take_add_one, List.getElem?_eq_getElem a2] at hf
        rcases List.mem_append.1 hf with hf | hf
        · exact hq f hf
        · simp at hf; subst hf; exact ⟨c1, c2⟩
      have ha2 : a = r[m].pay.length := by omega
      subst ha2
      rw [List.take_length] at hq
      have hst := step hq
      simp -dsimp -implicitDefEqProofs
      exact hst
    have kk4 := eq_false k4
    by_cases k5 : n.kind = 5
    · have kk := eq_true k5
      obtain ⟨A, Bo, e1, e2, hA, hB, hsw⟩ := shaped_envy hsh k5
      have hM : MeetAt g r n m ↔ (¬ useQ g r m A < hasQ r[m] ((kdAt g A (kOf g m A)).sw n.swap) Bo ∧ ¬ useQ g r m Bo < hasQ r[m] ((kdAt g Bo (kOf g m Bo)).sw n.swap) A) := by
        rw [MeetAt, if_neg k1, if_neg k2, if_neg k3, if_neg k4, if_pos k5, MEnvy, envQ, envQ, ceAt_eq hm, e1, e2, Int.toNat_natCast, Int.toNat_natCast]
      rw [hM] at step hbn
      have s1 : Spot g r A m := ⟨h, hA, hm⟩
      have s2 : Spot g r Bo m := ⟨h, hB, hm⟩
      simp -dsimp -implicitDefEqProofs [itemP, hpn, hm, kk1, kk2, kk3, kk4, kk, e1, e2]
      refine eCall.of (renvies_s g r n m A Bo s1 hB hsw) (by simp [e1, e2]) ?_
      by_cases c1 : useQ g r m A < hasQ r[m] ((kdAt g A (kOf g m A)).sw n.swap) Bo
      · have hb' := hbn (fun hh => hh.1 c1)
        simp -dsimp -implicitDefEqProofs [c1, hb']
      simp -dsimp -implicitDefEqProofs [c1, e1, e2]
      refine eCall.of (renvies_s g r n m Bo A s2 hA hsw) (by simp [e1, e2]) ?_
      by_cases c2 : useQ g r m Bo < hasQ r[m] ((kdAt g Bo (kOf g m Bo)).sw n.swap) A
      · have hb' := hbn (fun hh => hh.2 c2)
        simp -dsimp -implicitDefEqProofs [c2, hb']
      have hst := step ⟨c1, c2⟩
      simp -dsimp -implicitDefEqProofs [c2, e1, e2]
      exact hst
    have kk5 := eq_false k5
    have k6 : n.kind = 6 := by rcases shaped_kind hsh with k | k | k | k | k | k <;> first | exact k | omega
    have kk := eq_true k6
    obtain ⟨A, e1, hA, hri⟩ := shaped_order hsh k6
    have hM : MeetAt g r n m ↔ (kOf g m A + 1 < g.agents[A].kinds.length → ¬ amongQ (ceAt r (toAt g m A (kOf g m A + 1))).lot n.outs < amongQ r[m].lot n.outs) := by
      rw [MeetAt, if_neg k1, if_neg k2, if_neg k3, if_neg k4, if_neg k5, MOrder, e1, Int.toNat_natCast, kl_eq hA, ceAt_eq hm]
    rw [hM] at step hbn
    have hsp : Spot g r A m := ⟨h, hA, hm⟩
    obtain ⟨q1, q2⟩ := hsp.kof
    have al : A < (atG g m).length := by omega
    have q1' : (atG g m)[A] = (kOf g m A : Int) := by rw [List.getElem?_eq_getElem al] at q1; exact Option.some.inj q1
    have hk4 := h4 _ (List.getElem_mem hA)
    have wk : IntKind.i64.wrap ((kOf g m A : Int) + 1) = ((kOf g m A + 1 : Nat) : Int) := by rw [wrap_i64 _ (by omega) (by omega)]; rfl
    by_cases c1 : kOf g m A + 1 < g.agents[A].kinds.length
    · obtain ⟨t1, t2⟩ := hsp.toAt c1
      have hsp2 : Spot g r A (toAt g m A (kOf g m A + 1)) := ⟨h, hA, t2⟩
      obtain ⟨r1, r2, r3⟩ := order_facts hsp hri
      obtain ⟨u1, u2, u3⟩ := order_facts hsp2 hri
      have hol := rise_len hri
      have haf := after_s g r A m (kOf g m A + 1) hsp c1
      have hz1 := (cap_mz (show mz (amongQ r[m].lot n.outs) ≤ 2048 by omega)).2
      have hz2 := (cap_mz (show mz (amongQ (r[toAt g m A (kOf g m A + 1)]).lot n.outs) ≤ 2048 by omega)).2
      have hcm := fcmp_s (frQ (amongQ (r[toAt g m A (kOf g m A + 1)]).lot n.outs)) (frQ (amongQ r[m].lot n.outs)) (frQ_ok (by omega)) (frQ_ok (by omega))
      rw [fix_frQ hz1, fix_frQ hz2] at hcm
      rw [ceAt_eq t2] at step hbn
      have c1' : ((kOf g m A : Int) + 1 < (g.agents[A].kinds.length : Int)) := by omega
      simp -dsimp -implicitDefEqProofs [itemP, hpn, hm, kk1, kk2, kk3, kk4, kk5, kk, e1, hA, al, q1', wk, c1, c1']
      refine eCall.of haf (by simp) ?_
      simp -dsimp -implicitDefEqProofs [e1]
      refine eCall.of (among_s _ n.outs u2 u1 (by omega)) (by simp) ?_
      simp -dsimp -implicitDefEqProofs
      refine eCall.of (among_s _ n.outs r2 r1 (by omega)) (by simp) ?_
      simp -dsimp -implicitDefEqProofs
      refine eCall.of hcm (by simp [frQ, ng]) ?_
      by_cases c2 : amongQ (r[toAt g m A (kOf g m A + 1)]).lot n.outs < amongQ r[m].lot n.outs
      · have hb' := hbn (fun hh => hh c1 c2)
        simp -dsimp -implicitDefEqProofs [cmpQ_neg.2 c2, hb']
      · have hst := step (fun _ => c2)
        simp -dsimp -implicitDefEqProofs [mt cmpQ_neg.1 c2, e1]
        exact hst
    · have hst := step (fun hh => absurd hh c1)
      have c1' : ¬ ((kOf g m A : Int) + 1 < (g.agents[A].kinds.length : Int)) := by omega
      simp -dsimp -implicitDefEqProofs [itemP, hpn, hm, kk1, kk2, kk3, kk4, kk5, kk, e1, hA, al, q1', wk, c1, c1']
      exact hst
  · intro hF
    rw [itemsP_len, hpl, ← hrl] at hF
    have hb' := tf hb hF
    simp -dsimp -implicitDefEqProofs [hb']
end Go.Proofs.YtmgaoecfipkjbaaGreat.Sh

/- Meets, Aim: the reference; the walk of RuleMeets. -/
namespace Go.Proofs.YtmgaoecfipkjbaaGreat.Sh
open Go Go.RowKit

def MeetAll (g : Gm) (r : List Ce) (n : Nd) : Prop := ∀ m, m < r.length → MeetAt g r n m
def isMeets (g : Gm) (r : List Ce) (i : Int) (ok : Bool) : Prop :=
  (∃ (j : Nat) (h : j < g.needs.length), ¬ MeetAll g r g.needs[j] ∧ (∀ k (hk : k < j), MeetAll g r (g.needs[k]'(by omega))) ∧ i = j ∧ ok = false) ∨ ((∀ n ∈ g.needs, MeetAll g r n) ∧ i = -1 ∧ ok = true)
theorem isMeets_of (g : Gm) (r : List Ce) : ∃ i ok, isMeets g r i ok := by
  by_cases h : ∀ n ∈ g.needs, MeetAll g r n
  · exact ⟨_, _, .inr ⟨h, rfl, rfl⟩⟩
  · have : ∃ j, ∃ h : j < g.needs.length, ¬ MeetAll g r g.needs[j] := Classical.byContradiction fun hc => h fun n hn => Classical.byContradiction fun hx => by
      obtain ⟨j, hj, rfl⟩ := List.getElem_of_mem hn
      exact hc ⟨j, hj, hx⟩
    obtain ⟨j, hj⟩ := this
    induction j using Nat.strongRecOn with
    | _ j ih =>
      by_cases hm : ∃ k, k < j ∧ ∃ h : k < g.needs.length, ¬ MeetAll g r g.needs[k]
      · obtain ⟨k, h1, h2⟩ := hm; exact ih k h1 h2
      · obtain ⟨h1, h2⟩ := hj
        exact ⟨_, _, .inl ⟨j, h1, h2, fun k hk => Classical.byContradiction fun hx => hm ⟨k, hk, by omega, hx⟩, rfl, rfl⟩⟩
theorem isMeets.at {g : Gm} {r : List Ce} {i : Int} {ok : Bool} (h : isMeets g r i ok) {j : Nat} (hj : j < g.needs.length) (h1 : ¬ MeetAll g r g.needs[j]) (h2 : ∀ k (hk : k < j), MeetAll g r (g.needs[k]'(by omega))) : i = j ∧ ok = false := by
  rcases h with ⟨k, hk, g1, g2, g3, g4⟩ | ⟨g1, -, -⟩
  · rcases Nat.lt_trichotomy j k with c | c | c
    · exact absurd (g2 j c) h1
    · subst c; exact ⟨g3, g4⟩
    · exact absurd (h2 k c) g1
  · exact absurd (g1 _ (List.getElem_mem hj)) h1
theorem isMeets.none {g : Gm} {r : List Ce} {i : Int} {ok : Bool} (h : isMeets g r i ok) (h1 : ∀ n ∈ g.needs, MeetAll g r n) : i = -1 ∧ ok = true := by
  rcases h with ⟨k, hk, g1, g2, g3, g4⟩ | ⟨-, g3, g4⟩
  · exact absurd (h1 _ (List.getElem_mem hk)) g1
  · exact ⟨g3, g4⟩
theorem bool_of (P : Prop) : ∃ b : Bool, b = true ↔ P := by
  by_cases h : P
  · exact ⟨true, by simp [h]⟩
  · exact ⟨false, by simp [h]⟩

set_option maxRecDepth 20000 in
theorem meetsNeed4_s (g : Gm) (r : List Ce) (h : Play g r) (n : Nd) (hn : n.ok) (hsh : ShapedOk g.agents.length g.outs.length n) (b : Bool) (hb : b = true ↔ MeetAll g r n) : CallsS Tryz.prog 50 [gmS g, ruS r, ndS n] (B b) := by
  have h5 := (sizeOk_all h.fine.sz).2.2.2.2
  have hrl := h.good.2.2.1
  refine calls Tryz.func50 rfl (by rfl) (by rfl) (by kernel_rfl) ?_
  simp -dsimp -implicitDefEqProofs [Tryz.f50]
  refine sw_loop_e (fun p : {p : Nat // p ≤ r.length ∧ ∀ m, m < p → MeetAt g r n m} => SS.of [(3, .v (.one (.mp 0 0))), (4, .v (.one (.mp 1 0))), (5, .v (.one (.mp 2 0))), (7, I .i64 p.1)] [(0, ⟨26, rowGm g⟩), (1, ⟨29, [cesS r]⟩), (2, ⟨81, rowNd n⟩)] 3)
    (fun p => r.length - p.1) ⟨0, Nat.zero_le _, fun m hm => absurd hm (by omega)⟩ (by kernel_rfl) (Le.to (by simp) (by simp) (by simp)) ?_
  rintro ⟨m, hm, hq⟩
  by_cases a1 : m < r.length
  · have wi : IntKind.i64.wrap ((m : Int) + 1) = ((m + 1 : Nat) : Int) := by rw [wrap_i64 _ (by omega) (by omega)]; rfl
    simp -dsimp -implicitDefEqProofs [a1]
    by_cases c : MeetAt g r n m
    · refine eCall.of (meetsAt4_s g r h n hn hsh m a1 true (by simp [c])) (by simp) ?_
      simp -dsimp -implicitDefEqProofs
      refine Again.by ⟨m + 1, a1, fun m' hm' => ?_⟩ (Le.to (by simp [wi]) (by simp) (by simp)) (by simp; omega)
      by_cases e : m' = m
      · rw [e]; exact c
      · exact hq m' (by omega)
    · refine eCall.of (meetsAt4_s g r h n hn hsh m a1 false (by simp [c])) (by simp) ?_
      have hb' := nf hb (fun hh => c (hh m a1))
      simp -dsimp -implicitDefEqProofs [hb']
  have hm2 : m = r.length := by omega
  subst hm2
  have hb' := tf hb hq
  simp -dsimp -implicitDefEqProofs [hb']

set_option maxRecDepth 20000 in
theorem meets4_s (g : Gm) (r : List Ce) (h : Play g r) (i : Int) (ok : Bool) (hi : isMeets g r i ok) : CallsS Tryz.prog 60 [gmS g, ruS r] (.tup [.one (.int .i64 i), .one (.bool ok)]) := by
  have hnl := (sizeOk_all h.fine.sz).2.2.1
  refine calls Tryz.func60 rfl (by rfl) (by rfl) (by kernel_rfl) ?_
  simp -dsimp -implicitDefEqProofs [Tryz.f60]
  refine eCall.of (rightR4_s g r h.seen 0 (.inr (.inr ⟨h.good, rfl⟩))) (by simp) ?_
  simp -dsimp -implicitDefEqProofs
  refine sw_loop_e (fun p : {p : Nat // p ≤ g.needs.length ∧ ∀ k (hk : k < p) (hl : k < g.needs.length), MeetAll g r g.needs[k]} => SS.of [(2, .v (.one (.mp 0 0))), (3, .v (.one (.mp 1 0))), (6, I .i64 p.1)] [(0, ⟨26, rowGm g⟩), (1, ⟨29, [cesS r]⟩)] 2)
    (fun p => g.needs.length - p.1) ⟨0, Nat.zero_le _, fun m hm => absurd hm (by omega)⟩ (by kernel_rfl) (Le.to (by simp) (by simp) (by simp)) ?_
  rintro ⟨k, hk, hq⟩
  by_cases a1 : k < g.needs.length
  · have wi : IntKind.i64.wrap ((k : Int) + 1) = ((k + 1 : Nat) : Int) := by rw [wrap_i64 _ (by omega) (by omega)]; rfl
    obtain ⟨b, hb⟩ := bool_of (MeetAll g r g.needs[k])
    simp -dsimp -implicitDefEqProofs [a1]
    refine eCall.of (meetsNeed4_s g r h g.needs[k] (h.fine.ok.n _ (List.getElem_mem a1)) (h.good.2.1.needs k a1).1 b hb) (by simp) ?_
    cases b with
    | true =>
      have c := hb.1 rfl
      simp -dsimp -implicitDefEqProofs
      refine Again.by ⟨k + 1, a1, fun k' hk' hl' => ?_⟩ (Le.to (by simp [wi]) (by simp) (by simp)) (by simp; omega)
      by_cases e : k' = k
      · subst e; exact c
      · exact hq k' (by omega) hl'
    | false =>
      have c : ¬ MeetAll g r g.needs[k] := fun hh => by have := hb.2 hh; cases this
      obtain ⟨rfl, rfl⟩ := hi.at a1 c (fun k' hk' => hq k' hk' (by omega))
      simp -dsimp -implicitDefEqProofs
  have hm2 : k = g.needs.length := by omega
  subst hm2
  obtain ⟨rfl, rfl⟩ := hi.none (fun n hn => by obtain ⟨k, hk, rfl⟩ := List.getElem_of_mem hn; exact hq k hk hk)
  simp -dsimp -implicitDefEqProofs

set_option maxRecDepth 20000 in
theorem rmeetsAll_s (g : Gm) (r : List Ce) (h : Play g r) (i : Int) (ok : Bool) (hi : isMeets g r i ok) : CallsS Tryz.prog 62 [gmS g, ruS r] (.tup [.one (.int .i64 i), .one (.bool ok)]) := by
  have hnl := (sizeOk_all h.fine.sz).2.2.1
  refine calls Tryz.func62 rfl (by rfl) (by rfl) (by kernel_rfl) ?_
  simp -dsimp -implicitDefEqProofs [Tryz.f62]
  refine eCall.of (open_s g r h.seen h.good) (by simp) ?_
  simp -dsimp -implicitDefEqProofs
  refine sw_loop_e (fun p : {p : Nat × Nat // p.1 ≤ g.needs.length ∧ ∀ k (hk : k < p.1) (hl : k < g.needs.length), MeetAll g r g.needs[k]} => SS.of [(6, .v (.one (.mp 2 0))), (19, .v (.one (ndsS g.needs))), (20, I .i64 g.needs.length), (21, I .i64 p.1.1)] [(2, ⟨106, rowTb g r⟩)] (p.1.2 + 3))
    (fun p => g.needs.length - p.1.1) ⟨(0, 0), Nat.zero_le _, fun m hm => absurd hm (by simp)⟩ (by kernel_rfl) (Le.to (by simp) (by simp) (by simp)) ?_
  rintro ⟨⟨k, c⟩, hk, hq⟩
  simp only at hk hq
  by_cases a1 : k < g.needs.length
  · have wi : IntKind.i64.wrap ((k : Int) + 1) = ((k + 1 : Nat) : Int) := by rw [wrap_i64 _ (by omega) (by omega)]; rfl
    obtain ⟨b, hb⟩ := bool_of (MeetAll g r g.needs[k])
    simp -dsimp -implicitDefEqProofs [a1]
    refine eCall.of (rmeets_s g r h g.needs[k] (h.fine.ok.n _ (List.getElem_mem a1)) (h.good.2.1.needs k a1).1 b hb) (by simp) ?_
    cases b with
    | true =>
      have c1 := hb.1 rfl
      simp -dsimp -implicitDefEqProofs
      refine Again.by ⟨(k + 1, c + 1), a1, fun k' hk' hl' => ?_⟩ (Le.to (by simp [wi]) (by simp) (by simp)) (by simp; omega)
      by_cases e : k' = k
      · subst e; exact c1
      · exact hq k' (by simp only at hk'; omega) hl'
    | false =>
      have c1 : ¬ MeetAll g r g.needs[k] := fun hh => by have := hb.2 hh; cases this
      obtain ⟨rfl, rfl⟩ := hi.at a1 c1 (fun k' hk' => hq k' hk' (by omega))
      simp -dsimp -implicitDefEqProofs
  have hm2 : k = g.needs.length := by omega
  subst hm2
  obtain ⟨rfl, rfl⟩ := hi.none (fun n hn => by obtain ⟨k, hk, rfl⟩ := List.getElem_of_mem hn; exact hq k hk hk)
  simp -dsimp -implicitDefEqProofs

set_option maxRecDepth 20000 in
theorem rmeetsNo_s (g : Gm) (r : List Ce) (h : Seen g r) (hg : ¬ Good g r) : CallsS Tryz.prog 62 [gmS g, ruS r] (.tup [.one (.int .i64 (-1)), .one (.bool false)]) := by
  refine calls Tryz.func62 rfl (by rfl) (by rfl) (by kernel_rfl) ?_
  simp -dsimp -implicitDefEqProofs [Tryz.f62]
  refine eCall.of (openNo_s g r h hg) (by simp) ?_
  simp -dsimp -implicitDefEqProofs
set_option maxRecDepth 20000 in
theorem meetsNo4_s (g : Gm) (r : List Ce) (h : Seen g r) (hg : ¬ Good g r) : CallsS Tryz.prog 60 [gmS g, ruS r] (.tup [.one (.int .i64 (-1)), .one (.bool false)]) := by
  obtain ⟨e, he, h0⟩ := isGood_of g r
  have h0 : ¬ e = 0 := fun h => hg (h0.1 h)
  refine calls Tryz.func60 rfl (by rfl) (by rfl) (by kernel_rfl) ?_
  simp -dsimp -implicitDefEqProofs [Tryz.f60]
  refine eCall.of (rightR4_s g r h e he) (by simp) ?_
  simp -dsimp -implicitDefEqProofs [h0]
end Go.Proofs.YtmgaoecfipkjbaaGreat.Sh

