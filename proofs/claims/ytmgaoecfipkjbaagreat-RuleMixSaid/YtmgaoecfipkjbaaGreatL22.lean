/- A part of the proof: R94, R73, R74, R75, R100, R101, R102, R103, R104, R105 -/
import Derived.Test.YtmgaoecfipkjbaaGreatL21
set_option linter.unusedSimpArgs false
set_option linter.unusedVariables false
set_option linter.unusedSectionVars false
/- A game in which an agent's kinds stand the other way about: lies, gains and aim are the same. No program in sight. -/
namespace Go.Proofs.YtmgaoecfipkjbaaGreat.Sh
open Go Go.RowKit

theorem hasQ_same {K L : Kd} (h : SameN K L) (c : Ce) (a : Nat) : hasQ c K a = hasQ c L a := by unfold hasQ; rw [h.wo]
def turnR (g : Gm) (r : List Ce) (b : Nat) : List Ce := (List.range r.length).map fun n => ceAt r (tn g b n)
theorem turnR_len (g : Gm) (r : List Ce) (b : Nat) : (turnR g r b).length = r.length := by simp [turnR]
theorem turnR_at {g : Gm} {r : List Ce} {b n : Nat} (hn : n < r.length) : ceAt (turnR g r b) n = ceAt r (tn g b n) := by
  rw [ceAt_eq (by rw [turnR_len]; exact hn)]; simp [turnR]

section
variable {g h : Gm} {r : List Ce} {b : Nat} (hp : Play g r) (t : Tn g h b)
include hp t
theorem use_turn {n a : Nat} (hn : n < r.length) (ha : a < g.agents.length) : useQ h (turnR g r b) n a = useQ g r (tn g b n) a := by
  have hs : Spot g r a n := ⟨hp, ha, hn⟩
  have hk : kOf g n a < kl g a := by rw [kl_eq ha]; exact hs.kof.2
  unfold useQ
  rw [turnR_at hn, t.kOf, hasQ_same (t.kdAt ha hk), kOf_tn hp t.hb hn ha]
theorem tp_put {n a told : Nat} (hn : n < r.length) (ha : a < g.agents.length) (ht : told < kl g a) : tp g b (putP (atG g n) a told) = putP (tp g b (atG g n)) a (tk g b a told : Nat) := by
  have hs : Spot g r a n := ⟨hp, ha, hn⟩
  have hpr := hs.prof
  have hpp := hs.put (told := told) (by rw [← kl_eq ha]; exact ht)
  have hl : (atG g n).length = g.agents.length := hpr.1
  have hb := t.hb
  have hl2 : (tp g b (atG g n)).length = g.agents.length := (tp_ok hp hb hpr).1
  refine List.ext_getElem? fun j => ?_
  rw [tp_get hp hb hpp, putP_get (by omega), putP_get (by omega), putP_get (by omega), tp_get hp hb hpr]
  unfold tk
  by_cases c1 : j = b
  · by_cases c2 : b = a
    · subst c2; subst c1
      simp only [if_true, Option.getD_some, Option.some.injEq]
      omega
    · rw [if_pos c1, if_neg c2, if_neg (show ¬ j = a by omega), if_pos c1]
  · by_cases c2 : j = a
    · rw [if_neg c1, if_pos c2, if_pos c2, if_neg (show ¬ a = b by omega)]
    · rw [if_neg c1, if_neg c2, if_neg c2, if_neg c1]
theorem to_turn {n a told : Nat} (hn : n < r.length) (ha : a < g.agents.length) (ht : told < kl g a) : toAt h n a told < r.length ∧ tn g b (toAt h n a told) = toAt g (tn g b n) a (tk g b a told) := by
  have hs : Spot g r a n := ⟨hp, ha, hn⟩
  have ht' : told < (g.agents[a]).kinds.length := by rw [← kl_eq ha]; exact ht
  obtain ⟨e1, e2⟩ := hs.toAt ht'
  have e0 : toAt h n a told = toAt g n a told := by unfold toAt; rw [t.at, t.whr]
  rw [e0]
  refine ⟨e2, ?_⟩
  have e3 : atG g (toAt g n a told) = putP (atG g n) a told := by
    have := at_whr (hs.put ht')
    exact this
  show (whr g (tp g b (atG g (toAt g n a told)))).toNat = (whr g (putP (atG g (tn g b n)) a (tk g b a told : Nat))).toNat
  rw [e3, (tn_lt hp t.hb hn).2.1, tp_put hp t hn ha ht]
theorem gain_turn {n a told : Nat} (hn : n < r.length) (ha : a < g.agents.length) (ht : told < kl g a) : gainQ h (turnR g r b) a n told = gainQ g r a (tn g b n) (tk g b a told) := by
  have hs : Spot g r a n := ⟨hp, ha, hn⟩
  have hk : kOf g n a < kl g a := by rw [kl_eq ha]; exact hs.kof.2
  obtain ⟨e1, e2⟩ := to_turn hp t hn ha ht
  unfold gainQ
  rw [turnR_at e1, turnR_at hn, t.kOf, hasQ_same (t.kdAt ha hk), hasQ_same (t.kdAt ha hk), kOf_tn hp t.hb hn ha, e2]
theorem gain_back {n a told : Nat} (hn : n < r.length) (ha : a < g.agents.length) (ht : told < kl g a) : gainQ g r a n told = gainQ h (turnR g r b) a (tn g b n) (tk g b a told) := by
  rw [gain_turn hp t (tn_lt hp t.hb hn).1 ha (tk_lt ht), tn_tn hp t.hb hn, tk_tk ht]
theorem noA_turn {a : Nat} (ha : a < g.agents.length) : NoA h (turnR g r b) a ↔ NoA g r a := by
  constructor
  · intro hh n hn told ht
    rw [gain_back hp t hn ha ht]
    exact hh _ (by rw [turnR_len]; exact (tn_lt hp t.hb hn).1) _ (by rw [t.kl_eq]; exact tk_lt ht)
  · intro hh n hn told ht
    rw [turnR_len] at hn
    rw [t.kl_eq] at ht
    rw [gain_turn hp t hn ha ht]
    exact hh _ (tn_lt hp t.hb hn).1 _ (tk_lt ht)
end

theorem isTr.iff {g : Gm} {r : List Ce} {l : Li} {ok : Bool} (h : isTr g r l ok) : ok = true ↔ ∀ a, a < g.agents.length → NoA g r a := by
  rcases h with ⟨a, n, t, h1, -, rfl⟩ | ⟨h1, -, rfl⟩
  · exact ⟨fun e => (by cases e), fun hh => absurd h1.pos (hh a h1.ha n h1.hn t h1.ht)⟩
  · exact ⟨fun _ => h1, fun _ => rfl⟩

theorem mst_gt : ∀ (l : List Li) (m : Option Li) {y : Li}, l.foldl (mst gtL) m = some y → (∀ x ∈ l, x.gain ≤ y.gain) ∧ ∀ z, m = some z → z.gain ≤ y.gain
  | [], m, y, h => ⟨fun x hx => (by cases hx), fun z hz => by rw [List.foldl_nil, hz] at h; cases h; exact Rat.le_refl⟩
  | x :: l, m, y, h => by
    obtain ⟨h1, h2⟩ := mst_gt l _ h
    cases m with
    | none =>
      refine ⟨fun z hz => ?_, fun z hz => by cases hz⟩
      rcases List.mem_cons.1 hz with rfl | hz
      · exact h2 _ rfl
      · exact h1 z hz
    | some w =>
      by_cases c : w.gain < x.gain
      · have h3 := h2 x (by simp [mst, gtL, c])
        refine ⟨fun z hz => ?_, fun z hz => ?_⟩
        · rcases List.mem_cons.1 hz with rfl | hz
          · exact h3
          · exact h1 z hz
        · cases hz; exact Rat.le_trans (Rat.le_of_lt c) h3
      · have h3 := h2 w (by simp [mst, gtL, c])
        refine ⟨fun z hz => ?_, fun z hz => ?_⟩
        · rcases List.mem_cons.1 hz with rfl | hz
          · exact Rat.le_trans (Rat.not_lt.1 c) h3
          · exact h1 z hz
        · cases hz; exact h3
theorem mst_lt : ∀ (l : List Rat) (m : Option Rat) {y : Rat}, l.foldl (mst ltQ) m = some y → (∀ x ∈ l, y ≤ x) ∧ ∀ z, m = some z → y ≤ z
  | [], m, y, h => ⟨fun x hx => (by cases hx), fun z hz => by rw [List.foldl_nil, hz] at h; cases h; exact Rat.le_refl⟩
  | x :: l, m, y, h => by
    obtain ⟨h1, h2⟩ := mst_lt l _ h
    cases m with
    | none =>
      refine ⟨fun z hz => ?_, fun z hz => by cases hz⟩
      rcases List.mem_cons.1 hz with rfl | hz
      · exact h2 _ rfl
      · exact h1 z hz
    | some w =>
      by_cases c : x < w
      · have h3 := h2 x (by simp [mst, ltQ, c])
        refine ⟨fun z hz => ?_, fun z hz => ?_⟩
        · rcases List.mem_cons.1 hz with rfl | hz
          · exact h3
          · exact h1 z hz
        · cases hz; exact Rat.le_trans h3 (Rat.le_of_lt c)
      · have h3 := h2 w (by simp [mst, ltQ, c])
        refine ⟨fun z hz => ?_, fun z hz => ?_⟩
        · rcases List.mem_cons.1 hz with rfl | hz
          · exact Rat.le_trans h3 (Rat.not_lt.1 c)
          · exact h1 z hz
        · cases hz; exact h3

/-- The best lie's gain. -/
theorem top_char {g : Gm} {r : List Ce} {a : Nat} (h : Play g r) (ha : a < g.agents.length) : 0 ≤ (bestN g r a r.length).gain ∧
    (∀ n t, n < r.length → t < kl g a → t ≠ kOf g n a → gainQ g r a n t ≤ (bestN g r a r.length).gain) ∧
    ((bestN g r a r.length).gain = 0 ∨ ∃ n t, n < r.length ∧ t < kl g a ∧ t ≠ kOf g n a ∧ gainQ g r a n t = (bestN g r a r.length).gain) := by
  rw [best_top h ha]
  cases ht : topL g r a with
  | none =>
    have hnil : liesL g r a = [] := Classical.byContradiction fun hc => by
      have := mst_isSome gtL hc
      unfold topL at ht
      rw [ht] at this; cases this
    refine ⟨Rat.le_refl, fun n t hn h1 h2 => ?_, .inl rfl⟩
    have := mem_liesTo (g := g) (r := r) hn h1 h2
    rw [show liesTo g r a r.length = liesL g r a from rfl, hnil] at this
    cases this
  | some y =>
    have hall := (mst_gt _ _ ht).1
    have hy := (mst_mem gtL _ _ ht).resolve_right (by simp)
    have hle : ∀ n t, n < r.length → t < kl g a → t ≠ kOf g n a → gainQ g r a n t ≤ y.gain := fun n t hn h1 h2 => hall _ (mem_liesTo (g := g) (r := r) hn h1 h2)
    by_cases c : 0 < y.gain
    · have e : orNo a (some y) = y := if_pos c
      rw [e]
      refine ⟨Rat.le_of_lt c, hle, .inr ?_⟩
      obtain ⟨n, hn, hy⟩ := List.mem_flatMap.1 hy
      obtain ⟨k, hk, rfl⟩ := List.mem_map.1 hy
      have hk := List.mem_filter.1 hk
      exact ⟨n, k, List.mem_range.1 hn, List.mem_range.1 hk.1, by simpa using hk.2, rfl⟩
    · have e : orNo a (some y) = noLi a 0 := if_neg c
      rw [e]
      exact ⟨Rat.le_refl, fun n t hn h1 h2 => Rat.le_trans (hle n t hn h1 h2) (Rat.not_lt.1 c), .inl rfl⟩

section
variable {g h : Gm} {r : List Ce} {b : Nat} (hp : Play g r) (t : Tn g h b) (hq : Play h (turnR g r b))
include hp t hq
theorem top_le {a : Nat} (ha : a < g.agents.length) : (bestN g r a r.length).gain ≤ (bestN h (turnR g r b) a r.length).gain := by
  have ha' : a < h.agents.length := by rw [t.la]; exact ha
  have h1 := top_char hq ha'
  rw [turnR_len] at h1
  rcases (top_char hp ha).2.2 with e | ⟨n, k, hn, hk, hne, e⟩
  · rw [e]; exact h1.1
  · rw [← e, gain_back hp t hn ha hk]
    refine h1.2.1 _ _ (tn_lt hp t.hb hn).1 (by rw [t.kl_eq]; exact tk_lt hk) ?_
    have hs : Spot g r a n := ⟨hp, ha, hn⟩
    have hko : kOf g n a < kl g a := by rw [kl_eq ha]; exact hs.kof.2
    rw [t.kOf, kOf_tn hp t.hb hn ha]
    intro e2
    have := congrArg (tk g b a) e2
    rw [tk_tk hk, tk_tk hko] at this
    exact hne this
theorem top_ge {a : Nat} (ha : a < g.agents.length) : (bestN h (turnR g r b) a r.length).gain ≤ (bestN g r a r.length).gain := by
  have ha' : a < h.agents.length := by rw [t.la]; exact ha
  have h1 := (top_char hq ha').2.2
  rw [turnR_len] at h1
  have h2 := top_char hp ha
  rcases h1 with e | ⟨n, k, hn, hk, hne, e⟩
  · rw [e]; exact h2.1
  · rw [t.kl_eq] at hk
    rw [← e, gain_turn hp t hn ha hk]
    refine h2.2.1 _ _ (tn_lt hp t.hb hn).1 (tk_lt hk) ?_
    have hs : Spot g r a n := ⟨hp, ha, hn⟩
    have hko : kOf g n a < kl g a := by rw [kl_eq ha]; exact hs.kof.2
    rw [kOf_tn hp t.hb hn ha]
    intro e2
    have := congrArg (tk g b a) e2
    rw [tk_tk hk, tk_tk hko, ← t.kOf] at this
    exact hne this
theorem low_turn : lowQ h (turnR g r b) = lowQ g r := by
  have g1 := uses_some hp
  have h1 := uses_some hq
  have g2 := (mst_mem ltQ _ _ g1).resolve_right (by simp)
  have h2 := (mst_mem ltQ _ _ h1).resolve_right (by simp)
  have g3 := (mst_lt _ _ g1).1
  have h3 := (mst_lt _ _ h1).1
  apply Rat.le_antisymm
  · obtain ⟨n, hn, hm⟩ := List.mem_flatMap.1 g2
    obtain ⟨a, ha, e⟩ := List.mem_map.1 hm
    have hn := List.mem_range.1 hn
    have ha := List.mem_range.1 ha
    refine h3 _ (List.mem_flatMap.2 ⟨tn g b n, List.mem_range.2 (by rw [turnR_len]; exact (tn_lt hp t.hb hn).1), List.mem_map.2 ⟨a, List.mem_range.2 (by rw [t.la]; exact ha), ?_⟩⟩)
    rw [use_turn hp t (tn_lt hp t.hb hn).1 ha, tn_tn hp t.hb hn, e]
  · obtain ⟨n, hn, hm⟩ := List.mem_flatMap.1 h2
    obtain ⟨a, ha, e⟩ := List.mem_map.1 hm
    have hn := List.mem_range.1 hn
    have ha := List.mem_range.1 ha
    rw [turnR_len] at hn
    rw [t.la] at ha
    refine g3 _ (List.mem_flatMap.2 ⟨tn g b n, List.mem_range.2 (tn_lt hp t.hb hn).1, List.mem_map.2 ⟨a, List.mem_range.2 ha, ?_⟩⟩)
    rw [← e, use_turn hp t hn ha]
end

section
variable {g h : Gm} {r : List Ce} {b : Nat} (hp : Play g r) (t : Tn g h b)
include hp t
theorem wgt_turn {n : Nat} (hn : n < r.length) : ∀ i, i ≤ g.agents.length → wgtTo h n i = wgtTo g (tn g b n) i
  | 0, _ => rfl
  | i + 1, hi => by
    have hs : Spot g r i n := ⟨hp, hi, hn⟩
    have hk : kOf g n i < kl g i := by rw [kl_eq hs.ha]; exact hs.kof.2
    rw [wgtTo, wgtTo, wgt_turn hn i (by omega), t.kOf, (t.kdAt hs.ha hk).w, kOf_tn hp t.hb hn hs.ha]
theorem tot_turn {n : Nat} (hn : n < r.length) : ∀ i, i ≤ g.agents.length → totTo h (turnR g r b) n i = totTo g r (tn g b n) i
  | 0, _ => rfl
  | i + 1, hi => by
    have hs : Spot g r i n := ⟨hp, hi, hn⟩
    have hk : kOf g n i < kl g i := by rw [kl_eq hs.ha]; exact hs.kof.2
    rw [totTo, totTo, tot_turn hn i (by omega), turnR_at hn, t.kOf, (t.kdAt hs.ha hk).wo, kOf_tn hp t.hb hn hs.ha]
theorem add_turn {n : Nat} (hn : n < r.length) : addX h (turnR g r b) n = addX g r (tn g b n) := by
  unfold addX partQ wgt
  rw [t.aim, t.la, wgt_turn hp t hn _ (Nat.le_refl _), tot_turn hp t hn _ (Nat.le_refl _), turnR_at hn]
theorem tn_perm : ((List.range r.length).map (tn g b)).Perm (List.range r.length) := by
  refine (List.perm_ext_iff_of_nodup ?_ List.nodup_range).2 fun x => ?_
  · refine List.pairwise_map.2 (List.Pairwise.imp_of_mem (fun {x y} hx hy hne e => hne ?_) (List.nodup_range (n := r.length)))
    have := congrArg (tn g b) e
    rwa [tn_tn hp t.hb (List.mem_range.1 hx), tn_tn hp t.hb (List.mem_range.1 hy)] at this
  · constructor
    · intro hx
      obtain ⟨n, hn, rfl⟩ := List.mem_map.1 hx
      exact List.mem_range.2 (tn_lt hp t.hb (List.mem_range.1 hn)).1
    · intro hx
      have hx := List.mem_range.1 hx
      exact List.mem_map.2 ⟨tn g b x, List.mem_range.2 (tn_lt hp t.hb hx).1, tn_tn hp t.hb hx⟩
theorem aim_turn (hq : Play h (turnR g r b)) (six : ∀ c ∈ r, CeSix c) (six2 : ∀ c ∈ turnR g r b, CeSix c) : aimQ h (turnR g r b) = aimQ g r := by
  unfold aimQ
  rw [t.aim, low_turn hp t hq, turnR_len]
  split
  · rfl
  · rw [aimTo_sum hq six2 _ (by rw [turnR_len]; exact Nat.le_refl _), aimTo_sum hp six _ (Nat.le_refl _)]
    rw [show (List.range r.length).map (addX h (turnR g r b)) = ((List.range r.length).map (tn g b)).map (addX g r) by
      rw [List.map_map]
      exact List.map_congr_left fun n hn => add_turn hp t (List.mem_range.1 hn)]
    exact sumQ_perm ((tn_perm hp t).map _)
end
end Go.Proofs.YtmgaoecfipkjbaaGreat.Sh

/- What needs ask: payments, chances of outcomes, envy. -/
namespace Go.Proofs.YtmgaoecfipkjbaaGreat.Sh
open Go Go.RowKit

def pick1 (l : List FR) (x : Int) : FR := (l[x.toNat]?).getD fr0
def picks (l : List FR) (xs : List Int) : List FR := xs.map (pick1 l)
def InR (xs : List Int) (n : Nat) : Prop := ∀ x ∈ xs, 0 ≤ x ∧ x < (n : Int)
def amongQ (l : List FR) (xs : List Int) : Rat := sumQ ((picks l xs).map FR.fix)

theorem pick1_eq {l : List FR} {x : Int} (h : x.toNat < l.length) : pick1 l x = l[x.toNat] := by unfold pick1; rw [List.getElem?_eq_getElem h]; rfl
theorem picks_ok {l : List FR} {xs : List Int} (hl : ∀ f ∈ l, f.ok) (hr : InR xs l.length) : ∀ f ∈ picks l xs, f.ok := by
  intro f hf
  obtain ⟨x, hx, rfl⟩ := List.mem_map.1 hf
  have := hr x hx
  rw [pick1_eq (show x.toNat < l.length by omega)]
  exact hl _ (List.getElem_mem _)
theorem picks_mz {l : List FR} {xs : List Int} {B : Nat} (hl : ∀ f ∈ l, mz f.fix ≤ B) (hr : InR xs l.length) : ∀ f ∈ picks l xs, mz f.fix ≤ B := by
  intro f hf
  obtain ⟨x, hx, rfl⟩ := List.mem_map.1 hf
  have := hr x hx
  rw [pick1_eq (show x.toNat < l.length by omega)]
  exact hl _ (List.getElem_mem _)
theorem picks_small {l : List FR} {xs : List Int} {B : Nat} (hs : Small l B) (hr : InR xs l.length) (hx : xs.length * (B + 1) + 1 ≤ 2048) : Small (picks l xs) B :=
  ⟨picks_ok hs.ok hr, fun q hq => by obtain ⟨f, hf, rfl⟩ := List.mem_map.1 hq; exact picks_mz (fun f hf => hs.mz _ (List.mem_map.2 ⟨f, hf, rfl⟩)) hr f hf, by simpa [picks] using hx⟩

set_option maxRecDepth 20000 in
theorem paidR_s (c : Ce) (hs : Small c.pay 28) : CallsS Tryz.prog 128 [ceS c] (.v (fS (paidQ c))) := by
  have h := sumF_s c.pay 28 hs
  rw [← cap_sum hs] at h
  refine calls Tryz.func128 rfl (by rfl) (by rfl) (by kernel_rfl) ?_
  simp -dsimp -implicitDefEqProofs [Tryz.f128]
  refine eCall.of h (by simp) ?_
  simp -dsimp -implicitDefEqProofs [paidQ, frQ, ng]
  try rfl

set_option maxRecDepth 20000 in
theorem among_s (l : List FR) (xs : List Int) (hs : Small (picks l xs) 28) (hr : InR xs l.length) (h1 : xs.length ≤ 1048576) : CallsS Tryz.prog 172 [.one (frsS l), .one (intsS xs)] (.v (fS (amongQ l xs))) := by
  have hsum := fsum_s (picks l xs) hs.ok (by simpa [picks] using h1)
  rw [cap_sum hs] at hsum
  have hpl : (picks l xs).length = xs.length := by simp [picks]
  refine calls Tryz.func172 rfl (by rfl) (by rfl) (by kernel_rfl) ?_
  simp -dsimp -implicitDefEqProofs [Tryz.f172]
  refine sw_loop_e (fun p : {p : Nat × Nat // p.1 ≤ xs.length ∧ (p.1 ≠ 0 → p.2 ≠ 0)} => SS.of [(0, .v (.one (frsS l))), (4, .v (.one (.mp 0 0))), (5, if p.1.1 = 0 then .v (.one .nils) else .v (.one (.ms p.1.2 0 p.1.1 3 true))), (8, .v (.one (intsS xs))), (9, I .i64 xs.length), (10, I .i64 p.1.1)]
      ((0, ⟨37, [.bool false, .nils, .nils]⟩) :: if p.1.1 = 0 then [] else [(p.1.2, ⟨37, flat rowFr ((picks l xs).take p.1.1)⟩)]) (p.1.2 + 1))
    (fun p => xs.length - p.1.1) ⟨(0, 0), Nat.zero_le _, fun h => absurd rfl h⟩ (by kernel_rfl) (Le.to (by simp) (by simp) (by simp)) ?_
  rintro ⟨⟨i, c⟩, hi, hc⟩
  simp only at hi hc
  by_cases a1 : i < xs.length
  · have wi : IntKind.i64.wrap ((i : Int) + 1) = ((i + 1 : Nat) : Int) := by rw [wrap_i64 _ (by omega) (by omega)]; rfl
    have hx := hr _ (List.getElem_mem a1)
    have hxl : xs[i].toNat < l.length := by omega
    have hx1 : ¬ xs[i] < 0 := by omega
    have hfl := flat_snoc (f := rowFr) l[xs[i].toNat] ((picks l xs).take i)
    have hsn := takeSnoc (picks l xs) i (by omega)
    rw [show (picks l xs)[i]'(by omega) = l[xs[i].toNat] by simp [picks, pick1_eq hxl]] at hsn
    rw [← hsn] at hfl
    have hll : ((picks l xs).take i).length = i := by simp; omega
    by_cases a0 : i = 0
    · subst a0
      rw [List.take_zero, flat_nil, List.nil_append] at hfl
      simp -dsimp -implicitDefEqProofs [a1, hx, hxl, slots]
      exact Again.by ⟨(1, c + 2), by omega, by simp⟩ (Le.to (by simp [i64_1]) (by simp [hfl]) (by simp)) (by simp; omega)
    · have hc0 := hc a0
      have hc0' : ¬ 0 = c := fun e => hc0 e.symm
      simp -dsimp -implicitDefEqProofs [a1, a0, hc0, hc0', hx, hxl, slots, hll]
      refine ⟨by omega, ?_⟩
      exact Again.by ⟨(i + 1, c + 2), by omega, by simp⟩ (Le.to (by simp [wi]) (by simp [hfl, hc0, hc0']) (by simp)) (by simp; omega)
  have hi2 : i = xs.length := by omega
  subst hi2
  have htk : (picks l xs).take xs.length = picks l xs := List.take_of_length_le (by omega)
  rw [htk]
  by_cases a0 : xs.length = 0
  · have hp0 : picks l xs = [] := List.length_eq_zero_iff.1 (by omega)
    rw [hp0] at hsum
    simp -dsimp -implicitDefEqProofs [a0]
    refine eCall.of hsum (by simp) ?_
    simp -dsimp -implicitDefEqProofs [amongQ, hp0, frQ, ng]
  · have hc0 := hc a0
    have hc0' : ¬ 0 = c := fun e => hc0 e.symm
    simp -dsimp -implicitDefEqProofs [a0, hc0, hc0', hpl]
    refine eCall.of hsum (by simp [hpl]) ?_
    simp -dsimp -implicitDefEqProofs [amongQ, frQ, ng, hc0, hc0']
    try rfl

set_option maxRecDepth 20000 in
theorem chance4_s (c : Ce) (xs : List Int) (hs : Small (picks c.lot xs) 28) (hr : InR xs c.lot.length) (h1 : xs.length ≤ 1048576) : CallsS Tryz.prog 165 [ceS c, .one (intsS xs)] (.v (fS (amongQ c.lot xs))) := by
  have i0 := intR_s 0 (by decide) (by decide)
  have hpl : (picks c.lot xs).length = xs.length := by simp [picks]
  have hsz := mz_take hs.mz (by have := hs.all; simpa using this)
  refine calls Tryz.func165 rfl (by rfl) (by rfl) (by kernel_rfl) ?_
  simp -dsimp -implicitDefEqProofs [Tryz.f165]
  refine eCall.of i0 (by simp) ?_
  simp -dsimp -implicitDefEqProofs
  refine sw_loop_e (fun p : {p : Nat // p ≤ xs.length} => SS.of [(1, .v (.one (intsS xs))), (2, .v (.one (.mp 0 0))), (4, .v (.one (.mp 1 0))), (5, .v (.one (.mp 2 0))), (6, I .i64 p.1)]
      [(0, ⟨60, rowCe c⟩), (1, ⟨37, [.bool false, .nils, .nils]⟩), (2, ⟨37, rowFr (frQ (sumQ (((picks c.lot xs).map FR.fix).take p.1)))⟩)] 3)
    (fun p => xs.length - p.1) ⟨0, Nat.zero_le _⟩ (by kernel_rfl) (Le.to (by simp) (by simp [sumQ, frQ, ng]) (by simp)) ?_
  rintro ⟨i, hi⟩
  by_cases a1 : i < xs.length
  · have wi : IntKind.i64.wrap ((i : Int) + 1) = ((i + 1 : Nat) : Int) := by rw [wrap_i64 _ (by omega) (by omega)]; rfl
    have hx := hr _ (List.getElem_mem a1)
    have hxl : xs[i].toNat < c.lot.length := by omega
    have ht := sumQ_take ((picks c.lot xs).map FR.fix) i (by simp [picks]; omega)
    rw [show ((picks c.lot xs).map FR.fix)[i]'(by simp [picks]; omega) = (c.lot[xs[i].toNat]).fix by simp [picks, pick1_eq hxl]] at ht
    have z0 := hsz i
    have z1 := hsz (i + 1)
    have hok := hs.ok _ (List.mem_map.2 ⟨xs[i], List.getElem_mem a1, rfl⟩)
    rw [pick1_eq hxl] at hok
    have ha := addR_s (frQ (sumQ (((picks c.lot xs).map FR.fix).take i))) (c.lot[xs[i].toNat]) (frQ_ok (by omega)) hok
    rw [fix_frQ z0, ← ht, cap_of z1] at ha
    simp -dsimp -implicitDefEqProofs [a1, hx, hxl]
    refine eCall.of ha (by simp [frQ, ng]) ?_
    simp -dsimp -implicitDefEqProofs
    exact Again.by ⟨i + 1, a1⟩ (Le.to (by simp [wi]) (by simp [frQ, ng]) (by simp)) (by simp; omega)
  have hi2 : i = xs.length := by omega
  subst hi2
  have htk : ((picks c.lot xs).map FR.fix).take xs.length = (picks c.lot xs).map FR.fix := List.take_of_length_le (by simp [picks])
  simp -dsimp -implicitDefEqProofs [htk, amongQ, frQ, ng]
  try rfl
end Go.Proofs.YtmgaoecfipkjbaaGreat.Sh

/- Envy, of the program and of the reference. -/
namespace Go.Proofs.YtmgaoecfipkjbaaGreat.Sh
open Go Go.RowKit

/-- A kind, its outcomes changed. -/
def Kd.sw (K : Kd) (s : List Int) : Kd := { K with worth := picks K.worth s }
theorem swap_inR {l : List Int} {n : Nat} (h : SwapOk l n) : InR l n := by
  intro x hx
  obtain ⟨i, hi, rfl⟩ := List.getElem_of_mem hx
  exact (h.2 i hi).1

theorem Spot.sw {g : Gm} {r : List Ce} {a m b : Nat} (h : Spot g r a m) (hb : b < g.agents.length) {s : List Int} (hs : SwapOk s g.outs.length) : Pair (r[m]'h.hn) (((g.agents[a]'h.ha).kinds[kOf g m a]'h.kof.2).sw s) b := by
  obtain ⟨k1, k2⟩ := h.kof
  have hP := h.pair h.hn k2
  have hkd := h.play.kd (List.getElem_mem h.ha) (List.getElem_mem k2)
  have hce := h.play.ce (List.getElem_mem h.hn)
  have hir : InR s ((g.agents[a]'h.ha).kinds[kOf g m a]).worth.length := by rw [hkd.2]; exact swap_inR hs
  have h6 := (sizeOk_all h.play.fine.sz).2.1
  refine ⟨hP.cf, ⟨⟨hkd.1.ok.1, hkd.1.ok.2.1, hkd.1.ok.2.2.1, ?_, picks_ok hkd.1.ok.2.2.2.2 hir⟩, hkd.1.w, hkd.1.al, picks_mz hkd.1.wo hir⟩, ?_, hP.six, ?_⟩
  · show lenOk (picks _ s); unfold lenOk picks; rw [List.length_map, hs.1]; omega
  · show _ = (picks _ s).length; unfold picks; rw [List.length_map, hs.1, hce.2.1]
  · rw [hce.2.2]; exact hb

set_option maxRecDepth 20000 in
set_option maxHeartbeats 1000000 in
theorem renvies_s (g : Gm) (r : List Ce) (n : Nd) (m own other : Nat) (h : Spot g r own m) (ho : other < g.agents.length) (hs : SwapOk n.swap g.outs.length) :
    CallsS Tryz.prog 171 [tbS g r, ndS n, ceS (r[m]'h.hn), .one (intsS (atG g m)), .one (.int .i64 (own : Int)), .one (.int .i64 (other : Int))] (B (decide (useQ g r m own < hasQ (r[m]'h.hn) ((kdAt g own (kOf g m own)).sw n.swap) other))) := by
  obtain ⟨k1, k2⟩ := h.kof
  have hown := h.ha
  have al : own < (atG g m).length := by rw [atG_length]; exact h.ha
  have k1' : (atG g m)[own] = (kOf g m own : Int) := by rw [List.getElem?_eq_getElem al] at k1; exact Option.some.inj k1
  have hkd := h.play.kd (List.getElem_mem h.ha) (List.getElem_mem k2)
  have hce := h.play.ce (List.getElem_mem h.hn)
  have h6 := (sizeOk_all h.play.fine.sz).2.1
  have hP := h.sw ho hs
  rw [kdAt_eq h.ha k2]
  have hsl : n.swap.length = ((g.agents[own]'h.ha).kinds[kOf g m own]).worth.length := by rw [hkd.2]; exact hs.1
  have hir : InR n.swap ((g.agents[own]'h.ha).kinds[kOf g m own]).worth.length := by rw [hkd.2]; exact swap_inR hs
  generalize hK : (g.agents[own]'h.ha).kinds[kOf g m own] = K at *
  have huse := h.use
  obtain ⟨d1, d2, d3⟩ := hP.dot
  obtain ⟨p1, p2⟩ := hP.payQ
  have h3 := hP.has
  obtain ⟨c1, z1⟩ := cap_mz (show mz (sumQ (dotL (r[m]'h.hn).lot (K.sw n.swap).worth)) ≤ 2048 by omega)
  obtain ⟨c2, z2⟩ := cap_mz (show mz (hasQ (r[m]'h.hn) (K.sw n.swap) other) ≤ 2048 by omega)
  obtain ⟨-, z3⟩ := cap_mz (show mz (useQ g r m own) ≤ 2048 by omega)
  have hpl := hP.pay
  have hdo := fdot_s (r[m]'h.hn).lot (K.sw n.swap).worth hP.cf.ok.2.2.1 hP.kf.ok.2.2.2.2 (by have := hP.six; omega) hP.len
  rw [c1] at hdo
  have hsu := fsub_s (frQ (sumQ (dotL (r[m]'h.hn).lot (K.sw n.swap).worth))) ((r[m]'h.hn).pay[other]'hpl) (frQ_ok (by omega)) (hP.cf.ok.2.2.2 _ (List.getElem_mem hpl))
  rw [fix_frQ z1, show sumQ (dotL (r[m]'h.hn).lot (K.sw n.swap).worth) - ((r[m]'h.hn).pay[other]'hpl).fix = hasQ (r[m]'h.hn) (K.sw n.swap) other by rw [hasQ, p1], c2] at hsu
  have hcm := fcmp_s (frQ (useQ g r m own)) (frQ (hasQ (r[m]'h.hn) (K.sw n.swap) other)) (frQ_ok (by omega)) (frQ_ok (by omega))
  rw [fix_frQ z3, fix_frQ z2] at hcm
  have hwl : (K.sw n.swap).worth = n.swap.map (pick1 K.worth) := rfl
  refine calls_cut 3 (fun _ : Unit => SS.of [(3, .v (.one (intsS (atG g m)))), (4, I .i64 own), (5, I .i64 other), (6, .v (.one (.mp 0 0))), (8, .v (.one (.mp 2 0))), (14, .v (.one (frsS (K.sw n.swap).worth)))] [(0, ⟨106, rowTb g r⟩), (2, ⟨60, rowCe (r[m]'h.hn)⟩)] 4) Tryz.func171 rfl (by rfl) (by rfl) (by rfl) (by kernel_rfl) (by kernel_rfl) ?_ ?_
  rotate_left
  · intro _
    simp -dsimp -implicitDefEqProofs [al, k1']
    refine eCall.of huse.2 (by simp) ?_
    simp -dsimp -implicitDefEqProofs
    refine eCall.of hdo (by simp) ?_
    simp -dsimp -implicitDefEqProofs [hpl]
    refine eCall.of hsu (by simp [frQ, ng]) ?_
    simp -dsimp -implicitDefEqProofs
    refine eCall.of hcm (by simp [frQ, ng]) ?_
    by_cases c : useQ g r m own < hasQ (r[m]'h.hn) (K.sw n.swap) other
    · simp -dsimp -implicitDefEqProofs [cmpQ_neg.2 c, c]
    · simp -dsimp -implicitDefEqProofs [mt cmpQ_neg.1 c, c]
  simp -dsimp -implicitDefEqProofs [hown, al, k1', k2, hK]
  refine ⟨by omega, ?_⟩
  refine sw_loop_e (fun p : {p : Nat // p ≤ n.swap.length} => SS.of [(3, .v (.one (intsS (atG g m)))), (4, I .i64 own), (5, I .i64 other), (6, .v (.one (.mp 0 0))), (8, .v (.one (.mp 2 0))), (13, .v (.one (frsS K.worth))), (14, .v (.one (.ms 3 0 n.swap.length 3 true))), (35, .v (.one (intsS n.swap))), (36, I .i64 n.swap.length), (37, I .i64 p.1)]
      [(0, ⟨106, rowTb g r⟩), (2, ⟨60, rowCe (r[m]'h.hn)⟩), (3, ⟨37, flat (optRow [.bool false, .nils, .nils] rowFr) (filled (pick1 K.worth) n.swap p.1)⟩)] 4)
    (fun p => n.swap.length - p.1) ⟨0, Nat.zero_le _⟩ (by kernel_rfl) (Le.to (by simp [hsl]) (by simp [filled_zero, flat_rep _ rowFr, hsl]) (by simp)) ?_
  rintro ⟨i, hi⟩
  by_cases a1 : i < n.swap.length
  · have wi : IntKind.i64.wrap ((i : Int) + 1) = ((i + 1 : Nat) : Int) := by rw [wrap_i64 _ (by omega) (by omega)]; rfl
    have hx := hir _ (List.getElem_mem a1)
    have hxl : n.swap[i].toNat < K.worth.length := by omega
    have ml := filled_len (pick1 K.worth) n.swap hi
    have mset := filled_set (pick1 K.worth) n.swap i a1
    rw [pick1_eq hxl] at mset
    simp -dsimp -implicitDefEqProofs [a1, hx, hxl, ml]
    refine ⟨by omega, ?_⟩
    have hset := set3_flat (f := optRow [.bool false, .nils, .nils] rowFr) (filled (pick1 K.worth) n.swap i) i (some K.worth[n.swap[i].toNat]) rfl (by omega)
    rw [mset] at hset
    exact Again.by ⟨i + 1, a1⟩ (Le.to (by simp [wi]) (by simp [← hset]) (by simp)) (by simp; omega)
  have hi2 : i = n.swap.length := by omega
  subst hi2
  have hff : rowsOf (flat (optRow [.bool false, .nils, .nils] rowFr) (filled (pick1 K.worth) n.swap n.swap.length)) 0 3 n.swap.length = (K.sw n.swap).worth.map rowFr := by
    rw [rowsOf_flat _ _ (by rw [filled_len _ _ (Nat.le_refl _)]), filled_full, hwl]
    simp [optRow]
  simp -dsimp -implicitDefEqProofs
  exact Cut.by () (Le.fzF [3] (Le.to (by simp [hff, filled_len]) (by simp) (by simp)))
end Go.Proofs.YtmgaoecfipkjbaaGreat.Sh

/- The reference's needs. -/
namespace Go.Proofs.YtmgaoecfipkjbaaGreat.Sh
open Go Go.RowKit

def MPart (g : Gm) (r : List Ce) (m : Nat) : Prop := ∀ a, a < g.agents.length → ¬ useQ g r m a < (kdAt g a (kOf g m a)).alone.fix
def MBound (n : Nd) (c : Ce) : Prop := ∀ f ∈ c.pay, ¬ n.bound.fix < f.fix ∧ ¬ f.fix < -n.bound.fix
def envQ (g : Gm) (r : List Ce) (m : Nat) (s : List Int) (own other : Nat) : Rat := hasQ (ceAt r m) ((kdAt g own (kOf g m own)).sw s) other
def MEnvy (g : Gm) (r : List Ce) (m : Nat) (n : Nd) : Prop := ¬ useQ g r m n.agent.toNat < envQ g r m n.swap n.agent.toNat n.other.toNat ∧ ¬ useQ g r m n.other.toNat < envQ g r m n.swap n.other.toNat n.agent.toNat
def MOrder (g : Gm) (r : List Ce) (m : Nat) (n : Nd) : Prop := kOf g m n.agent.toNat + 1 < kl g n.agent.toNat → ¬ amongQ (ceAt r (toAt g m n.agent.toNat (kOf g m n.agent.toNat + 1))).lot n.outs < amongQ (ceAt r m).lot n.outs
/-- A rule meets a need at the place of a profile. -/
def MeetAt (g : Gm) (r : List Ce) (n : Nd) (m : Nat) : Prop :=
  if n.kind = 1 then MPart g r m else if n.kind = 2 then ¬ paidQ (ceAt r m) < 0 else if n.kind = 3 then paidQ (ceAt r m) = 0 else if n.kind = 4 then MBound n (ceAt r m) else if n.kind = 5 then MEnvy g r m n else MOrder g r m n

theorem rise_inR {l : List Int} {n : Nat} (h : RiseOk l n) : InR l n := by
  intro x hx
  obtain ⟨i, hi, rfl⟩ := List.getElem_of_mem hx
  exact (h.2 i hi).1
theorem rise_len {l : List Int} {n : Nat} (h : RiseOk l n) : l.length ≤ n := by
  have key : ∀ i (hi : i < l.length), (i : Int) ≤ l[i] := by
    intro i
    induction i with
    | zero => intro hi; exact (h.2 0 hi).1.1
    | succ i ih =>
      intro hi
      obtain ⟨x, h1, h2⟩ := (h.2 (i + 1) hi).2 (by omega)
      rw [Nat.add_sub_cancel, List.getElem?_eq_getElem (show i < l.length by omega)] at h1
      have := Option.some.inj h1
      have := ih (by omega)
      omega
  rcases Nat.eq_zero_or_pos l.length with h0 | h0
  · omega
  · have h1 := key (l.length - 1) (by omega)
    have h2 := (h.2 (l.length - 1) (by omega)).1.2
    omega

theorem shaped_kind {na no : Nat} {n : Nd} (h : ShapedOk na no n) : n.kind = 1 ∨ n.kind = 2 ∨ n.kind = 3 ∨ n.kind = 4 ∨ n.kind = 5 ∨ n.kind = 6 := by
  unfold ShapedOk at h
  split at h
  · rename_i h; omega
  split at h
  · omega
  split at h
  · omega
  split at h
  · omega
  · exact h.elim
theorem shaped_envy {na no : Nat} {n : Nd} (h : ShapedOk na no n) (hk : n.kind = 5) : ∃ a b : Nat, n.agent = a ∧ n.other = b ∧ a < na ∧ b < na ∧ SwapOk n.swap no := by
  unfold ShapedOk at h
  rw [if_neg (by omega), if_neg (by omega), if_pos hk] at h
  obtain ⟨h1, h2, h3, -, -, h4⟩ := h
  exact ⟨n.agent.toNat, n.other.toNat, by omega, by omega, by omega, by omega, h4⟩
theorem shaped_order {na no : Nat} {n : Nd} (h : ShapedOk na no n) (hk : n.kind = 6) : ∃ a : Nat, n.agent = a ∧ a < na ∧ RiseOk n.outs no := by
  unfold ShapedOk at h
  rw [if_neg (by omega), if_neg (by omega), if_neg (by omega), if_pos hk] at h
  obtain ⟨h1, h2, -, -, h4, -⟩ := h
  exact ⟨n.agent.toNat, by omega, by omega, h4⟩

theorem CeFine.pays {c : Ce} (h : CeFine c) (hl : c.pay.length ≤ 4) : Small c.pay 28 :=
  ⟨h.ok.2.2.2, fun q hq => by obtain ⟨f, hf, rfl⟩ := List.mem_map.1 hq; exact h.pay f hf, by omega⟩

set_option maxRecDepth 20000 in
set_option maxHeartbeats 1000000 in
theorem envies4_s (g : Gm) (r : List Ce) (n : Nd) (m own other : Nat) (h : Spot g r own m) (ho : other < g.agents.length) (hs : SwapOk n.swap g.outs.length) :
    CallsS Tryz.prog 164 [gmS g, ruS r, ndS n, .one (.int .i64 (m : Int)), .one (.int .i64 (own : Int)), .one (.int .i64 (other : Int))] (B (decide (useQ g r m own < hasQ (r[m]'h.hn) ((kdAt g own (kOf g m own)).sw n.swap) other))) := by
  obtain ⟨k1, k2⟩ := h.kof
  have hown := h.ha
  have hm := h.hn
  have hf := h.play.fine
  obtain ⟨-, h6, -, -, h5⟩ := sizeOk_all hf.sz
  have hrl := h.play.good.2.2.1
  have al : own < (atG g m).length := by rw [atG_length]; exact h.ha
  have k1' : (atG g m)[own] = (kOf g m own : Int) := by rw [List.getElem?_eq_getElem al] at k1; exact Option.some.inj k1
  have hkd := h.play.kd (List.getElem_mem h.ha) (List.getElem_mem k2)
  have hce := h.play.ce (List.getElem_mem h.hn)
  have hP := h.sw ho hs
  have hP0 := h.pair h.hn k2
  have hu : useQ g r m own = hasQ (r[m]'h.hn) ((g.agents[own]'h.ha).kinds[kOf g m own]) own := by unfold useQ; rw [ceAt_eq h.hn, kdAt_eq h.ha k2]
  have hhas := hasP_s g r own (kOf g m own) m h.ha k2 h.hn hP0
  rw [← hu] at hhas
  have huz := h.use.1
  rw [kdAt_eq h.ha k2]
  have hsl : n.swap.length = ((g.agents[own]'h.ha).kinds[kOf g m own]).worth.length := by rw [hkd.2]; exact hs.1
  have hir : InR n.swap ((g.agents[own]'h.ha).kinds[kOf g m own]).worth.length := by rw [hkd.2]; exact swap_inR hs
  generalize hK : (g.agents[own]'h.ha).kinds[kOf g m own] = K at *
  obtain ⟨d1, d2, d3⟩ := hP.dot
  obtain ⟨p1, p2⟩ := hP.payQ
  have h3 := hP.has
  obtain ⟨c1, z1⟩ := cap_mz (show mz (sumQ (dotL (r[m]'h.hn).lot (K.sw n.swap).worth)) ≤ 2048 by omega)
  obtain ⟨c2, z2⟩ := cap_mz (show mz (hasQ (r[m]'h.hn) (K.sw n.swap) other) ≤ 2048 by omega)
  obtain ⟨-, z3⟩ := cap_mz (show mz (useQ g r m own) ≤ 2048 by omega)
  have hpl := hP.pay
  have hdo := dotF_s (r[m]'h.hn).lot (K.sw n.swap).worth 31 hP.cf.ok.2.2.1 hP.kf.ok.2.2.2.2 hP.len d1 (by omega)
  have hsu := subR_s (frQ (sumQ (dotL (r[m]'h.hn).lot (K.sw n.swap).worth))) ((r[m]'h.hn).pay[other]'hpl) (frQ_ok (by omega)) (hP.cf.ok.2.2.2 _ (List.getElem_mem hpl))
  rw [fix_frQ z1, show sumQ (dotL (r[m]'h.hn).lot (K.sw n.swap).worth) - ((r[m]'h.hn).pay[other]'hpl).fix = hasQ (r[m]'h.hn) (K.sw n.swap) other by rw [hasQ, p1], c2] at hsu
  have hcm := cmpR_s (frQ (hasQ (r[m]'h.hn) (K.sw n.swap) other)) (frQ (useQ g r m own)) (frQ_ok (by omega)) (frQ_ok (by omega))
  rw [fix_frQ z3, fix_frQ z2] at hcm
  have hwl : (K.sw n.swap).worth = picks K.worth n.swap := rfl
  have hpk : (picks K.worth n.swap).length = n.swap.length := by simp [picks]
  refine calls_cut 5 (fun c : Nat => SS.of [(3, I .i64 m), (4, I .i64 own), (5, I .i64 other), (6, .v (.one (.mp 0 0))), (7, .v (.one (.mp 1 0))), (13, .v (.one (intsS (atG g m)))), (14, .v (.one (.mp 3 0))), (16, .v (.one (frsS (K.sw n.swap).worth)))] [(0, ⟨26, rowGm g⟩), (1, ⟨29, [cesS r]⟩), (3, ⟨60, rowCe (r[m]'h.hn)⟩)] (c + 4)) Tryz.func164 rfl (by rfl) (by rfl) (by rfl) (by kernel_rfl) (by kernel_rfl) ?_ ?_
  rotate_left
  · intro c
    simp -dsimp -implicitDefEqProofs
    refine eCall.of hdo (by simp) ?_
    simp -dsimp -implicitDefEqProofs [hpl]
    refine eCall.of hsu (by simp [frQ, ng]) ?_
    simp -dsimp -implicitDefEqProofs [al, k1']
    refine eCall.of hhas (by simp) ?_
    simp -dsimp -implicitDefEqProofs
    refine eCall.of hcm (by simp [frQ, ng]) ?_
    by_cases c : useQ g r m own < hasQ (r[m]'h.hn) (K.sw n.swap) other
    · simp -dsimp -implicitDefEqProofs [cmpQ_pos.2 c, c]
    · simp -dsimp -implicitDefEqProofs [mt cmpQ_pos.1 c, c]
  simp -dsimp -implicitDefEqProofs
  refine eCall.of (at_s g hf m (by omega)) (by simp) ?_
  simp -dsimp -implicitDefEqProofs [hm, hown, al, k1', k2, hK]
  refine sw_loop_e (fun p : {p : Nat × Nat // p.1 ≤ n.swap.length ∧ (p.1 ≠ 0 → p.2 ≠ 0)} => SS.of [(3, I .i64 m), (4, I .i64 own), (5, I .i64 other), (6, .v (.one (.mp 0 0))), (7, .v (.one (.mp 1 0))), (8, .v (.one (.mp 2 0))), (13, .v (.one (intsS (atG g m)))), (14, .v (.one (.mp 3 0))), (15, .v (.one (frsS K.worth))), (16, if p.1.1 = 0 then .v (.one .nils) else .v (.one (.ms (p.1.2 + 3) 0 p.1.1 3 true))), (17, I .i64 p.1.1)]
      ((0, ⟨26, rowGm g⟩) :: (1, ⟨29, [cesS r]⟩) :: (2, ⟨81, rowNd n⟩) :: (3, ⟨60, rowCe (r[m]'h.hn)⟩) :: if p.1.1 = 0 then [] else [(p.1.2 + 3, ⟨37, flat rowFr ((picks K.worth n.swap).take p.1.1)⟩)]) (p.1.2 + 4))
    (fun p => n.swap.length - p.1.1) ⟨(0, 0), Nat.zero_le _, fun h => absurd rfl h⟩ (by kernel_rfl) (Le.to (by simp) (by simp) (by simp)) ?_
  rintro ⟨⟨i, c⟩, hi, hc⟩
  simp only at hi hc
  by_cases a1 : i < n.swap.length
  · have wi : IntKind.i64.wrap ((i : Int) + 1) = ((i + 1 : Nat) : Int) := by rw [wrap_i64 _ (by omega) (by omega)]; rfl
    have hx := hir _ (List.getElem_mem a1)
    have hxl : n.swap[i].toNat < K.worth.length := by omega
    have hfl := flat_snoc (f := rowFr) K.worth[n.swap[i].toNat] ((picks K.worth n.swap).take i)
    have hsn := takeSnoc (picks K.worth n.swap) i (by omega)
    rw [show (picks K.worth n.swap)[i]'(by omega) = K.worth[n.swap[i].toNat] by simp [picks, pick1_eq hxl]] at hsn
    rw [← hsn] at hfl
    have hll : ((picks K.worth n.swap).take i).length = i := by simp; omega
    by_cases a0 : i = 0
    · subst a0
      rw [List.take_zero, flat_nil, List.nil_append] at hfl
      simp -dsimp -implicitDefEqProofs [a1, hx, hxl, slots]
      exact Again.by ⟨(1, c + 2), by omega, by simp⟩ (Le.to (by simp [i64_1]) (by simp [hfl]) (by simp)) (by simp; omega)
    · have hc0 := hc a0
      simp -dsimp -implicitDefEqProofs [a1, a0, hc0, hx, hxl, slots, hll]
      refine ⟨by omega, ?_⟩
      exact Again.by ⟨(i + 1, c + 2), by omega, by simp⟩ (Le.to (by simp [wi]) (by simp [hfl, hc0]) (by simp)) (by simp; omega)
  have hi2 : i = n.swap.length := by omega
  subst hi2
  have htk : (picks K.worth n.swap).take n.swap.length = picks K.worth n.swap := List.take_of_length_le (by omega)
  have a0 : ¬ n.swap.length = 0 := by
    rw [hs.1]
    exact fun e => h.play.good.2.1.ou (List.length_eq_zero_iff.1 e)
  have hc0 := hc a0
  simp -dsimp -implicitDefEqProofs [a0, hc0, htk]
  exact Cut.by c (Le.fzF [c + 3] (Le.to (by simp [hwl, hpk, hc0]) (by simp [hc0]) (by simp [hc0])))
end Go.Proofs.YtmgaoecfipkjbaaGreat.Sh

/- Mixtures of truthful rules are truthful, and meet what both meet. No program in sight. -/
namespace Go.Proofs.YtmgaoecfipkjbaaGreat.Sh
open Go Go.RowKit

/-- Two rules of a game, and a weight. -/
structure Mx (g : Gm) (a b : List Ce) (w : Rat) : Prop where
  pa : Play g a
  pb : Play g b
  sa : ∀ c ∈ a, CeSix c
  sb : ∀ c ∈ b, CeSix c
  w6 : mz w ≤ 6
  w0 : 0 ≤ w
  w1 : w ≤ 1

section
variable {g : Gm} {a b : List Ce} {w : Rat} (h : Mx g a b w)
include h
theorem Mx.len : a.length = b.length := by rw [h.pa.good.2.2.1, h.pb.good.2.2.1]
theorem Mx.lenR : (mixR w a b).length = a.length := by
  have := h.len
  unfold mixR; rw [List.length_zipWith]; omega
theorem Mx.ce {n : Nat} (hn : n < a.length) : ceAt (mixR w a b) n = mixC w (ceAt a n) (ceAt b n) := by
  have hb : n < b.length := by rw [← h.len]; exact hn
  rw [ceAt_eq (by rw [h.lenR]; exact hn), ceAt_eq hn, ceAt_eq hb]
  simp [mixR]
theorem Mx.cells {n : Nat} (hn : n < a.length) : CeSix (ceAt a n) ∧ CeSix (ceAt b n) ∧ (ceAt a n).lot.length = g.outs.length ∧ (ceAt b n).lot.length = g.outs.length ∧ (ceAt a n).pay.length = g.agents.length ∧ (ceAt b n).pay.length = g.agents.length := by
  have hb : n < b.length := by rw [← h.len]; exact hn
  rw [ceAt_eq hn, ceAt_eq hb]
  obtain ⟨-, a2, a3⟩ := h.pa.ce (List.getElem_mem hn)
  obtain ⟨-, b2, b3⟩ := h.pb.ce (List.getElem_mem hb)
  exact ⟨h.sa _ (List.getElem_mem hn), h.sb _ (List.getElem_mem hb), a2, b2, a3, b3⟩
theorem Mx.has {n x : Nat} (hn : n < a.length) (hx : x < g.agents.length) (K : Kd) : hasQ (ceAt (mixR w a b) n) K x = mixQ w (hasQ (ceAt a n) K x) (hasQ (ceAt b n) K x) := by
  obtain ⟨c1, c2, c3, c4, c5, c6⟩ := h.cells hn
  rw [h.ce hn]
  exact has_mix h.w6 c1 c2 (by omega) (by omega) (by omega) K
theorem Mx.use {n x : Nat} (hn : n < a.length) (hx : x < g.agents.length) : useQ g (mixR w a b) n x = mixQ w (useQ g a n x) (useQ g b n x) := h.has hn hx _
theorem Mx.gain {n x t : Nat} (hn : n < a.length) (hx : x < g.agents.length) (ht : t < kl g x) : gainQ g (mixR w a b) x n t = mixQ w (gainQ g a x n t) (gainQ g b x n t) := by
  have hs : Spot g a x n := ⟨h.pa, hx, hn⟩
  have h2 := (hs.toAt (told := t) (by rw [← kl_eq hx]; exact ht)).2
  unfold gainQ
  rw [h.has h2 hx, h.has hn hx, mixQ_sub]
theorem Mx.noA {x : Nat} (hx : x < g.agents.length) (h1 : NoA g a x) (h2 : NoA g b x) : NoA g (mixR w a b) x := by
  intro n hn t ht
  rw [h.lenR] at hn
  rw [h.gain hn hx ht, ← mixQ_zero w]
  exact Rat.not_lt.2 (mixQ_le h.w0 h.w1 (Rat.not_lt.1 (h1 n hn t ht)) (Rat.not_lt.1 (h2 n (by rw [← h.len]; exact hn) t ht)))
theorem Mx.low (hr : Play g (mixR w a b)) : mixQ w (lowQ g a) (lowQ g b) ≤ lowQ g (mixR w a b) := by
  have r1 := uses_some hr
  have r2 := (mst_mem ltQ _ _ r1).resolve_right (by simp)
  obtain ⟨n, hn, hm⟩ := List.mem_flatMap.1 r2
  obtain ⟨x, hx, e⟩ := List.mem_map.1 hm
  have hn := List.mem_range.1 hn
  have hx := List.mem_range.1 hx
  rw [h.lenR] at hn
  have hb : n < b.length := by rw [← h.len]; exact hn
  rw [← e, h.use hn hx]
  have m1 : useQ g a n x ∈ usesL g a := List.mem_flatMap.2 ⟨n, List.mem_range.2 hn, List.mem_map.2 ⟨x, List.mem_range.2 hx, rfl⟩⟩
  have m2 : useQ g b n x ∈ usesL g b := List.mem_flatMap.2 ⟨n, List.mem_range.2 hb, List.mem_map.2 ⟨x, List.mem_range.2 hx, rfl⟩⟩
  exact mixQ_le h.w0 h.w1 ((mst_lt _ _ (uses_some h.pa)).1 _ m1) ((mst_lt _ _ (uses_some h.pb)).1 _ m2)

theorem Mx.sumPay {n : Nat} (hn : n < a.length) : sumQ ((ceAt (mixR w a b) n).pay.map FR.fix) = mixQ w (sumQ ((ceAt a n).pay.map FR.fix)) (sumQ ((ceAt b n).pay.map FR.fix)) := by
  obtain ⟨c1, c2, c3, c4, c5, c6⟩ := h.cells hn
  rw [h.ce hn, show (mixC w (ceAt a n) (ceAt b n)).pay = mixL w (ceAt a n).pay (ceAt b n).pay from rfl, fix_mixL h.w6 c1.pay c2.pay, sum_mix w _ _ (by simp; omega)]
theorem paid_sum {c : Ce} (hc : CeFine c) (hl : c.pay.length ≤ 4) : paidQ c = sumQ (c.pay.map FR.fix) := cap_sum (hc.pays hl)
theorem Mx.paid (hr : Play g (mixR w a b)) {n : Nat} (hn : n < a.length) : paidQ (ceAt (mixR w a b) n) = mixQ w (paidQ (ceAt a n)) (paidQ (ceAt b n)) := by
  have hb : n < b.length := by rw [← h.len]; exact hn
  have hn' : n < (mixR w a b).length := by rw [h.lenR]; exact hn
  have h4 := (sizeOk_all h.pa.fine.sz).1
  obtain ⟨a1, -, a3⟩ := h.pa.ce (List.getElem_mem hn)
  obtain ⟨b1, -, b3⟩ := h.pb.ce (List.getElem_mem hb)
  obtain ⟨r1, -, r3⟩ := hr.ce (List.getElem_mem hn')
  rw [← ceAt_eq hn] at a1 a3
  rw [← ceAt_eq hb] at b1 b3
  rw [← ceAt_eq hn'] at r1 r3
  rw [paid_sum h r1 (by omega), paid_sum h a1 (by omega), paid_sum h b1 (by omega), h.sumPay hn]
theorem Mx.among {n : Nat} (hn : n < a.length) {xs : List Int} (hx : InR xs g.outs.length) : amongQ (ceAt (mixR w a b) n).lot xs = mixQ w (amongQ (ceAt a n).lot xs) (amongQ (ceAt b n).lot xs) := by
  obtain ⟨c1, c2, c3, c4, c5, c6⟩ := h.cells hn
  rw [h.ce hn, show (mixC w (ceAt a n) (ceAt b n)).lot = mixL w (ceAt a n).lot (ceAt b n).lot from rfl]
  unfold amongQ
  rw [← sum_mix w _ _ (by simp [picks])]
  congr 1
  refine List.ext_getElem (by simp [picks]) fun i h1 h2 => ?_
  have hi : i < xs.length := by simpa [picks] using h1
  have hr := hx _ (List.getElem_mem hi)
  have l1 : xs[i].toNat < (ceAt a n).lot.length := by omega
  have l2 : xs[i].toNat < (ceAt b n).lot.length := by omega
  have l3 : xs[i].toNat < (mixL w (ceAt a n).lot (ceAt b n).lot).length := by unfold mixL; rw [List.length_zipWith]; omega
  simp only [picks, List.map_map, List.getElem_map, List.getElem_zipWith, Function.comp]
  rw [pick1_eq l1, pick1_eq l2, pick1_eq l3]
  simp only [mixL, List.getElem_zipWith]
  exact mixF_fix h.w6 (c1.lot _ (List.getElem_mem l1)) (c2.lot _ (List.getElem_mem l2))
end
end Go.Proofs.YtmgaoecfipkjbaaGreat.Sh

/- Mixtures meet the needs that both rules meet. No program in sight. -/
namespace Go.Proofs.YtmgaoecfipkjbaaGreat.Sh
open Go Go.RowKit

section
variable {g : Gm} {a b : List Ce} {w : Rat} (h : Mx g a b w)
include h
theorem Mx.le {x y z : Rat} (h1 : ¬ x < z) (h2 : ¬ y < z) : ¬ mixQ w x y < z := by
  have := mixQ_le h.w0 h.w1 (Rat.not_lt.1 h1) (Rat.not_lt.1 h2)
  rw [mixQ_self] at this
  exact Rat.not_lt.2 this
theorem Mx.le2 {x y x' y' : Rat} (h1 : ¬ x < x') (h2 : ¬ y < y') : ¬ mixQ w x y < mixQ w x' y' := Rat.not_lt.2 (mixQ_le h.w0 h.w1 (Rat.not_lt.1 h1) (Rat.not_lt.1 h2))
theorem Mx.ge {x y z : Rat} (h1 : ¬ z < x) (h2 : ¬ z < y) : ¬ z < mixQ w x y := by
  have := mixQ_le h.w0 h.w1 (Rat.not_lt.1 h1) (Rat.not_lt.1 h2)
  rw [mixQ_self] at this
  exact Rat.not_lt.2 this
theorem Mx.meet (hr : Play g (mixR w a b)) {n : Nd} (hsh : ShapedOk g.agents.length g.outs.length n) {m : Nat} (hm : m < a.length) (h1 : MeetAt g a n m) (h2 : MeetAt g b n m) : MeetAt g (mixR w a b) n m := by
  have hmb : m < b.length := by rw [← h.len]; exact hm
  unfold MeetAt at h1 h2 ⊢
  by_cases k1 : n.kind = 1
  · rw [if_pos k1] at h1 h2 ⊢
    intro x hx
    rw [h.use hm hx]
    exact h.le (h1 x hx) (h2 x hx)
  rw [if_neg k1] at h1 h2 ⊢
  by_cases k2 : n.kind = 2
  · rw [if_pos k2] at h1 h2 ⊢
    rw [h.paid hr hm]
    exact h.le h1 h2
  rw [if_neg k2] at h1 h2 ⊢
  by_cases k3 : n.kind = 3
  · rw [if_pos k3] at h1 h2 ⊢
    rw [h.paid hr hm, h1, h2, mixQ_zero]
  rw [if_neg k3] at h1 h2 ⊢
  by_cases k4 : n.kind = 4
  · rw [if_pos k4] at h1 h2 ⊢
    obtain ⟨c1, c2, c3, c4, c5, c6⟩ := h.cells hm
    intro f hf
    rw [h.ce hm] at hf
    obtain ⟨i, hi, rfl⟩ := List.getElem_of_mem hf
    have hi' : i < (mixL w (ceAt a m).pay (ceAt b m).pay).length := hi
    unfold mixL at hi'
    rw [List.length_zipWith] at hi'
    have l1 : i < (ceAt a m).pay.length := by omega
    have l2 : i < (ceAt b m).pay.length := by omega
    have e : (mixC w (ceAt a m) (ceAt b m)).pay[i] = mixF w (ceAt a m).pay[i] (ceAt b m).pay[i] := by simp [mixC, mixL]
    rw [e, mixF_fix h.w6 (c1.pay _ (List.getElem_mem l1)) (c2.pay _ (List.getElem_mem l2))]
    have p1 := h1 _ (List.getElem_mem l1)
    have p2 := h2 _ (List.getElem_mem l2)
    exact ⟨h.ge p1.1 p2.1, h.le p1.2 p2.2⟩
  rw [if_neg k4] at h1 h2 ⊢
  by_cases k5 : n.kind = 5
  · rw [if_pos k5] at h1 h2 ⊢
    obtain ⟨x, y, e1, e2, hx, hy⟩ : ∃ x y : Nat, n.agent = x ∧ n.other = y ∧ x < g.agents.length ∧ y < g.agents.length := by
      obtain ⟨x, y, q⟩ := shaped_envy hsh k5
      exact ⟨x, y, q.1, q.2.1, q.2.2.1, q.2.2.2.1⟩
    unfold MEnvy envQ at h1 h2 ⊢
    rw [e1, e2, Int.toNat_natCast, Int.toNat_natCast] at h1 h2 ⊢
    rw [h.use hm hx, h.use hm hy, h.has hm hy, h.has hm hx]
    exact ⟨h.le2 h1.1 h2.1, h.le2 h1.2 h2.2⟩
  rw [if_neg k5] at h1 h2 ⊢
  have k6 : n.kind = 6 := by rcases shaped_kind hsh with k | k | k | k | k | k <;> first | exact k | omega
  obtain ⟨x, e1, hx, hrise⟩ := shaped_order hsh k6
  unfold MOrder at h1 h2 ⊢
  rw [e1, Int.toNat_natCast] at h1 h2 ⊢
  intro ht
  have hs : Spot g a x m := ⟨h.pa, hx, hm⟩
  have h3 := (hs.toAt (told := kOf g m x + 1) (by rw [← kl_eq hx]; exact ht)).2
  rw [h.among h3 (rise_inR hrise), h.among hm (rise_inR hrise)]
  exact h.le2 (h1 ht) (h2 ht)
end
end Go.Proofs.YtmgaoecfipkjbaaGreat.Sh

/- The aim of a mixture. No program in sight. -/
namespace Go.Proofs.YtmgaoecfipkjbaaGreat.Sh
open Go Go.RowKit

theorem tot_plain {g : Gm} {r : List Ce} (h : Play g r) {n : Nat} (hn : n < r.length) : ∀ i, i ≤ g.agents.length → mz (totTo g r n i) ≤ 194 * i + 1 ∧
    (∀ a, a < g.agents.length → cap (sumQ (dotL (ceAt r n).lot (kdAt g a (kOf g n a)).worth)) = sumQ (dotL (ceAt r n).lot (kdAt g a (kOf g n a)).worth)) ∧
    (∀ j, i = j + 1 → totTo g r n i = totTo g r n j + sumQ (dotL (ceAt r n).lot (kdAt g j (kOf g n j)).worth)) := by
  have h4 := (sizeOk_all h.fine.sz).1
  have hd : ∀ a, a < g.agents.length → mz (sumQ (dotL (ceAt r n).lot (kdAt g a (kOf g n a)).worth)) ≤ 193 := fun a ha => by
    have hs : Spot g r a n := ⟨h, ha, hn⟩
    have hP := hs.pair hn hs.kof.2
    rw [ceAt_eq hn, kdAt_eq ha hs.kof.2]
    exact hP.dot.2.2
  have hc : ∀ a, a < g.agents.length → cap (sumQ (dotL (ceAt r n).lot (kdAt g a (kOf g n a)).worth)) = sumQ (dotL (ceAt r n).lot (kdAt g a (kOf g n a)).worth) := fun a ha => (cap_mz (by have := hd a ha; omega)).1
  intro i
  induction i with
  | zero => exact fun _ => ⟨by show mz 0 ≤ 1; decide +kernel, hc, fun j hj => absurd hj (by omega)⟩
  | succ i ih =>
    intro hi
    obtain ⟨h1, -, -⟩ := ih (by omega)
    have h2 := hd i hi
    have h3 := mz_add (totTo g r n i) (sumQ (dotL (ceAt r n).lot (kdAt g i (kOf g n i)).worth))
    have e : totTo g r n (i + 1) = totTo g r n i + sumQ (dotL (ceAt r n).lot (kdAt g i (kOf g n i)).worth) := by
      rw [totTo, hc i hi]; exact (cap_mz (by omega)).1
    refine ⟨by rw [e]; omega, hc, fun j hj => ?_⟩
    obtain rfl : i = j := by omega
    exact e
theorem part_mz {g : Gm} {r : List Ce} (h : Play g r) {n : Nat} (hn : n < r.length) : mz (partQ g r n) ≤ 777 ∧ addX g r n = wgt g n * partQ g r n := by
  have h4 := (sizeOk_all h.fine.sz).1
  have hw := wgtTo_mz h hn g.agents.length (Nat.le_refl _)
  have hp : mz (partQ g r n) ≤ 777 := by
    unfold partQ
    split
    · have := (tot_plain h hn g.agents.length (Nat.le_refl _)).1; omega
    · obtain ⟨c1, c2, c3⟩ := h.ce (List.getElem_mem hn)
      rw [ceAt_eq hn]
      have hs := c1.pays (by omega)
      have h1 := mz_sum (r[n].pay.map FR.fix) 28 hs.mz
      rw [List.length_map] at h1
      have e : paidQ r[n] = sumQ (r[n].pay.map FR.fix) := cap_sum hs
      rw [e]
      have := Nat.mul_le_mul_right 29 (show r[n].pay.length ≤ 4 by omega)
      omega
  refine ⟨hp, (cap_mz ?_).1⟩
  have := mz_mul (wgt g n) (partQ g r n)
  unfold wgt at this ⊢
  omega

section
variable {g : Gm} {a b : List Ce} {w : Rat} (h : Mx g a b w) (hr : Play g (mixR w a b))
include h hr
theorem Mx.tot {n : Nat} (hn : n < a.length) : ∀ i, i ≤ g.agents.length → totTo g (mixR w a b) n i = mixQ w (totTo g a n i) (totTo g b n i)
  | 0, _ => (mixQ_zero w).symm
  | i + 1, hi => by
    have hb : n < b.length := by rw [← h.len]; exact hn
    have hn' : n < (mixR w a b).length := by rw [h.lenR]; exact hn
    obtain ⟨c1, c2, c3, c4, c5, c6⟩ := h.cells hn
    rw [(tot_plain hr hn' (i + 1) hi).2.2 i rfl, (tot_plain h.pa hn (i + 1) hi).2.2 i rfl, (tot_plain h.pb hb (i + 1) hi).2.2 i rfl, Mx.tot hn i (by omega), h.ce hn,
      show (mixC w (ceAt a n) (ceAt b n)).lot = mixL w (ceAt a n).lot (ceAt b n).lot from rfl, dot_mix h.w6 c1.lot c2.lot (by omega), mixQ_add]
theorem Mx.part {n : Nat} (hn : n < a.length) : partQ g (mixR w a b) n = mixQ w (partQ g a n) (partQ g b n) := by
  unfold partQ
  split
  · exact h.tot hr hn _ (Nat.le_refl _)
  · exact h.paid hr hn
theorem Mx.add {n : Nat} (hn : n < a.length) : addX g (mixR w a b) n = mixQ w (addX g a n) (addX g b n) := by
  have hb : n < b.length := by rw [← h.len]; exact hn
  have hn' : n < (mixR w a b).length := by rw [h.lenR]; exact hn
  rw [(part_mz hr hn').2, (part_mz h.pa hn).2, (part_mz h.pb hb).2, h.part hr hn, mixQ_mul']
end

theorem over_of {q : Rat} {k : Nat} (h : mz q ≤ k) : Over q.den (W ^ k) q := Over.base (num_le h)
theorem den_wl {q : Rat} {k : Nat} (h : mz q ≤ k) : wl q.den ≤ k := by unfold mz at h; omega
/-- A sum of the aim's parts. -/
theorem sum_over {g : Gm} {r : List Ce} (h : Play g r) (six : ∀ c ∈ r, CeSix c) {l : List Nat} (hl : ∀ n ∈ l, n < r.length) (hc : l.length ≤ 16) : Over (DA g r) (W ^ 23) (sumQ (l.map (addX g r))) := by
  have h1 := Over.sum (DA_ne g r) (M := W ^ 22) (l := l.map (addX g r)) fun q hq => by
    obtain ⟨n, hn, rfl⟩ := List.mem_map.1 hq
    exact add_over h six (hl n hn)
  rw [List.length_map] at h1
  exact h1.up (Nat.dvd_refl _) (DA_ne g r) (show l.length * W ^ 22 ≤ W ^ 23 from Nat.le_trans (Nat.mul_le_mul_right _ hc) (by decide))

section
variable {g : Gm} {a b : List Ce} {w : Rat} (h : Mx g a b w)
include h
theorem Mx.w8 : mz (1 - w) ≤ 8 := by
  have h3 := mz_sub 1 w
  have h5 : mz 1 = 1 := by decide +kernel
  have := h.w6
  omega
/-- What a mixture of two such sums comes to is told as it is. -/
theorem Mx.sz {x y : Rat} (hx : Over (DA g a) (W ^ 23) x) (hy : Over (DA g b) (W ^ 23) y) : Sh.sz (w * x) ≤ 4096 ∧ Sh.sz ((1 - w) * y) ≤ 4096 ∧ Sh.sz (mixQ w x y) ≤ 4096 := by
  have ea := DA_wl h.pa h.sa
  have eb := DA_wl h.pb h.sb
  have o1 := (over_of h.w6).mul hx
  have o2 := (over_of h.w8).mul hy
  have d1 := den_wl h.w6
  have d2 := den_wl h.w8
  have n1 : w.den * DA g a ≠ 0 := Nat.mul_ne_zero w.den_nz (DA_ne g a)
  have n2 : (1 - w).den * DA g b ≠ 0 := Nat.mul_ne_zero (1 - w).den_nz (DA_ne g b)
  have l1 := wl_mul w.den (DA g a)
  have l2 := wl_mul (1 - w).den (DA g b)
  have l3 := wl_mul (w.den * DA g a) ((1 - w).den * DA g b)
  have m1 : wl (W ^ 6 * W ^ 23) ≤ 33 := toW_len_lt (k := 33) (by decide)
  have m2 : wl (W ^ 8 * W ^ 23) ≤ 33 := toW_len_lt (k := 33) (by decide)
  have m3 : wl (W ^ 6 * W ^ 23 + W ^ 8 * W ^ 23) ≤ 33 := toW_len_lt (k := 33) (by decide)
  have n3 : w.den * DA g a * ((1 - w).den * DA g b) ≠ 0 := Nat.mul_ne_zero n1 n2
  have o3 := (o1.up (Nat.dvd_mul_right _ _) n3 (Nat.le_refl _)).add n3 (o2.up (Nat.dvd_mul_left _ _) n3 (Nat.le_refl _))
  have s1 := o1.sz n1
  have s2 := o2.sz n2
  have s3 := o3.sz n3
  exact ⟨by omega, by omega, by unfold mixQ; omega⟩
theorem mix_map (l : List Nat) (f k : Nat → Rat) : sumQ (l.map fun n => mixQ w (f n) (k n)) = mixQ w (sumQ (l.map f)) (sumQ (l.map k)) := by
  rw [← sum_mix w _ _ (by simp)]
  congr 1
  induction l with
  | nil => rfl
  | cons x l ih => rw [List.map_cons, List.map_cons, List.map_cons, List.zipWith_cons_cons, ih]
theorem Mx.aimTo (hr : Play g (mixR w a b)) : ∀ n, n ≤ a.length → aimTo g (mixR w a b) n = mixQ w (aimTo g a n) (aimTo g b n) := by
  have hal := h.pa.good.2.2.1
  have h16 := (sizeOk_all h.pa.fine.sz).2.2.2.2
  have key : ∀ n, n ≤ a.length → Sh.sz (sumQ ((List.range n).map (addX g (mixR w a b)))) ≤ 4096 ∧ sumQ ((List.range n).map (addX g (mixR w a b))) = mixQ w (sumQ ((List.range n).map (addX g a))) (sumQ ((List.range n).map (addX g b))) := fun n hn => by
    have e : (List.range n).map (addX g (mixR w a b)) = (List.range n).map fun m => mixQ w (addX g a m) (addX g b m) := List.map_congr_left fun m hm => h.add hr (by have := List.mem_range.1 hm; omega)
    have e2 := mix_map h (List.range n) (addX g a) (addX g b)
    rw [e, e2]
    have hlb := h.len
    refine ⟨(h.sz (sum_over h.pa h.sa (fun m hm => ?_) (by rw [List.length_range]; omega)) (sum_over h.pb h.sb (fun m hm => ?_) (by rw [List.length_range]; omega))).2.2, rfl⟩
    · have := List.mem_range.1 hm; omega
    · have := List.mem_range.1 hm; omega
  have plain : ∀ n, n ≤ a.length → Sh.aimTo g (mixR w a b) n = sumQ ((List.range n).map (addX g (mixR w a b))) := fun n => by
    induction n with
    | zero => exact fun _ => rfl
    | succ n ih =>
      intro hn
      have hz := (key (n + 1) hn).1
      rw [List.range_succ, List.map_append, List.map_cons, List.map_nil, sumQ_snoc] at hz ⊢
      rw [Sh.aimTo, ih (by omega), ← cap_of hz]
      rfl
  intro n hn
  rw [plain n hn, (key n hn).2, aimTo_sum h.pa h.sa n hn, aimTo_sum h.pb h.sb n (by rw [← h.len]; exact hn)]
end
end Go.Proofs.YtmgaoecfipkjbaaGreat.Sh

/- Mixtures: rows of numbers. -/
namespace Go.Proofs.YtmgaoecfipkjbaaGreat.Sh
open Go Go.RowKit

/-- Numbers that can be mixed. -/
structure MixOk (w : FR) (l m : List FR) : Prop where
  ow : w.ok
  zw : mz w.fix ≤ 6
  ol : ∀ f ∈ l, f.ok
  om : ∀ f ∈ m, f.ok
  zl : ∀ f ∈ l, mz f.fix ≤ 6
  zm : ∀ f ∈ m, mz f.fix ≤ 6
  len : l.length = m.length
  six : l.length ≤ 6
theorem mixL_len {w : FR} {l m : List FR} (h : MixOk w l m) : (mixL w.fix l m).length = l.length := by
  have := h.len
  unfold mixL; rw [List.length_zipWith]; omega

set_option maxRecDepth 20000 in
theorem mixed4_s (w : FR) (l m : List FR) (h : MixOk w l m) : CallsS Tryz.prog 109 [.one (frsS l), .one (frsS m), frS w] (.v (.one (frsS (mixL w.fix l m)))) := by
  have hlen := h.len
  have hsix := h.six
  have hw1 : mz (1 - w.fix) ≤ 8 := by
    have h3 := mz_sub 1 w.fix
    have h5 : mz 1 = 1 := by decide +kernel
    have := h.zw
    omega
  have i1 := intR_s 1 (by decide) (by decide)
  have e1 : (((1 : Int) : Rat)) = 1 := rfl
  have hsu := subR_s (frQ 1) w (frQ_ok (by decide +kernel)) h.ow
  rw [fix_frQ (by decide +kernel), (cap_mz (show mz (1 - w.fix) ≤ 2048 by omega)).1] at hsu
  have z1 := (cap_mz (show mz (1 - w.fix) ≤ 2048 by omega)).2
  refine calls Tryz.func109 rfl (by rfl) (by rfl) (by kernel_rfl) ?_
  simp -dsimp -implicitDefEqProofs [Tryz.f109]
  refine eCall.of i1 (by simp) ?_
  simp -dsimp -implicitDefEqProofs
  refine eCall.of hsu (by simp [frQ, ng]; try rfl) ?_
  simp -dsimp -implicitDefEqProofs
  refine sw_loop_e (fun p : {p : Nat × Nat // p.1 ≤ l.length} => SS.of [(0, .v (.one (frsS l))), (1, .v (.one (frsS m))), (5, .v (.one (.mp 0 0))), (7, if p.1.1 = 0 then .v (.one .nils) else .v (.one (.ms (p.1.2 + 2) 0 p.1.1 3 true))), (8, .v (.one (.mp 1 0))), (9, I .i64 p.1.1)] ((0, ⟨37, rowFr w⟩) :: (1, ⟨37, rowFr (frQ (1 - w.fix))⟩) :: if p.1.1 = 0 then [] else [(p.1.2 + 2, ⟨37, flat rowFr ((mixL w.fix l m).take p.1.1)⟩)]) (p.1.2 + 3))
    (fun p => l.length - p.1.1) ⟨(0, 0), Nat.zero_le _⟩ (by kernel_rfl) (Le.to (by simp) (by simp [frQ, ng]) (by simp)) ?_
  rintro ⟨⟨i, c⟩, hi⟩
  simp only at hi
  have hml := mixL_len h
  by_cases a1 : i < l.length
  · have wi : IntKind.i64.wrap ((i : Int) + 1) = ((i + 1 : Nat) : Int) := by rw [wrap_i64 _ (by omega) (by omega)]; rfl
    have a2 : i < m.length := by omega
    have a3 : i < (mixL w.fix l m).length := by omega
    have x1 := h.zl _ (List.getElem_mem a1)
    have x2 := h.zm _ (List.getElem_mem a2)
    have y1 := mz_mul w.fix l[i].fix
    have y2 := mz_mul (1 - w.fix) m[i].fix
    have y3 := h.zw
    have u1 := cap_mz (show mz (w.fix * l[i].fix) ≤ 2048 by omega)
    have u2 := cap_mz (show mz ((1 - w.fix) * m[i].fix) ≤ 2048 by omega)
    have u3 := cap_mz (show mz (mixQ w.fix l[i].fix m[i].fix) ≤ 2048 by have := mixQ_mz h.zw x1 x2; omega)
    have hm1 := mulR_s w l[i] h.ow (h.ol _ (List.getElem_mem a1))
    have hm2 := mulR_s (frQ (1 - w.fix)) m[i] (frQ_ok (by omega)) (h.om _ (List.getElem_mem a2))
    rw [fix_frQ z1, u2.1] at hm2
    rw [u1.1] at hm1
    have had := addR_s (frQ (w.fix * l[i].fix)) (frQ ((1 - w.fix) * m[i].fix)) (frQ_ok (by omega)) (frQ_ok (by omega))
    rw [fix_frQ u1.2, fix_frQ u2.2, show w.fix * l[i].fix + (1 - w.fix) * m[i].fix = mixQ w.fix l[i].fix m[i].fix from rfl, u3.1] at had
    have hgt : (mixL w.fix l m)[i] = frQ (mixQ w.fix l[i].fix m[i].fix) := by simp [mixL, mixF]
    have hfl := flat_snoc (f := rowFr) (mixL w.fix l m)[i] ((mixL w.fix l m).take i)
    rw [← takeSnoc _ i a3, hgt] at hfl
    have htl : ((mixL w.fix l m).take i).length = i := by rw [List.length_take]; omega
    by_cases i0 : i = 0
    · have hif : ∀ {α : Type} (x y : α), (if i = 0 then x else y) = x := fun x y => if_pos i0
      have hte : (mixL w.fix l m).take i = [] := by rw [i0]; rfl
      rw [hte, flat_nil, List.nil_append] at hfl
      simp -dsimp -implicitDefEqProofs [a1, a2, hif]
      refine eCall.of hm1 (by simp [frQ, ng]) ?_
      simp -dsimp -implicitDefEqProofs [a2, hif]
      refine eCall.of hm2 (by simp [frQ, ng]) ?_
      simp -dsimp -implicitDefEqProofs [hif]
      refine eCall.of had (by simp [frQ, ng]) ?_
      simp -dsimp -implicitDefEqProofs [hif, slots, wi]
      exact Again.by ⟨(i + 1, c + 2), a1⟩ (Le.to (by simp; exact i0) (by simp only [if_neg (show ¬ i + 1 = 0 by omega)]; simp [hfl, frQ, ng]) (by simp)) (by simp; omega)
    · have hif : ∀ {α : Type} (x y : α), (if i = 0 then x else y) = y := fun x y => if_neg i0
      simp -dsimp -implicitDefEqProofs [a1, a2, hif]
      refine eCall.of hm1 (by simp [frQ, ng]) ?_
      simp -dsimp -implicitDefEqProofs [a2, hif]
      refine eCall.of hm2 (by simp [frQ, ng]) ?_
      simp -dsimp -implicitDefEqProofs [hif]
      refine eCall.of had (by simp [frQ, ng]) ?_
      simp -dsimp -implicitDefEqProofs [hif, slots, wi, htl]
      refine ⟨⟨by omega, by omega⟩, ?_⟩
      exact Again.by ⟨(i + 1, c + 2), a1⟩ (Le.to (by simp) (by simp only [if_neg (show ¬ i + 1 = 0 by omega)]; simp [hfl, frQ, ng]) (by simp)) (by simp; omega)
  have hi2 : i = l.length := by omega
  subst hi2
  have hta : (mixL w.fix l m).take l.length = mixL w.fix l m := List.take_of_length_le (by omega)
  by_cases i0 : l.length = 0
  · have hif : ∀ {α : Type} (x y : α), (if l.length = 0 then x else y) = x := fun x y => if_pos i0
    have hl0 : l = [] := List.length_eq_zero_iff.1 i0
    simp -dsimp -implicitDefEqProofs [hif]
    simp [hl0, mixL]
  · have hl0 : ¬ l = [] := fun e => i0 (by rw [e]; rfl)
    simp -dsimp -implicitDefEqProofs [hl0, hta, hml]
end Go.Proofs.YtmgaoecfipkjbaaGreat.Sh

/- Mixtures: rows of numbers, in the program. -/
namespace Go.Proofs.YtmgaoecfipkjbaaGreat.Sh
open Go Go.RowKit

set_option maxRecDepth 20000 in
theorem mixed1_s (w : FR) (l m : List FR) (h : MixOk w l m) : CallsS Tryz.prog 111 [.one (frsS l), .one (frsS m), .one (.rp true (rowFr w)), .one (.rp true (rowFr (frQ (1 - w.fix))))] (.v (.one (frsS (mixL w.fix l m)))) := by
  have hlen := h.len
  have hsix := h.six
  have hml := mixL_len h
  have hw1 : mz (1 - w.fix) ≤ 8 := by
    have h3 := mz_sub 1 w.fix
    have h5 : mz 1 = 1 := by decide +kernel
    have := h.zw
    omega
  have z1 := (cap_mz (show mz (1 - w.fix) ≤ 2048 by omega)).2
  refine calls Tryz.func111 rfl (by rfl) (by rfl) (by kernel_rfl) ?_
  simp -dsimp -implicitDefEqProofs [Tryz.f111]
  refine ⟨by omega, ?_⟩
  refine sw_loop_e (fun p : {p : Nat // p ≤ l.length} => SS.of [(0, .v (.one (frsS l))), (1, .v (.one (frsS m))), (2, .v (.one (.rp true (rowFr w)))), (3, .v (.one (.rp true (rowFr (frQ (1 - w.fix)))))), (7, .v (.one (.ms 0 0 l.length 3 true))), (13, I .i64 l.length), (14, I .i64 p.1)] [(0, ⟨37, flat (optRow [.bool false, .nils, .nils] rowFr) (filled id (mixL w.fix l m) p.1)⟩)] 1)
    (fun p => l.length - p.1) ⟨0, Nat.zero_le _⟩ (by kernel_rfl) (Le.to (by simp) (by simp [filled_zero, flat_rep _ rowFr, hml]) (by simp)) ?_
  rintro ⟨i, hi⟩
  by_cases a1 : i < l.length
  · have wi : IntKind.i64.wrap ((i : Int) + 1) = ((i + 1 : Nat) : Int) := by rw [wrap_i64 _ (by omega) (by omega)]; rfl
    have a2 : i < m.length := by omega
    have a3 : i < (mixL w.fix l m).length := by omega
    have x1 := h.zl _ (List.getElem_mem a1)
    have x2 := h.zm _ (List.getElem_mem a2)
    have y1 := mz_mul w.fix l[i].fix
    have y2 := mz_mul (1 - w.fix) m[i].fix
    have y3 := h.zw
    have u1 := cap_mz (show mz (w.fix * l[i].fix) ≤ 2048 by omega)
    have u2 := cap_mz (show mz ((1 - w.fix) * m[i].fix) ≤ 2048 by omega)
    have u3 := cap_mz (show mz (mixQ w.fix l[i].fix m[i].fix) ≤ 2048 by have := mixQ_mz h.zw x1 x2; omega)
    have hm1 := fmul_s w l[i] h.ow (h.ol _ (List.getElem_mem a1))
    have hm2 := fmul_s (frQ (1 - w.fix)) m[i] (frQ_ok (by omega)) (h.om _ (List.getElem_mem a2))
    rw [fix_frQ z1, u2.1] at hm2
    rw [u1.1] at hm1
    have had := fadd_s (frQ (w.fix * l[i].fix)) (frQ ((1 - w.fix) * m[i].fix)) (frQ_ok (by omega)) (frQ_ok (by omega))
    rw [fix_frQ u1.2, fix_frQ u2.2, show w.fix * l[i].fix + (1 - w.fix) * m[i].fix = mixQ w.fix l[i].fix m[i].fix from rfl, u3.1] at had
    have hgt : (mixL w.fix l m)[i] = frQ (mixQ w.fix l[i].fix m[i].fix) := by simp [mixL, mixF]
    have ml := filled_len id (mixL w.fix l m) (i := i) (by omega)
    have mset := filled_set id (mixL w.fix l m) i a3
    have hset := set3_flat (f := optRow [.bool false, .nils, .nils] rowFr) (filled id (mixL w.fix l m) i) i (some (id (mixL w.fix l m)[i])) rfl (by omega)
    rw [mset, id, hgt] at hset
    simp -dsimp -implicitDefEqProofs [a1, a2, ml, hml]
    refine eCall.of hm1 (by simp [frQ, ng]) ?_
    simp -dsimp -implicitDefEqProofs [a2, ml, hml]
    refine eCall.of hm2 (by simp [frQ, ng]) ?_
    simp -dsimp -implicitDefEqProofs [ml, hml]
    refine eCall.of had (by simp [frQ, ng]) ?_
    simp -dsimp -implicitDefEqProofs [ml, hml, a1]
    refine ⟨by omega, ?_⟩
    exact Again.by ⟨i + 1, a1⟩ (Le.to (by simp [wi]) (by simp [← hset, frQ, ng]) (by simp)) (by simp; omega)
  have hi2 : i = l.length := by omega
  subst hi2
  have hff : rowsOf (flat (optRow [.bool false, .nils, .nils] rowFr) (filled id (mixL w.fix l m) l.length)) 0 3 l.length = (mixL w.fix l m).map rowFr := by
    rw [← hml, rowsOf_flat _ _ (by rw [filled_len _ _ (Nat.le_refl _)]), filled_full]
    simp [optRow]
  have ml := filled_len id (mixL w.fix l m) (i := l.length) (by omega)
  simp -dsimp -implicitDefEqProofs [hff, ml, hml]
end Go.Proofs.YtmgaoecfipkjbaaGreat.Sh

/- Mixtures: what they come to. No program in sight. -/
namespace Go.Proofs.YtmgaoecfipkjbaaGreat.Sh
open Go Go.RowKit

theorem mixC_fine {w : Rat} (hw : mz w ≤ 6) {c d : Ce} (hc : CeSix c) (hd : CeSix d) (h1 : c.lot.length ≤ 100) (h2 : c.pay.length ≤ 100) : CeFine (mixC w c d) := by
  have key : ∀ (l m : List FR), (∀ f ∈ l, mz f.fix ≤ 6) → (∀ f ∈ m, mz f.fix ≤ 6) → ∀ f ∈ mixL w l m, f.ok ∧ mz f.fix ≤ 28 := fun l m hl hm f hf => by
    obtain ⟨i, hi, rfl⟩ := List.getElem_of_mem hf
    have hi' := hi
    unfold mixL at hi'
    rw [List.length_zipWith] at hi'
    have e : (mixL w l m)[i] = mixF w (l[i]'(by omega)) (m[i]'(by omega)) := by simp [mixL]
    have g1 := hl _ (List.getElem_mem (show i < l.length by omega))
    have g2 := hm _ (List.getElem_mem (show i < m.length by omega))
    have g3 := mixQ_mz hw g1 g2
    rw [e, mixF_fix hw g1 g2]
    exact ⟨frQ_ok (by have := (cap_mz (show mz (mixQ w (l[i]'(by omega)).fix (m[i]'(by omega)).fix) ≤ 2048 by omega)).2; omega), g3⟩
  have l1 : (mixC w c d).lot.length ≤ 100 := by show (mixL w c.lot d.lot).length ≤ 100; unfold mixL; rw [List.length_zipWith]; omega
  have l2 : (mixC w c d).pay.length ≤ 100 := by show (mixL w c.pay d.pay).length ≤ 100; unfold mixL; rw [List.length_zipWith]; omega
  exact ⟨⟨by unfold lenOk; omega, by unfold lenOk; omega, fun f hf => (key _ _ hc.lot hd.lot f hf).1, fun f hf => (key _ _ hc.pay hd.pay f hf).1⟩, fun f hf => (key _ _ hc.lot hd.lot f hf).2, fun f hf => (key _ _ hc.pay hd.pay f hf).2⟩
theorem Mx.seen {g : Gm} {a b : List Ce} {w : Rat} (h : Mx g a b w) : Seen g (mixR w a b) := by
  have hs := h.pa.seen
  obtain ⟨q1, q2, -⟩ := sizeOk_all h.pa.fine.sz
  refine ⟨hs.ok, hs.bey, by rw [h.lenR]; exact hs.len, fun c hc => ?_⟩
  obtain ⟨i, hi, rfl⟩ := List.getElem_of_mem hc
  have hi' : i < a.length := by rw [← h.lenR]; exact hi
  obtain ⟨c1, c2, c3, c4, c5, c6⟩ := h.cells hi'
  rw [← ceAt_eq hi, h.ce hi']
  exact mixC_fine h.w6 c1 c2 (by omega) (by omega)
theorem Mx.play {g : Gm} {a b : List Ce} {w : Rat} (h : Mx g a b w) (hf : ∀ c ∈ mixR w a b, FitsOk g c) : Play g (mixR w a b) :=
  ⟨h.seen, h.pa.far, h.pa.good.1, h.pa.good.2.1, by rw [h.lenR]; exact h.pa.good.2.2.1, hf⟩

/-- What mixing two rules comes to. -/
structure IsMix (g : Gm) (a b : List Ce) (w : Rat) (res : List Ce) (e : Int) : Prop where
  game : ¬ (sizeOk g = true ∧ RightOk g) → res = [] ∧ e = 2
  rule : sizeOk g = true ∧ RightOk g → ¬ (RuleOk g a ∧ RuleOk g b) → res = [] ∧ e = 3
  lot : sizeOk g = true ∧ RightOk g → RuleOk g a ∧ RuleOk g b → ¬ (0 ≤ w ∧ w ≤ 1) → res = [] ∧ e = 41
  cell : sizeOk g = true ∧ RightOk g → RuleOk g a ∧ RuleOk g b → 0 ≤ w ∧ w ≤ 1 → ¬ (∀ c ∈ mixR w a b, FitsOk g c) → res = [] ∧ e = 3
  good : sizeOk g = true ∧ RightOk g → RuleOk g a ∧ RuleOk g b → 0 ≤ w ∧ w ≤ 1 → (∀ c ∈ mixR w a b, FitsOk g c) → res = mixR w a b ∧ e = 0
theorem isMix_of (g : Gm) (a b : List Ce) (w : Rat) : ∃ res e, IsMix g a b w res e := by
  by_cases h1 : sizeOk g = true ∧ RightOk g
  · by_cases h2 : RuleOk g a ∧ RuleOk g b
    · by_cases h3 : 0 ≤ w ∧ w ≤ 1
      · by_cases h4 : ∀ c ∈ mixR w a b, FitsOk g c
        · exact ⟨_, 0, ⟨fun h => absurd h1 h, fun _ h => absurd h2 h, fun _ _ h => absurd h3 h, fun _ _ _ h => absurd h4 h, fun _ _ _ _ => ⟨rfl, rfl⟩⟩⟩
        · exact ⟨[], 3, ⟨fun h => absurd h1 h, fun _ h => absurd h2 h, fun _ _ h => absurd h3 h, fun _ _ _ _ => ⟨rfl, rfl⟩, fun _ _ _ h => absurd h h4⟩⟩
      · exact ⟨[], 41, ⟨fun h => absurd h1 h, fun _ h => absurd h2 h, fun _ _ _ => ⟨rfl, rfl⟩, fun _ _ h => absurd h h3, fun _ _ h => absurd h h3⟩⟩
    · exact ⟨[], 3, ⟨fun h => absurd h1 h, fun _ _ => ⟨rfl, rfl⟩, fun _ h => absurd h h2, fun _ h => absurd h h2, fun _ h => absurd h h2⟩⟩
  · exact ⟨[], 2, ⟨fun _ => ⟨rfl, rfl⟩, fun h => absurd h h1, fun h => absurd h h1, fun h => absurd h h1, fun h => absurd h h1⟩⟩
end Go.Proofs.YtmgaoecfipkjbaaGreat.Sh

