/- A part of the proof: R93, R94, R95, R96, R97, R98 -/
import Derived.Test.YtmgaoecfipkjbaaGreatL21
set_option linter.unusedSimpArgs false
set_option linter.unusedVariables false
set_option linter.unusedSectionVars false
/- A game in which an agent's kinds stand the other way about: plain laws. No program in sight. -/
namespace Go.Proofs.YtmgaoecfipkjbaaGreat.Sh
open Go Go.RowKit

/-- Two kinds with the same numbers. -/
structure SameN (K L : Kd) : Prop where
  w : K.weight = L.weight
  al : K.alone = L.alone
  wo : K.worth = L.worth
def tk (g : Gm) (b i k : Nat) : Nat := if i = b then kl g i - 1 - k else k
/-- A game is another one, in which an agent's kinds stand the other way about, and all names are others. -/
structure Tn (g h : Gm) (b : Nat) : Prop where
  hb : b < g.agents.length
  la : h.agents.length = g.agents.length
  lo : h.outs.length = g.outs.length
  pay : h.pay = g.pay
  lots : h.lots = g.lots
  aim : h.aim = g.aim
  needs : h.needs = []
  kn : ∀ i (hi : i < g.agents.length), (h.agents[i]'(by omega)).kinds.length = g.agents[i].kinds.length
  kd : ∀ i k (hi : i < g.agents.length) (hk : k < g.agents[i].kinds.length), SameN ((h.agents[i]'(by omega)).kinds[k]'(by rw [kn i hi]; exact hk)) (kdAt g i (tk g b i k))
  on : NamesOk h.outs
  an : NamesOk (h.agents.map Ag.name)
  kdn : ∀ A ∈ h.agents, NamesOk (A.kinds.map Kd.name)
  so : ∀ s ∈ h.outs, s.size ≤ 2
  sa : ∀ A ∈ h.agents, A.name.size ≤ 2
  sk : ∀ A ∈ h.agents, ∀ K ∈ A.kinds, K.name.size ≤ 2

section
variable {g h : Gm} {b : Nat} (t : Tn g h b)
include t
theorem Tn.kl_eq (i : Nat) : kl h i = kl g i := by
  unfold kl
  by_cases hi : i < g.agents.length
  · rw [List.getElem?_eq_getElem hi, List.getElem?_eq_getElem (by have := t.la; omega)]
    simp [t.kn i hi]
  · rw [List.getElem?_eq_none (by have := t.la; omega), List.getElem?_eq_none (by have := t.la; omega)]
theorem Tn.szs : szs h = szs g := by
  unfold Sh.szs
  refine List.ext_getElem (by simp [t.la]) fun i h1 h2 => ?_
  simp only [List.getElem_map]
  exact t.kn i (by simpa using h2)
theorem Tn.prodK : prodK h.agents = prodK g.agents := by
  rw [prodK_eq, prodK_eq]
  have := t.szs
  unfold Sh.szs at this
  rw [this]
theorem Tn.at (n : Nat) : atG h n = atG g n := by unfold atG; rw [t.szs]
theorem Tn.whrTo (p : List Int) : ∀ i, whrTo h p i = whrTo g p i
  | 0 => rfl
  | i + 1 => by
    rw [Sh.whrTo, Sh.whrTo, Tn.whrTo p i]
    have := t.kl_eq i
    unfold kl at this
    rw [this]
theorem Tn.whr (p : List Int) : whr h p = whr g p := by unfold Sh.whr; rw [t.whrTo, t.la]
theorem Tn.kOf (n a : Nat) : kOf h n a = kOf g n a := by unfold Sh.kOf; rw [t.at]
theorem Tn.isProf {p : List Int} (hp : isProf g p) : isProf h p := by
  refine (profTo_iff (by rw [t.la]; exact hp.1)).2 fun j x hx => ?_
  rw [t.kl_eq]
  exact (profTo_iff hp.1).1 hp j x hx
theorem Tn.kdAt {i k : Nat} (hi : i < g.agents.length) (hk : k < kl g i) : SameN (kdAt h i k) (kdAt g i (tk g b i k)) := by
  have hk' : k < g.agents[i].kinds.length := by rw [← Sh.kl_eq hi]; exact hk
  have hi' : i < h.agents.length := by rw [t.la]; exact hi
  have := t.kd i k hi hk'
  rwa [kdAt_eq hi' (by rw [t.kn i hi]; exact hk')]
end
theorem tk_lt {g : Gm} {b i k : Nat} (h : k < kl g i) : tk g b i k < kl g i := by unfold tk; split <;> omega
theorem tk_tk {g : Gm} {b i k : Nat} (h : k < kl g i) : tk g b i (tk g b i k) = k := by unfold tk; split <;> omega

/-- A profile, in which the agent tells the other end of its kinds. -/
def tp (g : Gm) (b : Nat) (p : List Int) : List Int := putP p b ((kl g b : Int) - 1 - (p[b]?).getD 0)
def tn (g : Gm) (b n : Nat) : Nat := (whr g (tp g b (atG g n))).toNat

theorem putP_get {p : List Int} {a : Nat} (ha : a < p.length) (k : Int) (j : Nat) : (putP p a k)[j]? = if j = a then some k else p[j]? := by
  unfold putP
  rw [if_pos ⟨by omega, by omega⟩, Int.toNat_natCast, List.getElem?_set]
  by_cases c : j = a
  · subst c; simp [ha]
  · rw [if_neg (fun e => c e.symm), if_neg c]

section
variable {g : Gm} {r : List Ce} (hp : Play g r) {b : Nat} (hb : b < g.agents.length)
include hp hb
theorem klb : 0 < kl g b := by rw [kl_eq hb]; exact List.length_pos_iff.2 (hp.good.2.1.all _ (List.getElem_mem hb)).1
theorem tp_ok {p : List Int} (h : isProf g p) : isProf g (tp g b p) := by
  have hl : b < p.length := by rw [h.1]; exact hb
  have h1 := (profTo_iff h.1).1 h b _ (List.getElem?_eq_getElem hl)
  unfold tp
  rw [List.getElem?_eq_getElem hl]
  simp only [Option.getD_some]
  exact put_isProf h (List.getElem?_eq_getElem hb) (by omega) (by rw [← kl_eq hb]; omega)
theorem tp_get {p : List Int} (h : isProf g p) (j : Nat) : (tp g b p)[j]? = if j = b then some ((kl g b : Int) - 1 - (p[b]?).getD 0) else p[j]? := by
  have hl : b < p.length := by rw [h.1]; exact hb
  exact putP_get hl _ j
theorem tp_tp {p : List Int} (h : isProf g p) : tp g b (tp g b p) = p := by
  have hl : b < p.length := by rw [h.1]; exact hb
  refine List.ext_getElem? fun j => ?_
  rw [tp_get hp hb (tp_ok hp hb h), tp_get hp hb h, tp_get hp hb h, if_pos rfl, Option.getD_some]
  by_cases c : j = b
  · subst c
    rw [if_pos rfl, List.getElem?_eq_getElem hl]
    simp only [Option.getD_some, Option.some.injEq]
    omega
  · rw [if_neg c, if_neg c]
theorem tn_lt {n : Nat} (hn : n < r.length) : tn g b n < r.length ∧ atG g (tn g b n) = tp g b (atG g n) ∧ (tn g b n : Int) = whr g (tp g b (atG g n)) := by
  have hrl := hp.good.2.2.1
  have h1 := tp_ok hp hb (at_isProf (g := g) (i := n) (by omega))
  obtain ⟨w1, w2⟩ := whrTo_le (g := g) (p := tp g b (atG g n)) g.agents.length (Nat.le_refl _) h1.2
  rw [List.take_length] at w2
  refine ⟨?_, at_whr h1, ?_⟩
  · unfold tn whr; omega
  · unfold tn whr; omega
theorem tn_tn {n : Nat} (hn : n < r.length) : tn g b (tn g b n) = n := by
  have hrl := hp.good.2.2.1
  obtain ⟨h1, h2, h3⟩ := tn_lt hp hb hn
  have : tn g b (tn g b n) = (whr g (tp g b (atG g (tn g b n)))).toNat := rfl
  rw [this, h2, tp_tp hp hb (at_isProf (by omega)), whr_at (by omega), Int.toNat_natCast]
theorem kOf_tn {n : Nat} (hn : n < r.length) {a : Nat} (ha : a < g.agents.length) : kOf g (tn g b n) a = tk g b a (kOf g n a) := by
  have hrl := hp.good.2.2.1
  obtain ⟨h1, h2, h3⟩ := tn_lt hp hb hn
  have hs : Spot g r a n := ⟨hp, ha, hn⟩
  obtain ⟨k1, k2⟩ := hs.kof
  rw [← kl_eq ha] at k2
  show (((atG g (tn g b n))[a]?).getD 0).toNat = _
  rw [h2, tp_get hp hb (at_isProf (by omega))]
  unfold tk
  by_cases c : a = b
  · subst c
    rw [if_pos rfl, if_pos rfl, k1]
    simp only [Option.getD_some]
    omega
  · rw [if_neg c, if_neg c, k1]
    simp only [Option.getD_some]
    omega
end
end Go.Proofs.YtmgaoecfipkjbaaGreat.Sh

/- A game in which an agent's kinds stand the other way about: lies, gains and aim are the same. No program in sight. -/
namespace Go.Proofs.YtmgaoecfipkjbaaGreat.Sh
open Go Go.RowKit

theorem hasQ_same {K L : Kd} (h : SameN K L) (c : Ce) (a : Nat) : hasQ c K a = hasQ c L a := by unfold hasQ; rw [h.wo]
def turnR (g : Gm) (r : List Ce) (b : Nat) : List Ce := (List.range r.length).map fun n => ceAt r (tn g b n)
theorem turnR_len (g : Gm) (r : List Ce) (b : Nat) : (turnR g r b).length = r.length := by simp [turnR]
theorem turnR_at {g : Gm} {r : List Ce} {b n : Nat} (hn : n < r.length) : ceAt (turnR g r b) n = ceAt r (tn g b n) := by
  rw [ceAt_eq (by rw [turnR_len]; exact hn)]; simp [turnR]

section
variable {g h : Gm} {r : List Ce} {b : Nat} (hp : Play g r) (t : Tn g h b)
include hp t
theorem use_turn {n a : Nat} (hn : n < r.length) (ha : a < g.agents.length) : useQ h (turnR g r b) n a = useQ g r (tn g b n) a := by
  have hs : Spot g r a n := ⟨hp, ha, hn⟩
  have hk : kOf g n a < kl g a := by rw [kl_eq ha]; exact hs.kof.2
  unfold useQ
  rw [turnR_at hn, t.kOf, hasQ_same (t.kdAt ha hk), kOf_tn hp t.hb hn ha]
theorem tp_put {n a told : Nat} (hn : n < r.length) (ha : a < g.agents.length) (ht : told < kl g a) : tp g b (putP (atG g n) a told) = putP (tp g b (atG g n)) a (tk g b a told : Nat) := by
  have hs : Spot g r a n := ⟨hp, ha, hn⟩
  have hpr := hs.prof
  have hpp := hs.put (told := told) (by rw [← kl_eq ha]; exact ht)
  have hl : (atG g n).length = g.agents.length := hpr.1
  have hb := t.hb
  have hl2 : (tp g b (atG g n)).length = g.agents.length := (tp_ok hp hb hpr).1
  refine List.ext_getElem? fun j => ?_
  rw [tp_get hp hb hpp, putP_get (by omega), putP_get (by omega), putP_get (by omega), tp_get hp hb hpr]
  unfold tk
  by_cases c1 : j = b
  · by_cases c2 : b = a
    · subst c2; subst c1
      simp only [if_true, Option.getD_some, Option.some.injEq]
      omega
    · rw [if_pos c1, if_neg c2, if_neg (show ¬ j = a by omega), if_pos c1]
  · by_cases c2 : j = a
    · rw [if_neg c1, if_pos c2, if_pos c2, if_neg (show ¬ a = b by omega)]
    · rw [if_neg c1, if_neg c2, if_neg c2, if_neg c1]
theorem to_turn {n a told : Nat} (hn : n < r.length) (ha : a < g.agents.length) (ht : told < kl g a) : toAt h n a told < r.length ∧ tn g b (toAt h n a told) = toAt g (tn g b n) a (tk g b a told) := by
  have hs : Spot g r a n := ⟨hp, ha, hn⟩
  have ht' : told < (g.agents[a]).kinds.length := by rw [← kl_eq ha]; exact ht
  obtain ⟨e1, e2⟩ := hs.toAt ht'
  have e0 : toAt h n a told = toAt g n a told := by unfold toAt; rw [t.at, t.whr]
  rw [e0]
  refine ⟨e2, ?_⟩
  have e3 : atG g (toAt g n a told) = putP (atG g n) a told := by
    have := at_whr (hs.put ht')
    exact this
  show (whr g (tp g b (atG g (toAt g n a told)))).toNat = (whr g (putP (atG g (tn g b n)) a (tk g b a told : Nat))).toNat
  rw [e3, (tn_lt hp t.hb hn).2.1, tp_put hp t hn ha ht]
theorem gain_turn {n a told : Nat} (hn : n < r.length) (ha : a < g.agents.length) (ht : told < kl g a) : gainQ h (turnR g r b) a n told = gainQ g r a (tn g b n) (tk g b a told) := by
  have hs : Spot g r a n := ⟨hp, ha, hn⟩
  have hk : kOf g n a < kl g a := by rw [kl_eq ha]; exact hs.kof.2
  obtain ⟨e1, e2⟩ := to_turn hp t hn ha ht
  unfold gainQ
  rw [turnR_at e1, turnR_at hn, t.kOf, hasQ_same (t.kdAt ha hk), hasQ_same (t.kdAt ha hk), kOf_tn hp t.hb hn ha, e2]
theorem gain_back {n a told : Nat} (hn : n < r.length) (ha : a < g.agents.length) (ht : told < kl g a) : gainQ g r a n told = gainQ h (turnR g r b) a (tn g b n) (tk g b a told) := by
  rw [gain_turn hp t (tn_lt hp t.hb hn).1 ha (tk_lt ht), tn_tn hp t.hb hn, tk_tk ht]
theorem noA_turn {a : Nat} (ha : a < g.agents.length) : NoA h (turnR g r b) a ↔ NoA g r a := by
  constructor
  · intro hh n hn told ht
    rw [gain_back hp t hn ha ht]
    exact hh _ (by rw [turnR_len]; exact (tn_lt hp t.hb hn).1) _ (by rw [t.kl_eq]; exact tk_lt ht)
  · intro hh n hn told ht
    rw [turnR_len] at hn
    rw [t.kl_eq] at ht
    rw [gain_turn hp t hn ha ht]
    exact hh _ (tn_lt hp t.hb hn).1 _ (tk_lt ht)
end

theorem isTr.iff {g : Gm} {r : List Ce} {l : Li} {ok : Bool} (h : isTr g r l ok) : ok = true ↔ ∀ a, a < g.agents.length → NoA g r a := by
  rcases h with ⟨a, n, t, h1, -, rfl⟩ | ⟨h1, -, rfl⟩
  · exact ⟨fun e => (by cases e), fun hh => absurd h1.pos (hh a h1.ha n h1.hn t h1.ht)⟩
  · exact ⟨fun _ => h1, fun _ => rfl⟩

theorem mst_gt : ∀ (l : List Li) (m : Option Li) {y : Li}, l.foldl (mst gtL) m = some y → (∀ x ∈ l, x.gain ≤ y.gain) ∧ ∀ z, m = some z → z.gain ≤ y.gain
  | [], m, y, h => ⟨fun x hx => (by cases hx), fun z hz => by rw [List.foldl_nil, hz] at h; cases h; exact Rat.le_refl⟩
  | x :: l, m, y, h => by
    obtain ⟨h1, h2⟩ := mst_gt l _ h
    cases m with
    | none =>
      refine ⟨fun z hz => ?_, fun z hz => by cases hz⟩
      rcases List.mem_cons.1 hz with rfl | hz
      · exact h2 _ rfl
      · exact h1 z hz
    | some w =>
      by_cases c : w.gain < x.gain
      · have h3 := h2 x (by simp [mst, gtL, c])
        refine ⟨fun z hz => ?_, fun z hz => ?_⟩
        · rcases List.mem_cons.1 hz with rfl | hz
          · exact h3
          · exact h1 z hz
        · cases hz; exact Rat.le_trans (Rat.le_of_lt c) h3
      · have h3 := h2 w (by simp [mst, gtL, c])
        refine ⟨fun z hz => ?_, fun z hz => ?_⟩
        · rcases List.mem_cons.1 hz with rfl | hz
          · exact Rat.le_trans (Rat.not_lt.1 c) h3
          · exact h1 z hz
        · cases hz; exact h3
theorem mst_lt : ∀ (l : List Rat) (m : Option Rat) {y : Rat}, l.foldl (mst ltQ) m = some y → (∀ x ∈ l, y ≤ x) ∧ ∀ z, m = some z → y ≤ z
  | [], m, y, h => ⟨fun x hx => (by cases hx), fun z hz => by rw [List.foldl_nil, hz] at h; cases h; exact Rat.le_refl⟩
  | x :: l, m, y, h => by
    obtain ⟨h1, h2⟩ := mst_lt l _ h
    cases m with
    | none =>
      refine ⟨fun z hz => ?_, fun z hz => by cases hz⟩
      rcases List.mem_cons.1 hz with rfl | hz
      · exact h2 _ rfl
      · exact h1 z hz
    | some w =>
      by_cases c : x < w
      · have h3 := h2 x (by simp [mst, ltQ, c])
        refine ⟨fun z hz => ?_, fun z hz => ?_⟩
        · rcases List.mem_cons.1 hz with rfl | hz
          · exact h3
          · exact h1 z hz
        · cases hz; exact Rat.le_trans h3 (Rat.le_of_lt c)
      · have h3 := h2 w (by simp [mst, ltQ, c])
        refine ⟨fun z hz => ?_, fun z hz => ?_⟩
        · rcases List.mem_cons.1 hz with rfl | hz
          · exact Rat.le_trans h3 (Rat.not_lt.1 c)
          · exact h1 z hz
        · cases hz; exact h3

/-- The best lie's gain. -/
theorem top_char {g : Gm} {r : List Ce} {a : Nat} (h : Play g r) (ha : a < g.agents.length) : 0 ≤ (bestN g r a r.length).gain ∧
    (∀ n t, n < r.length → t < kl g a → t ≠ kOf g n a → gainQ g r a n t ≤ (bestN g r a r.length).gain) ∧
    ((bestN g r a r.length).gain = 0 ∨ ∃ n t, n < r.length ∧ t < kl g a ∧ t ≠ kOf g n a ∧ gainQ g r a n t = (bestN g r a r.length).gain) := by
  rw [best_top h ha]
  cases ht : topL g r a with
  | none =>
    have hnil : liesL g r a = [] := Classical.byContradiction fun hc => by
      have := mst_isSome gtL hc
      unfold topL at ht
      rw [ht] at this; cases this
    refine ⟨Rat.le_refl, fun n t hn h1 h2 => ?_, .inl rfl⟩
    have := mem_liesTo (g := g) (r := r) hn h1 h2
    rw [show liesTo g r a r.length = liesL g r a from rfl, hnil] at this
    cases this
  | some y =>
    have hall := (mst_gt _ _ ht).1
    have hy := (mst_mem gtL _ _ ht).resolve_right (by simp)
    have hle : ∀ n t, n < r.length → t < kl g a → t ≠ kOf g n a → gainQ g r a n t ≤ y.gain := fun n t hn h1 h2 => hall _ (mem_liesTo (g := g) (r := r) hn h1 h2)
    by_cases c : 0 < y.gain
    · have e : orNo a (some y) = y := if_pos c
      rw [e]
      refine ⟨Rat.le_of_lt c, hle, .inr ?_⟩
      obtain ⟨n, hn, hy⟩ := List.mem_flatMap.1 hy
      obtain ⟨k, hk, rfl⟩ := List.mem_map.1 hy
      have hk := List.mem_filter.1 hk
      exact ⟨n, k, List.mem_range.1 hn, List.mem_range.1 hk.1, by simpa using hk.2, rfl⟩
    · have e : orNo a (some y) = noLi a 0 := if_neg c
      rw [e]
      exact ⟨Rat.le_refl, fun n t hn h1 h2 => Rat.le_trans (hle n t hn h1 h2) (Rat.not_lt.1 c), .inl rfl⟩

section
variable {g h : Gm} {r : List Ce} {b : Nat} (hp : Play g r) (t : Tn g h b) (hq : Play h (turnR g r b))
include hp t hq
theorem top_le {a : Nat} (ha : a < g.agents.length) : (bestN g r a r.length).gain ≤ (bestN h (turnR g r b) a r.length).gain := by
  have ha' : a < h.agents.length := by rw [t.la]; exact ha
  have h1 := top_char hq ha'
  rw [turnR_len] at h1
  rcases (top_char hp ha).2.2 with e | ⟨n, k, hn, hk, hne, e⟩
  · rw [e]; exact h1.1
  · rw [← e, gain_back hp t hn ha hk]
    refine h1.2.1 _ _ (tn_lt hp t.hb hn).1 (by rw [t.kl_eq]; exact tk_lt hk) ?_
    have hs : Spot g r a n := ⟨hp, ha, hn⟩
    have hko : kOf g n a < kl g a := by rw [kl_eq ha]; exact hs.kof.2
    rw [t.kOf, kOf_tn hp t.hb hn ha]
    intro e2
    have := congrArg (tk g b a) e2
    rw [tk_tk hk, tk_tk hko] at this
    exact hne this
theorem top_ge {a : Nat} (ha : a < g.agents.length) : (bestN h (turnR g r b) a r.length).gain ≤ (bestN g r a r.length).gain := by
  have ha' : a < h.agents.length := by rw [t.la]; exact ha
  have h1 := (top_char hq ha').2.2
  rw [turnR_len] at h1
  have h2 := top_char hp ha
  rcases h1 with e | ⟨n, k, hn, hk, hne, e⟩
  · rw [e]; exact h2.1
  · rw [t.kl_eq] at hk
    rw [← e, gain_turn hp t hn ha hk]
    refine h2.2.1 _ _ (tn_lt hp t.hb hn).1 (tk_lt hk) ?_
    have hs : Spot g r a n := ⟨hp, ha, hn⟩
    have hko : kOf g n a < kl g a := by rw [kl_eq ha]; exact hs.kof.2
    rw [kOf_tn hp t.hb hn ha]
    intro e2
    have := congrArg (tk g b a) e2
    rw [tk_tk hk, tk_tk hko, ← t.kOf] at this
    exact hne this
theorem low_turn : lowQ h (turnR g r b) = lowQ g r := by
  have g1 := uses_some hp
  have h1 := uses_some hq
  have g2 := (mst_mem ltQ _ _ g1).resolve_right (by simp)
  have h2 := (mst_mem ltQ _ _ h1).resolve_right (by simp)
  have g3 := (mst_lt _ _ g1).1
  have h3 := (mst_lt _ _ h1).1
  apply Rat.le_antisymm
  · obtain ⟨n, hn, hm⟩ := List.mem_flatMap.1 g2
    obtain ⟨a, ha, e⟩ := List.mem_map.1 hm
    have hn := List.mem_range.1 hn
    have ha := List.mem_range.1 ha
    refine h3 _ (List.mem_flatMap.2 ⟨tn g b n, List.mem_range.2 (by rw [turnR_len]; exact (tn_lt hp t.hb hn).1), List.mem_map.2 ⟨a, List.mem_range.2 (by rw [t.la]; exact ha), ?_⟩⟩)
    rw [use_turn hp t (tn_lt hp t.hb hn).1 ha, tn_tn hp t.hb hn, e]
  · obtain ⟨n, hn, hm⟩ := List.mem_flatMap.1 h2
    obtain ⟨a, ha, e⟩ := List.mem_map.1 hm
    have hn := List.mem_range.1 hn
    have ha := List.mem_range.1 ha
    rw [turnR_len] at hn
    rw [t.la] at ha
    refine g3 _ (List.mem_flatMap.2 ⟨tn g b n, List.mem_range.2 (tn_lt hp t.hb hn).1, List.mem_map.2 ⟨a, List.mem_range.2 ha, ?_⟩⟩)
    rw [← e, use_turn hp t hn ha]
end

section
variable {g h : Gm} {r : List Ce} {b : Nat} (hp : Play g r) (t : Tn g h b)
include hp t
theorem wgt_turn {n : Nat} (hn : n < r.length) : ∀ i, i ≤ g.agents.length → wgtTo h n i = wgtTo g (tn g b n) i
  | 0, _ => rfl
  | i + 1, hi => by
    have hs : Spot g r i n := ⟨hp, hi, hn⟩
    have hk : kOf g n i < kl g i := by rw [kl_eq hs.ha]; exact hs.kof.2
    rw [wgtTo, wgtTo, wgt_turn hn i (by omega), t.kOf, (t.kdAt hs.ha hk).w, kOf_tn hp t.hb hn hs.ha]
theorem tot_turn {n : Nat} (hn : n < r.length) : ∀ i, i ≤ g.agents.length → totTo h (turnR g r b) n i = totTo g r (tn g b n) i
  | 0, _ => rfl
  | i + 1, hi => by
    have hs : Spot g r i n := ⟨hp, hi, hn⟩
    have hk : kOf g n i < kl g i := by rw [kl_eq hs.ha]; exact hs.kof.2
    rw [totTo, totTo, tot_turn hn i (by omega), turnR_at hn, t.kOf, (t.kdAt hs.ha hk).wo, kOf_tn hp t.hb hn hs.ha]
theorem add_turn {n : Nat} (hn : n < r.length) : addX h (turnR g r b) n = addX g r (tn g b n) := by
  unfold addX partQ wgt
  rw [t.aim, t.la, wgt_turn hp t hn _ (Nat.le_refl _), tot_turn hp t hn _ (Nat.le_refl _), turnR_at hn]
theorem tn_perm : ((List.range r.length).map (tn g b)).Perm (List.range r.length) := by
  refine (List.perm_ext_iff_of_nodup ?_ List.nodup_range).2 fun x => ?_
  · refine List.pairwise_map.2 (List.Pairwise.imp_of_mem (fun {x y} hx hy hne e => hne ?_) (List.nodup_range (n := r.length)))
    have := congrArg (tn g b) e
    rwa [tn_tn hp t.hb (List.mem_range.1 hx), tn_tn hp t.hb (List.mem_range.1 hy)] at this
  · constructor
    · intro hx
      obtain ⟨n, hn, rfl⟩ := List.mem_map.1 hx
      exact List.mem_range.2 (tn_lt hp t.hb (List.mem_range.1 hn)).1
    · intro hx
      have hx := List.mem_range.1 hx
      exact List.mem_map.2 ⟨tn g b x, List.mem_range.2 (tn_lt hp t.hb hx).1, tn_tn hp t.hb hx⟩
theorem aim_turn (hq : Play h (turnR g r b)) : aimQ h (turnR g r b) = aimQ g r := by
  unfold aimQ
  rw [t.aim, low_turn hp t hq, turnR_len]
  split
  · rfl
  · rw [aimTo_sum hq _ (by rw [turnR_len]; exact Nat.le_refl _), aimTo_sum hp _ (Nat.le_refl _)]
    rw [show (List.range r.length).map (addX h (turnR g r b)) = ((List.range r.length).map (tn g b)).map (addX g r) by
      rw [List.map_map]
      exact List.map_congr_left fun n hn => add_turn hp t (List.mem_range.1 hn)]
    exact sumQ_perm ((tn_perm hp t).map _)
end
end Go.Proofs.YtmgaoecfipkjbaaGreat.Sh

/- A turned game is good and small. No program in sight. -/
namespace Go.Proofs.YtmgaoecfipkjbaaGreat.Sh
open Go Go.RowKit

theorem fold_bnd {α : Type} (f : Int → α → Int) (d : Int) (hd : 0 ≤ d) : ∀ (l : List α) (M z : Int), 0 ≤ z → z + l.length * d ≤ M → (∀ n x, x ∈ l → 0 ≤ n → n + d ≤ M → 0 ≤ f n x ∧ f n x ≤ n + d) → 0 ≤ l.foldl f z ∧ l.foldl f z ≤ z + l.length * d
  | [], M, z, hz, _, _ => ⟨hz, by simp⟩
  | x :: l, M, z, hz, hM, h => by
    have e : ((x :: l).length : Int) * d = l.length * d + d := by rw [List.length_cons, Int.natCast_add, Int.add_mul]; simp
    have hl : 0 ≤ (l.length : Int) * d := Int.mul_nonneg (by omega) hd
    obtain ⟨h1, h2⟩ := h z x (List.mem_cons_self ..) hz (by omega)
    obtain ⟨h3, h4⟩ := fold_bnd f d hd l M (f z x) h1 (by omega) fun n y hy => h n y (List.mem_cons_of_mem _ hy)
    rw [List.foldl_cons]
    exact ⟨h3, by omega⟩
theorem w64 {x : Int} (h0 : 0 ≤ x) (h1 : x ≤ 1000000) : W64 x = x := wrap_i64 _ (by omega) (by omega)

section
variable {g h : Gm} {r : List Ce} {b : Nat} (hp : Play g r) (t : Tn g h b)
include hp t
theorem Tn.kd_of {A : Ag} (hA : A ∈ h.agents) {K : Kd} (hK : K ∈ A.kinds) : ∃ B ∈ g.agents, ∃ L ∈ B.kinds, SameN K L := by
  obtain ⟨i, hi, rfl⟩ := List.getElem_of_mem hA
  obtain ⟨k, hk, rfl⟩ := List.getElem_of_mem hK
  have hi' : i < g.agents.length := by rw [← t.la]; exact hi
  have hk' : k < g.agents[i].kinds.length := by rw [← t.kn i hi']; exact hk
  have h1 := t.kd i k hi' hk'
  have h2 : tk g b i k < kl g i := tk_lt (by rw [Sh.kl_eq hi']; exact hk')
  have h3 : tk g b i k < g.agents[i].kinds.length := by rw [← Sh.kl_eq hi']; exact h2
  rw [kdAt_eq hi' h3] at h1
  exact ⟨_, List.getElem_mem hi', _, List.getElem_mem h3, h1⟩
theorem Tn.ag_of {A : Ag} (hA : A ∈ h.agents) : ∃ B ∈ g.agents, A.kinds.length = B.kinds.length := by
  obtain ⟨i, hi, rfl⟩ := List.getElem_of_mem hA
  have hi' : i < g.agents.length := by rw [← t.la]; exact hi
  exact ⟨_, List.getElem_mem hi', t.kn i hi'⟩
theorem bigs_le {K : Kd} {A : Ag} (hA : A ∈ g.agents) (hK : K ∈ A.kinds) : K.weight.big ≤ 3 ∧ K.alone.big ≤ 3 ∧ (∀ f ∈ K.worth, f.big ≤ 3) ∧ farK K = false := by
  have hf := hp.far
  unfold far at hf
  simp only [Bool.or_eq_false_iff] at hf
  have h1 : farK K = false := by
    have := List.any_eq_false.1 hf.1.2 A hA
    have := List.any_eq_false.1 (by simpa [farA] using this) K hK
    simpa using this
  have h2 := h1
  unfold farK at h2
  simp only [Bool.or_eq_false_iff, decide_eq_false_iff_not] at h2
  obtain ⟨⟨e1, e2⟩, e3⟩ := h2
  exact ⟨by omega, by omega, fun f hf => by have := wideF_no e3 f hf; omega, h1⟩
theorem Tn.size : sizeOk h = true := by
  obtain ⟨s1, s2, s3, s4, s5⟩ := sizeOk_all hp.good.1
  unfold sizeOk
  simp only [Bool.and_eq_true, decide_eq_true_eq, List.all_eq_true]
  refine ⟨⟨⟨⟨by rw [t.la]; exact s1, by rw [t.lo]; exact s2⟩, by rw [t.needs]; exact Nat.zero_le _⟩, fun A hA => ?_⟩, by rw [t.prodK]; exact s5⟩
  obtain ⟨B, hB, e⟩ := t.ag_of hp hA
  rw [e]; exact s4 B hB
theorem Tn.bey : beyond h = false := by
  obtain ⟨s1, s2, s3, s4, s5⟩ := sizeOk_all (t.size hp)
  have ho : 0 ≤ beyO h ∧ beyO h ≤ 12 := by
    have := fold_bnd (fun (n : Int) (s : ByteArray) => W64 (n + (s.size : Int))) 2 (by decide) h.outs 1000 0 (by decide) (by omega) fun n x hx h0 h1 => by
      have := t.so x hx
      show 0 ≤ W64 (n + (x.size : Int)) ∧ W64 (n + (x.size : Int)) ≤ n + 2
      rw [w64 (by omega) (by omega)]; omega
    unfold beyO
    omega
  have hk : ∀ A ∈ h.agents, ∀ K ∈ A.kinds, ∀ n : Int, 0 ≤ n → n ≤ 10000 → 0 ≤ beyK n K ∧ beyK n K ≤ n + 60 := fun A hA K hK n h0 h1 => by
    obtain ⟨B, hB, L, hL, hs⟩ := t.kd_of hp hA hK
    obtain ⟨b1, b2, b3, -⟩ := bigs_le hp t hB hL
    have hw := (hp.kd hB hL).2
    have ho := (sizeOk_all hp.good.1).2.1
    rw [← hs.w] at b1
    rw [← hs.al] at b2
    rw [← hs.wo] at b3 hw
    have hn := t.sk A hA K hK
    have hb := fold_bnd (fun (n : Int) (f : FR) => W64 (n + (f.big : Int))) 3 (by decide) K.worth 1000 0 (by decide) (by omega) fun n x hx h0 h1 => by
      have := b3 x hx
      show 0 ≤ W64 (n + (x.big : Int)) ∧ W64 (n + (x.big : Int)) ≤ n + 3
      rw [w64 (by omega) (by omega)]; omega
    unfold beyK
    change 0 ≤ bigsW K.worth ∧ bigsW K.worth ≤ _ at hb
    rw [w64 (x := n + (K.name.size : Int)) (by omega) (by omega), w64 (x := n + (K.name.size : Int) + (K.worth.length : Int)) (by omega) (by omega), w64 (x := n + (K.name.size : Int) + (K.worth.length : Int) + (K.weight.big : Int)) (by omega) (by omega), w64 (x := n + (K.name.size : Int) + (K.worth.length : Int) + (K.weight.big : Int) + (K.alone.big : Int)) (by omega) (by omega), w64 (by omega) (by omega)]
    omega
  have ha := fold_bnd beyA 300 (by decide) h.agents 5000 (beyO h) ho.1 (by omega) fun n A hA h0 h1 => by
    have hn := t.sa A hA
    have h4 := s4 A hA
    have hN : beyN n A = n + (A.name.size : Int) + (A.kinds.length : Int) := by
      unfold beyN; rw [w64 (x := n + (A.name.size : Int)) (by omega) (by omega), w64 (by omega) (by omega)]
    have := fold_bnd beyK 60 (by decide) A.kinds 9000 (beyN n A) (by omega) (by omega) fun m K hK g0 g1 => hk A hA K hK m g0 (by omega)
    unfold beyA
    omega
  unfold beyond
  rw [t.needs]
  simp only [Bool.or_eq_false_iff, decide_eq_false_iff_not, List.any_eq_false, decide_eq_true_eq, List.foldl_nil]
  exact ⟨⟨⟨⟨by omega, by omega⟩, by simp⟩, fun A hA => by have := s4 A hA; omega⟩, decide_eq_false (by omega)⟩
theorem Tn.far : far h = false := by
  unfold Sh.far
  rw [t.bey hp, t.needs]
  simp only [Bool.false_or, List.any_nil, Bool.or_false]
  refine List.any_eq_false.2 fun A hA => ?_
  have : farA A = false := List.any_eq_false.2 fun K hK => by
    obtain ⟨B, hB, L, hL, hs⟩ := t.kd_of hp hA hK
    have := (bigs_le hp t hB hL).2.2.2
    unfold farK at this ⊢
    rw [hs.w, hs.al, hs.wo, this]
    decide
  rw [this]; decide
theorem Tn.okG : h.ok := by
  obtain ⟨s1, s2, s3, s4, s5⟩ := sizeOk_all (t.size hp)
  refine ⟨by unfold lenOk; omega, by unfold lenOk; omega, by rw [t.needs]; exact Nat.zero_le _, fun A hA => ⟨by have := t.sa A hA; omega, by have := s4 A hA; unfold lenOk; omega, fun K hK => ?_⟩, fun s hs => by have := t.so s hs; omega, fun n hn => (by rw [t.needs] at hn; cases hn), by rw [t.aim]; exact hp.seen.ok.aim⟩
  obtain ⟨B, hB, L, hL, hs⟩ := t.kd_of hp hA hK
  obtain ⟨k1, k2, k3, k4, k5⟩ := (hp.seen.ok.a B hB).2.2 L hL
  have := t.sk A hA K hK
  exact ⟨by omega, by rw [hs.w]; exact k2, by rw [hs.al]; exact k3, by rw [hs.wo]; exact k4, by rw [hs.wo]; exact k5⟩
theorem Tn.right : RightOk h := by
  have hr := hp.good.2.1
  refine ⟨fun e => hr.ag (List.length_eq_zero_iff.1 (by rw [← t.la, e]; rfl)), fun e => hr.ou (List.length_eq_zero_iff.1 (by rw [← t.lo, e]; rfl)), t.an, t.on, by rw [t.aim]; exact hr.aim, fun A hA => ?_, fun i hi => absurd hi (by rw [t.needs]; exact Nat.not_lt_zero _)⟩
  obtain ⟨B, hB, e⟩ := t.ag_of hp hA
  refine ⟨fun e2 => (hr.all B hB).1 (List.length_eq_zero_iff.1 (by rw [← e, e2]; rfl)), t.kdn A hA, fun K hK => ?_⟩
  obtain ⟨B, hB, L, hL, hs⟩ := t.kd_of hp hA hK
  have := (hr.all B hB).2.2 L hL
  unfold RKd at this ⊢
  rw [hs.w, hs.wo, t.lo]; exact this
theorem turn_mem {c : Ce} (hc : c ∈ turnR g r b) : c ∈ r := by
  obtain ⟨n, hn, rfl⟩ := List.mem_map.1 hc
  have := (tn_lt hp t.hb (List.mem_range.1 hn)).1
  rw [ceAt_eq this]; exact List.getElem_mem _
theorem Tn.play : Play h (turnR g r b) := by
  refine ⟨⟨t.okG hp, t.bey hp, by rw [turnR_len]; exact hp.seen.len, fun c hc => hp.seen.ce c (turn_mem hp t hc)⟩, t.far hp, t.size hp, t.right hp, by rw [turnR_len, t.prodK]; exact hp.good.2.2.1, fun c hc => ?_⟩
  have := hp.good.2.2.2 c (turn_mem hp t hc)
  unfold FitsOk at this ⊢
  rw [t.lo, t.la, t.lots, t.pay]; exact this
end
end Go.Proofs.YtmgaoecfipkjbaaGreat.Sh

/- The turned game: the walk. -/
namespace Go.Proofs.YtmgaoecfipkjbaaGreat.Sh
open Go Go.RowKit

def abc6 : ByteArray := ⟨#[97, 98, 99, 100, 101, 102]⟩
def abc4 : ByteArray := ⟨#[97, 98, 99, 100]⟩
def nO (i : Nat) : ByteArray := ⟨#[111]⟩ ++ abc6.extract i (i + 1)
def nA (i : Nat) : ByteArray := ⟨#[97]⟩ ++ abc4.extract i (i + 1)
def nK (i : Nat) : ByteArray := ⟨#[107]⟩ ++ abc4.extract i (i + 1)
def kdT (g : Gm) (b i k : Nat) : Kd := { kdAt g i (tk g b i k) with name := nK k }
def kdsT (g : Gm) (b i n : Nat) : List Kd := (List.range n).map (kdT g b i)
def agT (g : Gm) (b i : Nat) : Ag := ⟨nA i, kdsT g b i (kl g i)⟩
def agsT (g : Gm) (b n : Nat) : List Ag := (List.range n).map (agT g b)
def outsT (n : Nat) : List ByteArray := (List.range n).map nO
def turnG (g : Gm) (b : Nat) : Gm := { g with agents := agsT g b g.agents.length, outs := outsT g.outs.length, needs := [] }
instance : RowF 2 rowAg := ⟨fun _ => rfl, fun x s h => by simp at h; rcases h with rfl | rfl <;> rfl⟩
instance : RowF 8 rowKd := ⟨fun _ => rfl, fun x s h => by simp at h; rcases h with rfl | rfl | rfl | rfl | rfl | rfl | rfl | rfl <;> rfl⟩
theorem sz6 : ({ data := #[97, 98, 99, 100, 101, 102] } : ByteArray).size = 6 := rfl
theorem sz4 : ({ data := #[97, 98, 99, 100] } : ByteArray).size = 4 := rfl
theorem szo : ({ data := #[111] } : ByteArray).size = 1 := rfl
theorem sza : ({ data := #[97] } : ByteArray).size = 1 := rfl
theorem szk : ({ data := #[107] } : ByteArray).size = 1 := rfl
theorem nO_eq (i : Nat) : ({ data := #[111] } : ByteArray) ++ ({ data := #[97, 98, 99, 100, 101, 102] } : ByteArray).extract i (i + 1) = nO i := rfl
theorem nA_eq (i : Nat) : ({ data := #[97] } : ByteArray) ++ ({ data := #[97, 98, 99, 100] } : ByteArray).extract i (i + 1) = nA i := rfl
theorem nK_eq (i : Nat) : ({ data := #[107] } : ByteArray) ++ ({ data := #[97, 98, 99, 100] } : ByteArray).extract i (i + 1) = nK i := rfl
theorem outsT_snoc (n : Nat) : outsT (n + 1) = outsT n ++ [nO n] := by simp [outsT, List.range_succ]
theorem agsT_snoc (g : Gm) (b n : Nat) : agsT g b (n + 1) = agsT g b n ++ [agT g b n] := by simp [agsT, List.range_succ]
theorem kdsT_snoc (g : Gm) (b i n : Nat) : kdsT g b i (n + 1) = kdsT g b i n ++ [kdT g b i n] := by simp [kdsT, List.range_succ]
theorem outsT_len (n : Nat) : (outsT n).length = n := by simp [outsT]
theorem agsT_len (g : Gm) (b n : Nat) : (agsT g b n).length = n := by simp [agsT]
theorem kdsT_len (g : Gm) (b i n : Nat) : (kdsT g b i n).length = n := by simp [kdsT]

set_option maxRecDepth 20000 in
set_option maxHeartbeats 1000000 in
theorem turned_s (g : Gm) (h : Fine g) (b : Nat) (hb : b < g.agents.length) : CallsS Tryz.prog 30 [gmS g, .one (.int .i64 (b : Int))] (.v (gmS (turnG g b))) := by
  obtain ⟨q1, q2, -, q4, q5⟩ := sizeOk_all h.sz
  refine calls Tryz.func30 rfl (by rfl) (by rfl) (by kernel_rfl) ?_
  simp -dsimp -implicitDefEqProofs [Tryz.f30]
  have ho0' : ¬ g.outs = [] := h.right.ou
  have ho0 : ¬ g.outs.length = 0 := fun e => ho0' (List.length_eq_zero_iff.1 e)
  have hg0' : ¬ g.agents = [] := h.right.ag
  have hg0 : ¬ g.agents.length = 0 := fun e => hg0' (List.length_eq_zero_iff.1 e)
  have hout := outsT_len g.outs.length
  refine sw_cut (fun y : Nat => SS.of [(1, I .i64 b), (2, .v (.one (.mp 0 0))), (4, .v (.one (.mp 1 0))), (5, .v (.one (.mp 2 0)))] [(0, ⟨26, rowGm g⟩), (1, ⟨26, [.nils, .nils, .bool false, .bool false, .int .i64 0, .nils]⟩), (2, ⟨26, [.nils, strsS (outsT g.outs.length), .bool g.pay, .bool g.lots, .int .i64 g.aim, .nils]⟩)] (y + 4)) ?_ ?_
  · refine sw_loop_e (fun p : {p : Nat × Nat // p.1 ≤ g.outs.length} => SS.of [(1, I .i64 b), (2, .v (.one (.mp 0 0))), (4, .v (.one (.mp 1 0))), (5, .v (.one (.mp 2 0))), (6, I .i64 p.1.1)] ((0, ⟨26, rowGm g⟩) :: (1, ⟨26, [.nils, .nils, .bool false, .bool false, .int .i64 0, .nils]⟩) :: (2, ⟨26, [.nils, if p.1.1 = 0 then .nils else .ms (p.1.2 + 3) 0 p.1.1 1 true, .bool g.pay, .bool g.lots, .int .i64 g.aim, .nils]⟩) :: if p.1.1 = 0 then [] else [(p.1.2 + 3, ⟨9, flat rowStr (outsT p.1.1)⟩)]) (p.1.2 + 4))
      (fun p => g.outs.length - p.1.1) ⟨(0, 0), Nat.zero_le _⟩ (by kernel_rfl) (Le.to (by simp) (by simp) (by simp)) ?_
    rintro ⟨⟨i, c⟩, hi⟩
    simp only at hi
    by_cases a1 : i < g.outs.length
    · have wi : IntKind.i64.wrap ((i : Int) + 1) = ((i + 1 : Nat) : Int) := by rw [wrap_i64 _ (by omega) (by omega)]; rfl
      have hfl := flat_snoc (f := rowStr) (nO i) (outsT i)
      rw [← outsT_snoc] at hfl
      have hol := outsT_len i
      have hnm := nO_eq i
      by_cases i0 : i = 0
      · subst i0
        simp -dsimp -implicitDefEqProofs [a1, i64_1, slots, sz6, szo] at hnm ⊢
        exact Again.by ⟨(1, c + 2), a1⟩ (Le.to (by simp) (by simp [outsT, hnm, flat]) (by simp)) (by simp; omega)
      · simp -dsimp -implicitDefEqProofs [a1, i0, wi, slots, sz6, szo, hnm, hol]
        refine ⟨⟨by omega, by omega⟩, by omega, ⟨by omega, by omega⟩, ?_⟩
        exact Again.by ⟨(i + 1, c + 2), a1⟩ (Le.to (by simp) (by simp [hfl]) (by simp)) (by simp; omega)
    have hi2 : i = g.outs.length := by omega
    subst hi2
    simp -dsimp -implicitDefEqProofs [ho0']
    exact Cut.by c (Le.fzF [c + 3] (Le.to (by simp [hout, rowsOf_flat]) (by simp [hout]) (by simp)))
  intro y
  simp -dsimp -implicitDefEqProofs
  refine sw_loop_e (fun p : {p : Nat × Nat // p.1 ≤ g.agents.length} => SS.of [(1, I .i64 b), (2, .v (.one (.mp 0 0))), (4, .v (.one (.mp 1 0))), (5, .v (.one (.mp 2 0))), (7, I .i64 p.1.1)] ((0, ⟨26, rowGm g⟩) :: (1, ⟨26, [.nils, .nils, .bool false, .bool false, .int .i64 0, .nils]⟩) :: (2, ⟨26, [if p.1.1 = 0 then .nils else .ms (p.1.2 + 3) 0 p.1.1 2 true, strsS (outsT g.outs.length), .bool g.pay, .bool g.lots, .int .i64 g.aim, .nils]⟩) :: if p.1.1 = 0 then [] else [(p.1.2 + 3, ⟨58, flat rowAg (agsT g b p.1.1)⟩)]) (p.1.2 + 4))
    (fun p => g.agents.length - p.1.1) ⟨(0, y), Nat.zero_le _⟩ (by kernel_rfl) (Le.to (by simp) (by simp) (by simp)) ?_
  rintro ⟨⟨i, c⟩, hi⟩
  simp only at hi
  have hal := agsT_len g b i
  by_cases a1 : i < g.agents.length
  · have wi : IntKind.i64.wrap ((i : Int) + 1) = ((i + 1 : Nat) : Int) := by rw [wrap_i64 _ (by omega) (by omega)]; rfl
    have hfl := flat_snoc (f := rowAg) (agT g b i) (agsT g b i)
    rw [← agsT_snoc] at hfl
    have hnm := nA_eq i
    have hkl := kl_eq a1
    have hk4 := q4 _ (List.getElem_mem a1)
    have hkp := h.kinds_pos _ (List.getElem_mem a1)
    by_cases i0 : i = 0
    · have hif : ∀ {α : Type} (x y : α), (if i = 0 then x else y) = x := fun x y => if_pos i0
      simp -dsimp -implicitDefEqProofs [a1, hif, sz4, sza, hnm, wi]
      refine ⟨⟨by omega, by omega⟩, by omega, ?_⟩
      refine sw_cut (fun z : Nat => SS.of [(1, I .i64 b), (2, .v (.one (.mp 0 0))), (4, .v (.one (.mp 1 0))), (5, .v (.one (.mp 2 0))), (7, I .i64 i), (8, .v (.one (.mp (c + 4) 0)))] ((0, ⟨26, rowGm g⟩) :: (1, ⟨26, [.nils, .nils, .bool false, .bool false, .int .i64 0, .nils]⟩) :: (2, ⟨26, [.nils, strsS (outsT g.outs.length), .bool g.pay, .bool g.lots, .int .i64 g.aim, .nils]⟩) :: (c + 4, ⟨58, [.str (nA i), kdsS (kdsT g b i (kl g i))]⟩) :: []) (c + z + 5)) ?_ ?_
      · refine sw_loop_e (fun p : {p : Nat × Nat // p.1 ≤ kl g i} => SS.of [(1, I .i64 b), (2, .v (.one (.mp 0 0))), (4, .v (.one (.mp 1 0))), (5, .v (.one (.mp 2 0))), (7, I .i64 i), (8, .v (.one (.mp (c + 4) 0))), (9, I .i64 (kl g i)), (10, I .i64 p.1.1)] ((0, ⟨26, rowGm g⟩) :: (1, ⟨26, [.nils, .nils, .bool false, .bool false, .int .i64 0, .nils]⟩) :: (2, ⟨26, [.nils, strsS (outsT g.outs.length), .bool g.pay, .bool g.lots, .int .i64 g.aim, .nils]⟩) :: (c + 4, ⟨58, [.str (nA i), if p.1.1 = 0 then .nils else .ms (c + p.1.2 + 5) 0 p.1.1 8 true]⟩) :: if p.1.1 = 0 then [] else [(c + p.1.2 + 5, ⟨117, flat rowKd (kdsT g b i p.1.1)⟩)]) (c + p.1.2 + 6))
          (fun p => kl g i - p.1.1) ⟨(0, 0), Nat.zero_le _⟩ (by kernel_rfl) (Le.to (by simp [hkl]) (by simp) (by simp)) ?_
        rintro ⟨⟨k, d⟩, hk⟩
        simp only at hk
        have f1 : ¬ c + d + 1 = c := by omega
        have f2 : ¬ c + d + 2 = c := by omega
        have f3 : ¬ c + d + 3 = c := by omega
        have f4 : ¬ c + d + 4 = c := by omega
        have f5 : ¬ c + d + 5 = c := by omega
        have f1' : ¬ c = c + d + 1 := by omega
        have f2' : ¬ c = c + d + 2 := by omega
        have f3' : ¬ c = c + d + 3 := by omega
        have f4' : ¬ c = c + d + 4 := by omega
        have f5' : ¬ c = c + d + 5 := by omega
        have hkll := kdsT_len g b i k
        by_cases a2 : k < g.agents[i].kinds.length
        · have a3 : k < kl g i := by omega
          have wk : IntKind.i64.wrap ((k : Int) + 1) = ((k + 1 : Nat) : Int) := by rw [wrap_i64 _ (by omega) (by omega)]; rfl
          have hkf := flat_snoc (f := rowKd) (kdT g b i k) (kdsT g b i k)
          rw [← kdsT_snoc] at hkf
          have hnk := nK_eq k
          have hidx : IntKind.i64.wrap (IntKind.i64.wrap ((kl g i : Int) - 1) - (k : Int)) = ((g.agents[i].kinds.length - 1 - k : Nat) : Int) := by
            rw [wrap_i64 ((kl g i : Int) - 1) (by omega) (by omega), wrap_i64 _ (by omega) (by omega)]; omega
          have hix : g.agents[i].kinds.length - 1 - k < g.agents[i].kinds.length := by omega
          have hto : kdAt g i (tk g b i k) = if i = b then g.agents[i].kinds[g.agents[i].kinds.length - 1 - k] else g.agents[i].kinds[k] := by
            unfold tk
            by_cases c : i = b
            · rw [if_pos c, if_pos c, hkl]; exact kdAt_eq a1 hix
            · rw [if_neg c, if_neg c]; exact kdAt_eq a1 a2
          by_cases cb : i = b
          · rw [if_pos cb] at hto
            subst cb
            have cb' : (i : Int) = (i : Int) := rfl
            by_cases k0 : k = 0
            · have hifk : ∀ {α : Type} (x y : α), (if k = 0 then x else y) = x := fun x y => if_pos k0
              have hke : kdsT g i i k = [] := by rw [k0]; rfl
              rw [hke, flat_nil, List.nil_append] at hkf
              simp -dsimp -implicitDefEqProofs [a1, a2, a3, cb', hifk, hidx, hix, hnk, sz4, szk, slots, wk, hkll, f1, f2, f3, f4, f5, f1', f2', f3', f4', f5']
              refine ⟨⟨by omega, by omega⟩, by omega, ?_⟩
              exact Again.by ⟨(k + 1, d + 3), by omega⟩ (Le.to (by simp) (by simp only [if_neg (show ¬ k + 1 = 0 by omega)]; simp [hkf, kdT, hto, ← Nat.add_assoc, f1, f2, f3, f4, f5, f1', f2', f3', f4', f5']; exact k0) (by simp; omega)) (by simp; omega)
            · have hifk : ∀ {α : Type} (x y : α), (if k = 0 then x else y) = y := fun x y => if_neg k0
              simp -dsimp -implicitDefEqProofs [a1, a2, a3, cb', hifk, hidx, hix, hnk, sz4, szk, slots, wk, hkll, f1, f2, f3, f4, f5, f1', f2', f3', f4', f5']
              refine ⟨⟨by omega, by omega⟩, by omega, ⟨by omega, by omega⟩, ?_⟩
              exact Again.by ⟨(k + 1, d + 3), by omega⟩ (Le.to (by simp) (by simp only [if_neg (show ¬ k + 1 = 0 by omega)]; simp [hkf, kdT, hto, ← Nat.add_assoc, f1, f2, f3, f4, f5, f1', f2', f3', f4', f5']) (by simp; omega)) (by simp; omega)
          · have cb' : ¬ (i : Int) = (b : Int) := by omega
            rw [if_neg cb] at hto
            by_cases k0 : k = 0
            · have hifk : ∀ {α : Type} (x y : α), (if k = 0 then x else y) = x := fun x y => if_pos k0
              have hke : kdsT g b i k = [] := by rw [k0]; rfl
              rw [hke, flat_nil, List.nil_append] at hkf
              simp -dsimp -implicitDefEqProofs [a1, a2, a3, cb', hifk, hidx, hix, hnk, sz4, szk, slots, wk, hkll, f1, f2, f3, f4, f5, f1', f2', f3', f4', f5']
              refine ⟨⟨by omega, by omega⟩, by omega, ?_⟩
              exact Again.by ⟨(k + 1, d + 3), by omega⟩ (Le.to (by simp) (by simp only [if_neg (show ¬ k + 1 = 0 by omega)]; simp [hkf, kdT, hto, ← Nat.add_assoc, f1, f2, f3, f4, f5, f1', f2', f3', f4', f5']; exact k0) (by simp; omega)) (by simp; omega)
            · have hifk : ∀ {α : Type} (x y : α), (if k = 0 then x else y) = y := fun x y => if_neg k0
              simp -dsimp -implicitDefEqProofs [a1, a2, a3, cb', hifk, hidx, hix, hnk, sz4, szk, slots, wk, hkll, f1, f2, f3, f4, f5, f1', f2', f3', f4', f5']
              refine ⟨⟨by omega, by omega⟩, by omega, ⟨by omega, by omega⟩, ?_⟩
              exact Again.by ⟨(k + 1, d + 3), by omega⟩ (Le.to (by simp) (by simp only [if_neg (show ¬ k + 1 = 0 by omega)]; simp [hkf, kdT, hto, ← Nat.add_assoc, f1, f2, f3, f4, f5, f1', f2', f3', f4', f5']) (by simp; omega)) (by simp; omega)
        have hk2 : k = kl g i := by omega
        subst hk2
        have hk0 : ¬ kl g i = 0 := by omega
        simp -dsimp -implicitDefEqProofs [hk0, f1, f1', f2, f2']
        exact Cut.by (d + 1) (Le.fzF [c + d + 5] (Le.to (by simp [f1, f2, f3, f4, f5, f1', f2', f3', f4', f5']) (by simp [hkll, f1, f2, f3, f4, f5, f1', f2', f3', f4', f5']) (by simp [f1, f2, f3, f4, f5, f1', f2', f3', f4', f5']; omega)))
      intro z
      have f1 : ¬ c + z + 1 = c := by omega
      have f2 : ¬ c + z + 2 = c := by omega
      have f3 : ¬ c + z + 3 = c := by omega
      have f1' : ¬ c = c + z + 1 := by omega
      have f2' : ¬ c = c + z + 2 := by omega
      have f3' : ¬ c = c + z + 3 := by omega
      simp -dsimp -implicitDefEqProofs [slots, hal, f1, f2, f3, f1', f2', f3', wi]
      have hae : agsT g b i = [] := by rw [i0]; rfl
      rw [hae, flat_nil, List.nil_append] at hfl
      exact Again.by ⟨(i + 1, c + z + 3), a1⟩ (Le.to (by simp) (by simp only [if_neg (show ¬ i + 1 = 0 by omega)]; simp [hfl, agT, ← Nat.add_assoc, f1, f2, f3, f1', f2', f3']; exact i0) (by simp <;> omega)) (by simp; omega)
    · have hif : ∀ {α : Type} (x y : α), (if i = 0 then x else y) = y := fun x y => if_neg i0
      simp -dsimp -implicitDefEqProofs [a1, hif, sz4, sza, hnm, wi]
      refine ⟨⟨by omega, by omega⟩, by omega, ?_⟩
      refine sw_cut (fun z : Nat => SS.of [(1, I .i64 b), (2, .v (.one (.mp 0 0))), (4, .v (.one (.mp 1 0))), (5, .v (.one (.mp 2 0))), (7, I .i64 i), (8, .v (.one (.mp (c + 4) 0)))] ((0, ⟨26, rowGm g⟩) :: (1, ⟨26, [.nils, .nils, .bool false, .bool false, .int .i64 0, .nils]⟩) :: (2, ⟨26, [.ms (c + 3) 0 i 2 true, strsS (outsT g.outs.length), .bool g.pay, .bool g.lots, .int .i64 g.aim, .nils]⟩) :: (c + 3, ⟨58, flat rowAg (agsT g b i)⟩) :: (c + 4, ⟨58, [.str (nA i), kdsS (kdsT g b i (kl g i))]⟩) :: []) (c + z + 5)) ?_ ?_
      · refine sw_loop_e (fun p : {p : Nat × Nat // p.1 ≤ kl g i} => SS.of [(1, I .i64 b), (2, .v (.one (.mp 0 0))), (4, .v (.one (.mp 1 0))), (5, .v (.one (.mp 2 0))), (7, I .i64 i), (8, .v (.one (.mp (c + 4) 0))), (9, I .i64 (kl g i)), (10, I .i64 p.1.1)] ((0, ⟨26, rowGm g⟩) :: (1, ⟨26, [.nils, .nils, .bool false, .bool false, .int .i64 0, .nils]⟩) :: (2, ⟨26, [.ms (c + 3) 0 i 2 true, strsS (outsT g.outs.length), .bool g.pay, .bool g.lots, .int .i64 g.aim, .nils]⟩) :: (c + 3, ⟨58, flat rowAg (agsT g b i)⟩) :: (c + 4, ⟨58, [.str (nA i), if p.1.1 = 0 then .nils else .ms (c + p.1.2 + 5) 0 p.1.1 8 true]⟩) :: if p.1.1 = 0 then [] else [(c + p.1.2 + 5, ⟨117, flat rowKd (kdsT g b i p.1.1)⟩)]) (c + p.1.2 + 6))
          (fun p => kl g i - p.1.1) ⟨(0, 0), Nat.zero_le _⟩ (by kernel_rfl) (Le.to (by simp [hkl]) (by simp) (by simp)) ?_
        rintro ⟨⟨k, d⟩, hk⟩
        simp only at hk
        have f1 : ¬ c + d + 1 = c := by omega
        have f2 : ¬ c + d + 2 = c := by omega
        have f3 : ¬ c + d + 3 = c := by omega
        have f4 : ¬ c + d + 4 = c := by omega
        have f5 : ¬ c + d + 5 = c := by omega
        have f1' : ¬ c = c + d + 1 := by omega
        have f2' : ¬ c = c + d + 2 := by omega
        have f3' : ¬ c = c + d + 3 := by omega
        have f4' : ¬ c = c + d + 4 := by omega
        have f5' : ¬ c = c + d + 5 := by omega
        have hkll := kdsT_len g b i k
        by_cases a2 : k < g.agents[i].kinds.length
        · have a3 : k < kl g i := by omega
          have wk : IntKind.i64.wrap ((k : Int) + 1) = ((k + 1 : Nat) : Int) := by rw [wrap_i64 _ (by omega) (by omega)]; rfl
          have hkf := flat_snoc (f := rowKd) (kdT g b i k) (kdsT g b i k)
          rw [← kdsT_snoc] at hkf
          have hnk := nK_eq k
          have hidx : IntKind.i64.wrap (IntKind.i64.wrap ((kl g i : Int) - 1) - (k : Int)) = ((g.agents[i].kinds.length - 1 - k : Nat) : Int) := by
            rw [wrap_i64 ((kl g i : Int) - 1) (by omega) (by omega), wrap_i64 _ (by omega) (by omega)]; omega
          have hix : g.agents[i].kinds.length - 1 - k < g.agents[i].kinds.length := by omega
          have hto : kdAt g i (tk g b i k) = if i = b then g.agents[i].kinds[g.agents[i].kinds.length - 1 - k] else g.agents[i].kinds[k] := by
            unfold tk
            by_cases c : i = b
            · rw [if_pos c, if_pos c, hkl]; exact kdAt_eq a1 hix
            · rw [if_neg c, if_neg c]; exact kdAt_eq a1 a2
          by_cases cb : i = b
          · rw [if_pos cb] at hto
            subst cb
            have cb' : (i : Int) = (i : Int) := rfl
            by_cases k0 : k = 0
            · have hifk : ∀ {α : Type} (x y : α), (if k = 0 then x else y) = x := fun x y => if_pos k0
              have hke : kdsT g i i k = [] := by rw [k0]; rfl
              rw [hke, flat_nil, List.nil_append] at hkf
              simp -dsimp -implicitDefEqProofs [a1, a2, a3, cb', hifk, hidx, hix, hnk, sz4, szk, slots, wk, hkll, f1, f2, f3, f4, f5, f1', f2', f3', f4', f5']
              refine ⟨⟨by omega, by omega⟩, by omega, ?_⟩
              exact Again.by ⟨(k + 1, d + 3), by omega⟩ (Le.to (by simp) (by simp only [if_neg (show ¬ k + 1 = 0 by omega)]; simp [hkf, kdT, hto, ← Nat.add_assoc, f1, f2, f3, f4, f5, f1', f2', f3', f4', f5']; exact k0) (by simp; omega)) (by simp; omega)
            · have hifk : ∀ {α : Type} (x y : α), (if k = 0 then x else y) = y := fun x y => if_neg k0
              simp -dsimp -implicitDefEqProofs [a1, a2, a3, cb', hifk, hidx, hix, hnk, sz4, szk, slots, wk, hkll, f1, f2, f3, f4, f5, f1', f2', f3', f4', f5']
              refine ⟨⟨by omega, by omega⟩, by omega, ⟨by omega, by omega⟩, ?_⟩
              exact Again.by ⟨(k + 1, d + 3), by omega⟩ (Le.to (by simp) (by simp only [if_neg (show ¬ k + 1 = 0 by omega)]; simp [hkf, kdT, hto, ← Nat.add_assoc, f1, f2, f3, f4, f5, f1', f2', f3', f4', f5']) (by simp; omega)) (by simp; omega)
          · have cb' : ¬ (i : Int) = (b : Int) := by omega
            rw [if_neg cb] at hto
            by_cases k0 : k = 0
            · have hifk : ∀ {α : Type} (x y : α), (if k = 0 then x else y) = x := fun x y => if_pos k0
              have hke : kdsT g b i k = [] := by rw [k0]; rfl
              rw [hke, flat_nil, List.nil_append] at hkf
              simp -dsimp -implicitDefEqProofs [a1, a2, a3, cb', hifk, hidx, hix, hnk, sz4, szk, slots, wk, hkll, f1, f2, f3, f4, f5, f1', f2', f3', f4', f5']
              refine ⟨⟨by omega, by omega⟩, by omega, ?_⟩
              exact Again.by ⟨(k + 1, d + 3), by omega⟩ (Le.to (by simp) (by simp only [if_neg (show ¬ k + 1 = 0 by omega)]; simp [hkf, kdT, hto, ← Nat.add_assoc, f1, f2, f3, f4, f5, f1', f2', f3', f4', f5']; exact k0) (by simp; omega)) (by simp; omega)
            · have hifk : ∀ {α : Type} (x y : α), (if k = 0 then x else y) = y := fun x y => if_neg k0
              simp -dsimp -implicitDefEqProofs [a1, a2, a3, cb', hifk, hidx, hix, hnk, sz4, szk, slots, wk, hkll, f1, f2, f3, f4, f5, f1', f2', f3', f4', f5']
              refine ⟨⟨by omega, by omega⟩, by omega, ⟨by omega, by omega⟩, ?_⟩
              exact Again.by ⟨(k + 1, d + 3), by omega⟩ (Le.to (by simp) (by simp only [if_neg (show ¬ k + 1 = 0 by omega)]; simp [hkf, kdT, hto, ← Nat.add_assoc, f1, f2, f3, f4, f5, f1', f2', f3', f4', f5']) (by simp; omega)) (by simp; omega)
        have hk2 : k = kl g i := by omega
        subst hk2
        have hk0 : ¬ kl g i = 0 := by omega
        simp -dsimp -implicitDefEqProofs [hk0, f1, f1', f2, f2']
        exact Cut.by (d + 1) (Le.fzF [c + d + 5] (Le.to (by simp [f1, f2, f3, f4, f5, f1', f2', f3', f4', f5']) (by simp [hkll, f1, f2, f3, f4, f5, f1', f2', f3', f4', f5']) (by simp [f1, f2, f3, f4, f5, f1', f2', f3', f4', f5']; omega)))
      intro z
      have f1 : ¬ c + z + 1 = c := by omega
      have f2 : ¬ c + z + 2 = c := by omega
      have f3 : ¬ c + z + 3 = c := by omega
      have f1' : ¬ c = c + z + 1 := by omega
      have f2' : ¬ c = c + z + 2 := by omega
      have f3' : ¬ c = c + z + 3 := by omega
      simp -dsimp -implicitDefEqProofs [slots, hal, f1, f2, f3, f1', f2', f3', wi]
      refine ⟨⟨by omega, by omega⟩, ?_⟩
      exact Again.by ⟨(i + 1, c + z + 3), a1⟩ (Le.to (by simp) (by simp only [if_neg (show ¬ i + 1 = 0 by omega)]; simp [hfl, agT, ← Nat.add_assoc, f1, f2, f3, f1', f2', f3']) (by simp <;> omega)) (by simp; omega)
  have hi2 : i = g.agents.length := by omega
  subst hi2
  simp -dsimp -implicitDefEqProofs [hg0', hal, turnG]
end Go.Proofs.YtmgaoecfipkjbaaGreat.Sh

/- The turned game is one in which an agent's kinds stand the other way about. No program in sight. -/
namespace Go.Proofs.YtmgaoecfipkjbaaGreat.Sh
open Go Go.RowKit

theorem namesO : ∀ n, n < 7 → NamesOk ((List.range n).map nO) := by unfold NamesOk; decide +kernel
theorem namesA : ∀ n, n < 5 → NamesOk ((List.range n).map nA) := by unfold NamesOk; decide +kernel
theorem namesK : ∀ n, n < 5 → NamesOk ((List.range n).map nK) := by unfold NamesOk; decide +kernel
theorem sizesO : ∀ n, n < 7 → (nO n).size ≤ 2 := by decide +kernel
theorem sizesA : ∀ n, n < 5 → (nA n).size ≤ 2 := by decide +kernel
theorem sizesK : ∀ n, n < 5 → (nK n).size ≤ 2 := by decide +kernel

theorem turn_tn {g : Gm} (h : Fine g) {b : Nat} (hb : b < g.agents.length) : Tn g (turnG g b) b := by
  obtain ⟨q1, q2, -, q4, q5⟩ := sizeOk_all h.sz
  have hkl : ∀ i, i < g.agents.length → kl g i ≤ 4 := fun i hi => by rw [kl_eq hi]; exact q4 _ (List.getElem_mem hi)
  have hA : ∀ A ∈ (turnG g b).agents, ∃ i, i < g.agents.length ∧ A = agT g b i := fun A hA => by
    obtain ⟨i, hi, rfl⟩ := List.mem_map.1 hA
    exact ⟨i, List.mem_range.1 hi, rfl⟩
  refine ⟨hb, agsT_len .., outsT_len _, rfl, rfl, rfl, rfl, fun i hi => ?_, fun i k hi hk => ?_, namesO _ (by omega), ?_, fun A hA' => ?_, fun s hs => ?_, fun A hA' => ?_, fun A hA' K hK => ?_⟩
  · show ((agsT g b g.agents.length)[i]'(by rw [agsT_len]; exact hi)).kinds.length = _
    simp only [agsT, List.getElem_map, List.getElem_range, agT, kdsT_len, kl_eq hi]
  · have e : ((turnG g b).agents[i]'(by show i < (agsT g b g.agents.length).length; rw [agsT_len]; exact hi)) = agT g b i := by
      show (agsT g b g.agents.length)[i]'(by rw [agsT_len]; exact hi) = _
      simp only [agsT, List.getElem_map, List.getElem_range]
    have e2 : ((agT g b i).kinds[k]'(by show k < (kdsT g b i (kl g i)).length; rw [kdsT_len, kl_eq hi]; exact hk)) = kdT g b i k := by
      show (kdsT g b i (kl g i))[k]'(by rw [kdsT_len, kl_eq hi]; exact hk) = _
      simp only [kdsT, List.getElem_map, List.getElem_range]
    simp only [e, e2]
    exact ⟨rfl, rfl, rfl⟩
  · show NamesOk ((agsT g b g.agents.length).map Ag.name)
    rw [agsT, List.map_map]
    exact namesA _ (by omega)
  · obtain ⟨i, hi, rfl⟩ := hA A hA'
    show NamesOk ((kdsT g b i (kl g i)).map Kd.name)
    rw [kdsT, List.map_map]
    exact namesK _ (by have := hkl i hi; omega)
  · obtain ⟨i, hi, rfl⟩ := List.mem_map.1 hs
    have := List.mem_range.1 hi
    exact sizesO i (by omega)
  · obtain ⟨i, hi, rfl⟩ := hA A hA'
    exact sizesA i (by omega)
  · obtain ⟨i, hi, rfl⟩ := hA A hA'
    obtain ⟨k, hk, rfl⟩ := List.mem_map.1 hK
    have := List.mem_range.1 hk
    exact sizesK k (by have := hkl i hi; omega)
end Go.Proofs.YtmgaoecfipkjbaaGreat.Sh

/- The law of names. -/
namespace Go.Proofs.YtmgaoecfipkjbaaGreat.Sh
open Go Go.RowKit

instance : RowF 2 rowCe := ⟨fun _ => rfl, fun x s h => by simp at h; rcases h with rfl | rfl <;> rfl⟩
def turnTo (g : Gm) (r : List Ce) (b n : Nat) : List Ce := (List.range n).map fun n => ceAt r (tn g b n)
theorem turnTo_len (g : Gm) (r : List Ce) (b n : Nat) : (turnTo g r b n).length = n := by simp [turnTo]
theorem turnTo_snoc (g : Gm) (r : List Ce) (b n : Nat) : turnTo g r b (n + 1) = turnTo g r b n ++ [ceAt r (tn g b n)] := by simp [turnTo, List.range_succ]
theorem gains_get (g : Gm) (r : List Ce) (i : Nat) (hi : i < (gainsL g r).length) : (gainsL g r)[i] = bestN g r i r.length := by simp [gainsL]

theorem aimQ_szN {g : Gm} {r : List Ce} (h : Play g r) : sz (aimQ g r) ≤ 4096 := by
  unfold aimQ
  split
  · have := (mst_mem ltQ _ _ (uses_some h)).resolve_right (by simp)
    exact (cap_mz (by have := mem_uses h this; omega)).2
  · exact aimTo_sz g r _

set_option maxRecDepth 20000 in
set_option maxHeartbeats 1000000 in
theorem lawNames_s (g : Gm) (r : List Ce) (b : Int) (hg : g.ok) (hl : lenOk r) (hr : ∀ c ∈ r, c.ok) : CallsS Tryz.prog 6 [gmS g, ruS r, .one (.int .i64 b)] (B true) := by
  refine calls Tryz.func6 rfl (by rfl) (by rfl) (by kernel_rfl) ?_
  simp -dsimp -implicitDefEqProofs [Tryz.f6]
  refine eCall.of (bey4_s g r hg hl hr) (by simp) ?_
  cases h1 : far g with
  | true => simp -dsimp -implicitDefEqProofs
  | false =>
  cases h2 : beyondRule r with
  | true => simp -dsimp -implicitDefEqProofs
  | false =>
  have hs := seen_of hg hr h1 h2
  obtain ⟨e, he, e0⟩ := isGood_of g r
  simp -dsimp -implicitDefEqProofs
  refine eCall.of (rightR4_s g r hs e he) (by simp) ?_
  by_cases hgd : Good g r
  case neg =>
    have h0 : ¬ e = 0 := fun h => hgd (e0.1 h)
    simp -dsimp -implicitDefEqProofs [h0]
  obtain rfl : e = 0 := e0.2 hgd
  by_cases b0 : b < 0
  · simp -dsimp -implicitDefEqProofs [b0]
  by_cases b1 : (g.agents.length : Int) ≤ b
  · simp -dsimp -implicitDefEqProofs [b0, b1]
  obtain ⟨a, rfl⟩ : ∃ a : Nat, b = a := ⟨b.toNat, by omega⟩
  have hb : a < g.agents.length := by omega
  have b1' : ¬ g.agents.length ≤ a := by omega
  have hp : Play g r := ⟨hs, h1, hgd⟩
  have hf := hp.fine
  obtain ⟨q1, q2, -, q4, q5⟩ := sizeOk_all hf.sz
  have hrl := hp.good.2.2.1
  have t := turn_tn hf hb
  have hq := t.play hp
  have hkb := kl_eq hb
  have hk4 := q4 _ (List.getElem_mem hb)
  have hkp := hf.kinds_pos _ (List.getElem_mem hb)
  have hrp : ¬ r.length = 0 := fun e => by
    have := prod_pos (l := g.agents) (fun a ha => (hp.good.2.1.all a ha).1) g.agents.length (Nat.le_refl _)
    rw [List.take_length, ← hrl] at this
    omega
  simp -dsimp -implicitDefEqProofs [b1']
  refine eCall.of (turned_s g hf a hb) (by simp) ?_
  simp -dsimp -implicitDefEqProofs
  refine sw_cut (fun y : Nat => SS.of [(3, .v (.one (.mp 0 0))), (4, .v (.one (.mp 1 0))), (7, .v (.one (.mp 2 0))), (8, .v (.one (.mp 3 0)))] [(0, ⟨26, rowGm g⟩), (1, ⟨29, [cesS r]⟩), (2, ⟨26, rowGm (turnG g a)⟩), (3, ⟨29, [cesS (turnR g r a)]⟩)] (y + 5)) ?_ ?_
  · refine sw_loop_e (fun p : {p : Nat × Nat // p.1 ≤ r.length} => SS.of [(2, I .i64 a), (3, .v (.one (.mp 0 0))), (4, .v (.one (.mp 1 0))), (7, .v (.one (.mp 2 0))), (8, .v (.one (.mp 3 0))), (9, I .i64 p.1.1)] ((0, ⟨26, rowGm g⟩) :: (1, ⟨29, [cesS r]⟩) :: (2, ⟨26, rowGm (turnG g a)⟩) :: (3, ⟨29, [if p.1.1 = 0 then .nils else .ms (p.1.2 + 4) 0 p.1.1 2 true]⟩) :: if p.1.1 = 0 then [] else [(p.1.2 + 4, ⟨60, flat rowCe (turnTo g r a p.1.1)⟩)]) (p.1.2 + 5))
      (fun p => r.length - p.1.1) ⟨(0, 0), Nat.zero_le _⟩ (by kernel_rfl) (Le.to (by simp) (by simp) (by simp)) ?_
    rintro ⟨⟨n, c⟩, hn⟩
    simp only at hn
    have htl := turnTo_len g r a n
    by_cases a1 : n < r.length
    · have wn : IntKind.i64.wrap ((n : Int) + 1) = ((n + 1 : Nat) : Int) := by rw [wrap_i64 _ (by omega) (by omega)]; rfl
      have hsp : Spot g r a n := ⟨hp, hb, a1⟩
      obtain ⟨k1, k2⟩ := hsp.kof
      have hal := atG_length g n
      have al : a < (atG g n).length := by omega
      have k1' : (atG g n)[a] = (kOf g n a : Int) := by rw [List.getElem?_eq_getElem al] at k1; exact Option.some.inj k1
      obtain ⟨n1, n2, n3⟩ := tn_lt hp hb a1
      have hat := at_s (turnG g a) hq.fine n (by omega)
      rw [t.at] at hat
      have hpr := tp_ok hp hb hsp.prof
      have hwh := where_s g hf _ hpr
      rw [← n3] at hwh
      have hpu := putR_s (atG g n) a ((kl g a : Int) - 1 - (kOf g n a : Int)) (by omega)
      rw [show putP (atG g n) a ((kl g a : Int) - 1 - (kOf g n a : Int)) = tp g a (atG g n) by unfold tp; rw [k1]; rfl] at hpu
      have w1 : IntKind.i64.wrap (IntKind.i64.wrap ((g.agents[a].kinds.length : Int) - 1) - (kOf g n a : Int)) = (kl g a : Int) - 1 - (kOf g n a : Int) := by
        rw [wrap_i64 ((g.agents[a].kinds.length : Int) - 1) (by omega) (by omega), wrap_i64 _ (by omega) (by omega), hkb]
      have hfl := flat_snoc (f := rowCe) (ceAt r (tn g a n)) (turnTo g r a n)
      rw [← turnTo_snoc, ceAt_eq n1] at hfl
      simp -dsimp -implicitDefEqProofs [a1]
      refine eCall.of hat (by simp) ?_
      simp -dsimp -implicitDefEqProofs [hb, al, k1', w1]
      refine eCall.of hpu (by simp [hkb]) ?_
      simp -dsimp -implicitDefEqProofs
      refine eCall.of hwh (by simp) ?_
      by_cases n0 : n = 0
      · have hif : ∀ {α : Type} (x y : α), (if n = 0 then x else y) = x := fun x y => if_pos n0
        have hte : turnTo g r a n = [] := by rw [n0]; rfl
        rw [hte, flat_nil, List.nil_append] at hfl
        simp -dsimp -implicitDefEqProofs [hif, n1, slots, wn]
        exact Again.by ⟨(n + 1, c + 2), a1⟩ (Le.to (by simp) (by simp only [if_neg (show ¬ n + 1 = 0 by omega)]; simp [hfl]; exact n0) (by simp)) (by simp; omega)
      · have hif : ∀ {α : Type} (x y : α), (if n = 0 then x else y) = y := fun x y => if_neg n0
        simp -dsimp -implicitDefEqProofs [hif, n1, slots, wn, htl]
        refine ⟨⟨by omega, by omega⟩, ?_⟩
        exact Again.by ⟨(n + 1, c + 2), a1⟩ (Le.to (by simp) (by simp only [if_neg (show ¬ n + 1 = 0 by omega)]; simp [hfl]) (by simp)) (by simp; omega)
    have hn2 : n = r.length := by omega
    subst hn2
    have hte : turnTo g r a r.length = turnR g r a := rfl
    have hrl2 := turnR_len g r a
    rw [hte] at htl
    have hrp' : ¬ r = [] := fun e => hrp (by rw [e]; rfl)
    simp -dsimp -implicitDefEqProofs [hrp', hte]
    exact Cut.by c (Le.fzF [c + 4] (Le.to (by simp) (by simp [htl]) (by simp)))
  intro y
  obtain ⟨l, ok, htr⟩ := isTr_of (g := g) (r := r)
  obtain ⟨l2, ok2, htr2⟩ := isTr_of (g := turnG g a) (r := turnR g r a)
  have hok : ok2 = ok := by
    have i1 := htr.iff
    have i2 := htr2.iff
    rw [t.la] at i2
    have : ok2 = true ↔ ok = true := by
      rw [i1, i2]
      exact ⟨fun hh x hx => (noA_turn hp t hx).1 (hh x hx), fun hh x hx => (noA_turn hp t hx).2 (hh x hx)⟩
    cases ok <;> cases ok2 <;> simp_all
  subst hok
  have hgl : (gainsL g r).length = g.agents.length := by simp [gainsL]
  have hgl2 : (gainsL (turnG g a) (turnR g r a)).length = g.agents.length := by simp only [gainsL, List.length_map, List.length_range]; exact t.la
  have haim := aim_turn hp t hq
  have hsz := aimQ_szN hp
  have hsm := sameR_s (frQ (aimQ g r)) (frQ (aimQ g r)) (frQ_ok (by omega)) (frQ_ok (by omega))
  rw [fix_frQ hsz, decide_eq_true rfl] at hsm
  have ha2 := raim_s (turnG g a) (turnR g r a) hq
  rw [haim] at ha2
  simp -dsimp -implicitDefEqProofs
  refine eCall.of (rtruth_s g r hp l ok2 htr) (by simp) ?_
  simp -dsimp -implicitDefEqProofs
  refine eCall.of (rtruth_s (turnG g a) (turnR g r a) hq l2 ok2 htr2) (by simp) ?_
  simp -dsimp -implicitDefEqProofs
  refine eCall.of (rgains_s g r hp) (by simp) ?_
  simp -dsimp -implicitDefEqProofs
  refine eCall.of (rgains_s (turnG g a) (turnR g r a) hq) (by simp) ?_
  simp -dsimp -implicitDefEqProofs [hgl, hgl2]
  refine eCall.of (raim_s g r hp) (by simp) ?_
  simp -dsimp -implicitDefEqProofs
  refine eCall.of ha2 (by simp) ?_
  simp -dsimp -implicitDefEqProofs
  refine eCall.of hsm (by simp [frQ, ng]) ?_
  simp -dsimp -implicitDefEqProofs
  refine sw_loop_e (fun p : {p : Nat // p ≤ g.agents.length} => SS.of [(16, .v (.one (lisS (gainsL g r)))), (17, .v (.one (lisS (gainsL (turnG g a) (turnR g r a))))), (18, I .i64 p.1)] [] (y + 7))
    (fun p => g.agents.length - p.1) ⟨0, Nat.zero_le _⟩ (by kernel_rfl) (Le.to (by simp) (by simp) (by simp)) ?_
  rintro ⟨i, hi⟩
  by_cases a1 : i < g.agents.length
  · have wi : IntKind.i64.wrap ((i : Int) + 1) = ((i + 1 : Nat) : Int) := by rw [wrap_i64 _ (by omega) (by omega)]; rfl
    have c1 : i < (gainsL g r).length := by omega
    have c2 : i < (gainsL (turnG g a) (turnR g r a)).length := by omega
    have e1 := gains_get g r i c1
    have e2 := gains_get (turnG g a) (turnR g r a) i c2
    rw [turnR_len] at e2
    have e3 : (bestN (turnG g a) (turnR g r a) i r.length).gain = (bestN g r i r.length).gain := Rat.le_antisymm (top_ge hp t hq a1) (top_le hp t hq a1)
    have hz := (gains_ok hp _ (List.getElem_mem c1)).2
    have hsg := sameR_s (frQ (gainsL g r)[i].gain) (frQ (gainsL g r)[i].gain) (frQ_ok (by omega)) (frQ_ok (by omega))
    rw [decide_eq_true rfl] at hsg
    have e4 : (gainsL (turnG g a) (turnR g r a))[i].gain = (gainsL g r)[i].gain := by rw [e1, e2, e3]
    simp -dsimp -implicitDefEqProofs [a1, hgl, hgl2, c1, c2, e4]
    refine eCall.of hsg (by simp [frQ, ng]) ?_
    simp -dsimp -implicitDefEqProofs
    exact Again.by ⟨i + 1, a1⟩ (Le.to (by simp [wi]) (by simp) (by simp)) (by simp; omega)
  have hi2 : i = g.agents.length := by omega
  subst hi2
  simp -dsimp -implicitDefEqProofs [hgl, hgl2]
  refine eCall.of fixed_s (by simp) ?_
  simp -dsimp -implicitDefEqProofs
end Go.Proofs.YtmgaoecfipkjbaaGreat.Sh

