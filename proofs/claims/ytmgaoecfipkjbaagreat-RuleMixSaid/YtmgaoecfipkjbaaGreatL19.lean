/- A part of the proof: R49, R50, R53, R51, TyF, R54, R52, R58 -/
import Derived.Test.YtmgaoecfipkjbaaGreatL18
set_option linter.unusedSimpArgs false
set_option linter.unusedVariables false
set_option linter.unusedSectionVars false
/- Lies as data; tables. -/
namespace Go.Proofs.YtmgaoecfipkjbaaGreat.Sh
open Go Go.RowKit

theorem whrTo_at {g : Gm} : ∀ (j P : Nat) (tl : List Int), j ≤ g.agents.length → P < prodR ((szs g).take j).reverse → whrTo g (atR ((szs g).take j).reverse P ++ tl) j = P
  | 0, P, tl, _, h => by
    have : prodR ((szs g).take 0).reverse = 1 := rfl
    have : P = 0 := by omega
    subst this; rfl
  | j + 1, P, tl, hj, h => by
    have a1 : j < g.agents.length := hj
    have hrev : ((szs g).take (j + 1)).reverse = g.agents[j].kinds.length :: ((szs g).take j).reverse := by
      rw [takeSnoc (szs g) j (by simp [szs]; omega), List.reverse_append]; simp [szs]
    rw [hrev] at h ⊢
    rw [prodR] at h
    rw [atR, List.append_assoc]
    have hn : 0 < g.agents[j].kinds.length := by
      rcases Nat.eq_zero_or_pos g.agents[j].kinds.length with e | e
      · rw [e] at h; omega
      · exact e
    have ih := whrTo_at (g := g) j (P / g.agents[j].kinds.length) ([((P % g.agents[j].kinds.length : Nat) : Int)] ++ tl) (by omega) (Nat.div_lt_of_lt_mul (by rw [Nat.mul_comm]; exact h))
    have hl : (atR ((szs g).take j).reverse (P / g.agents[j].kinds.length)).length = j := by rw [atR_length]; simp [szs]; omega
    have hx : (atR ((szs g).take j).reverse (P / g.agents[j].kinds.length) ++ ([((P % g.agents[j].kinds.length : Nat) : Int)] ++ tl))[j]? = some ((P % g.agents[j].kinds.length : Nat) : Int) := by
      rw [List.getElem?_append_right (by omega), hl, Nat.sub_self]; rfl
    rw [whrTo_step (List.getElem?_eq_getElem a1) hx, ih, ← Int.natCast_mul, ← Int.natCast_add, Nat.div_add_mod']

theorem whr_at {g : Gm} {n : Nat} (h : n < prodK g.agents) : whr g (atG g n) = n := by
  have h1 := whrTo_at (g := g) g.agents.length n [] (Nat.le_refl _) (by rw [← prodR_take, List.take_length]; exact h)
  rw [List.append_nil, List.take_of_length_le (by simp [szs])] at h1
  exact h1

structure Li where
  agent : Int
  kind : Int
  told : Int
  prof : List Int
  gain : Rat
@[simp] def rowLi (l : Li) : List S1 := .int .i64 l.agent :: .int .i64 l.kind :: .int .i64 l.told :: intsS l.prof :: rowFr (frQ l.gain)
@[simp] def liS (l : Li) : SV := .agg (rowLi l)
@[simp] def lisS (l : List Li) : S1 := .sl true 7 (l.map rowLi)
def Li.ok (l : Li) : Prop := lenOk l.prof ∧ sz l.gain ≤ 4096

def lieAt (g : Gm) (r : List Ce) (a n told : Nat) : Li := ⟨a, kOf g n a, told, atG g n, gainQ g r a n told⟩
def noLi (a k : Int) : Li := ⟨a, k, -1, [], 0⟩

set_option maxRecDepth 20000 in
theorem noLie_s (a k : Int) : CallsS Tryz.prog 75 [.one (.int .i64 a), .one (.int .i64 k)] (.v (liS (noLi a k))) := by
  have i0 := intR_s 0 (by decide) (by decide)
  refine calls Tryz.func75 rfl (by rfl) (by rfl) (by kernel_rfl) ?_
  simp -dsimp -implicitDefEqProofs [Tryz.f75]
  refine eCall.of i0 (by simp) ?_
  simp -dsimp -implicitDefEqProofs [noLi, frQ, ng]

set_option maxRecDepth 20000 in
theorem lieR_s (g : Gm) (r : List Ce) (a n told : Nat) (h : Spot g r a n) (q : Rat) : CallsS Tryz.prog 74 [gmS g, .one (.int .i64 (a : Int)), .one (.int .i64 (n : Int)), .one (.int .i64 (told : Int)), frS (frQ q)] (.v (liS ⟨a, kOf g n a, told, atG g n, q⟩)) := by
  have hf := h.play.fine
  have hr16 := (sizeOk_all hf.sz).2.2.2.2
  have hrl := h.play.good.2.2.1
  have hn := h.hn
  obtain ⟨k1, k2⟩ := h.kof
  have al : a < (atG g n).length := by rw [atG_length]; exact h.ha
  have k1' : (atG g n)[a] = (kOf g n a : Int) := by rw [List.getElem?_eq_getElem al] at k1; exact Option.some.inj k1
  refine calls Tryz.func74 rfl (by rfl) (by rfl) (by kernel_rfl) ?_
  simp -dsimp -implicitDefEqProofs [Tryz.f74]
  refine eCall.of (at_s g hf n (by omega)) (by simp) ?_
  simp -dsimp -implicitDefEqProofs [al, k1', frQ, ng]

set_option maxRecDepth 20000 in
theorem sameLie_s (x y : Li) (hx : x.ok) (hy : y.ok) : ∀ b, (b = true ↔ x = y) → CallsS Tryz.prog 23 [liS x, liS y] (B b) := by
  intro b hb
  obtain ⟨x1, x2⟩ := hx
  obtain ⟨y1, y2⟩ := hy
  unfold lenOk at x1 y1
  have hsi := sameInts_s x.prof y.prof x1 y1
  have hsm := sameR_s (frQ x.gain) (frQ y.gain) (frQ_ok (by omega)) (frQ_ok (by omega))
  rw [fix_frQ x2, fix_frQ y2] at hsm
  refine calls Tryz.func23 rfl (by rfl) (by rfl) (by kernel_rfl) ?_
  by_cases e1 : x.agent = y.agent
  · by_cases e2 : x.kind = y.kind
    · by_cases e3 : x.told = y.told
      · simp -dsimp -implicitDefEqProofs [Tryz.f23, e1, e2, e3]
        by_cases e4 : x.prof = y.prof
        · rw [decide_eq_true e4] at hsi
          refine eCall.of hsi (by simp) ?_
          simp -dsimp -implicitDefEqProofs
          have hb' : b = decide (x.gain = y.gain) := by
            rw [Bool.eq_iff_iff, hb, decide_eq_true_iff]
            constructor
            · intro h; rw [h]
            · intro h; cases x; cases y; simp_all
          rw [← hb'] at hsm
          refine eCall.of hsm (by simp [frQ, ng]) ?_
          simp -dsimp -implicitDefEqProofs
        · have hb' := nf hb (fun h => e4 (by rw [h]))
          rw [decide_eq_false e4] at hsi
          refine eCall.of hsi (by simp) ?_
          simp -dsimp -implicitDefEqProofs [hb']
      · have hb' := nf hb (fun h => e3 (by rw [h]))
        simp -dsimp -implicitDefEqProofs [Tryz.f23, e1, e2, e3, hb']
    · have hb' := nf hb (fun h => e2 (by rw [h]))
      simp -dsimp -implicitDefEqProofs [Tryz.f23, e1, e2, hb']
  · have hb' := nf hb (fun h => e1 (by rw [h]))
    simp -dsimp -implicitDefEqProofs [Tryz.f23, e1, hb']
end Go.Proofs.YtmgaoecfipkjbaaGreat.Sh

/- Lists of lies; tables: open, after. -/
namespace Go.Proofs.YtmgaoecfipkjbaaGreat.Sh
open Go Go.RowKit

set_option maxRecDepth 20000 in
theorem sameLies_s (x y : List Li) (hx : ∀ l ∈ x, l.ok) (hy : ∀ l ∈ y, l.ok) (hl : x.length ≤ 1048576) : ∀ b, (b = true ↔ x = y) → CallsS Tryz.prog 24 [.one (lisS x), .one (lisS y)] (B b) := by
  intro b hb
  refine calls Tryz.func24 rfl (by rfl) (by rfl) (by kernel_rfl) ?_
  by_cases e : x.length = y.length
  · simp -dsimp -implicitDefEqProofs [Tryz.f24, e]
    refine sw_loop_e (fun p : {p : Nat // p ≤ y.length ∧ x.take p = y.take p} => SS.of [(0, .v (.one (lisS x))), (1, .v (.one (lisS y))), (5, I .i64 p.1)] [] 0)
      (fun p => y.length - p.1) ⟨0, Nat.zero_le _, by simp⟩ (by kernel_rfl) (Le.to (by simp) (by simp) (by simp)) ?_
    rintro ⟨i, hi, hp⟩
    by_cases a1 : i < y.length
    · have wi : IntKind.i64.wrap ((i : Int) + 1) = ((i + 1 : Nat) : Int) := by rw [wrap_i64 _ (by omega) (by omega)]; rfl
      have a2 : i < x.length := by omega
      have hs := sameLie_s x[i] y[i] (hx _ (List.getElem_mem a2)) (hy _ (List.getElem_mem a1))
      simp -dsimp -implicitDefEqProofs [a1, a2, e, wi]
      by_cases c1 : x[i] = y[i]
      · refine eCall.of (hs true (by simp [c1])) (by simp [frQ, ng]) ?_
        simp -dsimp -implicitDefEqProofs
        exact Again.by ⟨i + 1, a1, by rw [takeSnoc x i a2, takeSnoc y i a1, hp, c1]⟩ (Le.to (by simp [wi]) (by simp) (by simp)) (by simp; omega)
      · have hb' := nf hb (fun h => c1 (by subst h; rfl))
        refine eCall.of (hs false (by simp [c1])) (by simp [frQ, ng]) ?_
        simp -dsimp -implicitDefEqProofs [hb']
    have hi2 : i = y.length := by omega
    subst hi2
    rw [List.take_length, ← e, List.take_length] at hp
    have hb' : b = true := hb.2 hp
    simp -dsimp -implicitDefEqProofs [hb', e]
  · have hb' := nf hb (fun h => e (by rw [h]))
    simp -dsimp -implicitDefEqProofs [Tryz.f24, show ¬ (x.length : Int) = y.length by omega, e, hb']

set_option maxRecDepth 20000 in
theorem open_s (g : Gm) (r : List Ce) (h : Seen g r) (hg : Good g r) : CallsS Tryz.prog 76 [gmS g, ruS r] (.tup [tbS g r, .one (.bool true)]) := by
  refine calls Tryz.func76 rfl (by rfl) (by rfl) (by kernel_rfl) ?_
  simp -dsimp -implicitDefEqProofs [Tryz.f76]
  refine eCall.of (rright_s g r h 0 (.inr (.inr ⟨hg, rfl⟩))) (by simp) ?_
  simp -dsimp -implicitDefEqProofs
  refine eCall.of (profiles_s g (h.fine ⟨hg.1, hg.2.1⟩)) (by simp) ?_
  simp -dsimp -implicitDefEqProofs

/-- An empty table. -/
@[simp] def tb0 : SV := .agg [.nils, .nils, .bool false, .bool false, .int .i64 0, .nils, .nils, .nils]

set_option maxRecDepth 20000 in
theorem openNo_s (g : Gm) (r : List Ce) (h : Seen g r) (hg : ¬ Good g r) : CallsS Tryz.prog 76 [gmS g, ruS r] (.tup [tb0, .one (.bool false)]) := by
  obtain ⟨e, he, e0⟩ := isGood_of g r
  have e1 : ¬ e = 0 := fun hh => hg (e0.1 hh)
  refine calls Tryz.func76 rfl (by rfl) (by rfl) (by kernel_rfl) ?_
  simp -dsimp -implicitDefEqProofs [Tryz.f76]
  refine eCall.of (rright_s g r h e he) (by simp) ?_
  simp -dsimp -implicitDefEqProofs [e1]

set_option maxRecDepth 20000 in
theorem after_s (g : Gm) (r : List Ce) (a n told : Nat) (h : Spot g r a n) (ht : told < (g.agents[a]'h.ha).kinds.length) :
    CallsS Tryz.prog 145 [tbS g r, .one (intsS (atG g n)), .one (.int .i64 (a : Int)), .one (.int .i64 (told : Int))] (.v (ceS (r[Sh.toAt g n a told]'(h.toAt ht).2))) := by
  have hf := h.play.fine
  obtain ⟨t1, t2⟩ := h.toAt ht
  have hal := atG_length g n
  have h4 := (sizeOk_all hf.sz).1
  have hpu := putp_length (atG g n) a told
  have hid := index_s g hf (putP (atG g n) a told) (by omega) _ (.inl ⟨h.put ht, rfl⟩)
  rw [t1] at hid
  refine calls Tryz.func145 rfl (by rfl) (by rfl) (by kernel_rfl) ?_
  simp -dsimp -implicitDefEqProofs [Tryz.f145]
  refine eCall.of (put_s (atG g n) a told (by omega)) (by simp) ?_
  simp -dsimp -implicitDefEqProofs
  refine eCall.of hid (by simp) ?_
  simp -dsimp -implicitDefEqProofs [t2]
end Go.Proofs.YtmgaoecfipkjbaaGreat.Sh

/- The profiles with their places, handed on one by one. -/
namespace Go.Proofs.YtmgaoecfipkjbaaGreat.Sh
open Go Go.RowKit

def itemP (L : List (List Int)) (i : Nat) : List SV := [.one (.int .i64 (i : Int)), .one (intsS (L.getD i []))]
def itemsP (L : List (List Int)) : List (List SV) := (List.range L.length).map (itemP L)

theorem itemsP_len (L : List (List Int)) : (itemsP L).length = L.length := by simp [itemsP]
theorem itemsP_take {L : List (List Int)} {i : Nat} (h : i < L.length) : (itemsP L).take (i + 1) = (itemsP L).take i ++ [itemP L i] := by
  rw [takeSnoc _ i (by rw [itemsP_len]; exact h)]; simp [itemsP]
theorem itemsP_get {L : List (List Int)} {i : Nat} (h : i < (itemsP L).length) : (itemsP L)[i] = itemP L i := by simp [itemsP]

set_option maxRecDepth 20000 in
theorem places1_it (g : Gm) (r : List Ce) (hl : (profs g).length ≤ 1048576) : IterS Tryz.prog 154 [.rp true (rowTb g r)] (itemsP (profs g)) := by
  refine iterS Tryz.func154 rfl (by rfl) (by kernel_rfl) (by rfl) (by kernel_rfl) ?_
  intro v J S base hy
  simp -dsimp -implicitDefEqProofs [Tryz.f154]
  refine sw_loop_e (fun p : {p : Nat // p ≤ (profs g).length} => (SS.of [(0, .v (.one (.val v))), (6, .v (.one (profsS (profs g)))), (7, I .i64 (profs g).length), (8, I .i64 p.1)] [] 0).wx ⟨[], J ((itemsP (profs g)).take p.1), base⟩)
    (fun p => (profs g).length - p.1) ⟨0, Nat.zero_le _⟩ (by kernel_rfl) (Le.toX (by simp) (by simp) (by simp) (by simp)) ?_
  rintro ⟨i, hi⟩
  by_cases a1 : i < (profs g).length
  · have wi : IntKind.i64.wrap ((i : Int) + 1) = ((i + 1 : Nat) : Int) := by rw [wrap_i64 _ (by omega) (by omega)]; rfl
    have hyi := hy ((itemsP (profs g)).take i) (itemP (profs g) i) (by rw [← itemsP_take a1]; exact List.take_prefix _ _)
    rw [← itemsP_take a1] at hyi
    simp -dsimp -implicitDefEqProofs [a1, wi]
    refine spec_yield (v := v) (args := itemP (profs g) i) (C1 := J ((itemsP (profs g)).take (i + 1))) (C2 := S) (by simp) (by simpa using hyi) (by simp [itemP, List.getElem?_eq_getElem a1]) ?_ ?_
    · simp -dsimp -implicitDefEqProofs
      exact Again.by ⟨i + 1, a1⟩ (Le.toX (by simp [wi]) (by simp) (by simp) (by simp)) (by simp; omega)
    · simp -dsimp -implicitDefEqProofs
  have hi2 : i = (profs g).length := by omega
  subst hi2
  simp -dsimp -implicitDefEqProofs
  exact .inl (by rw [List.take_of_length_le (by rw [itemsP_len]; exact Nat.le_refl _)])
set_option maxRecDepth 20000 in
theorem places_s (g : Gm) (r : List Ce) : CallsS Tryz.prog 88 [tbS g r] (.v (.one (.fn 154 [.rp true (rowTb g r)]))) := by
  refine calls Tryz.func88 rfl (by rfl) (by rfl) (by kernel_rfl) ?_
  simp -dsimp -implicitDefEqProofs [Tryz.f88]

set_option maxRecDepth 20000 in
theorem lies_s (g : Gm) (r : List Ce) (a : Nat) : CallsS Tryz.prog 77 [tbS g r, .one (.int .i64 (a : Int))] (.v (.one (.fn 144 [.rp true (rowTb g r), .rp true [.int .i64 (a : Int)]]))) := by
  refine calls Tryz.func77 rfl (by rfl) (by rfl) (by kernel_rfl) ?_
  simp -dsimp -implicitDefEqProofs [Tryz.f77]
end Go.Proofs.YtmgaoecfipkjbaaGreat.Sh

/- The reference's Truthful. -/
namespace Go.Proofs.YtmgaoecfipkjbaaGreat.Sh
open Go Go.RowKit

def kl (g : Gm) (a : Nat) : Nat := ((g.agents[a]?).map fun A => A.kinds.length).getD 0
theorem kl_eq {g : Gm} {a : Nat} (h : a < g.agents.length) : kl g a = g.agents[a].kinds.length := by unfold kl; rw [List.getElem?_eq_getElem h]; rfl

section
variable (g : Gm) (r : List Ce)
def NoN (a n : Nat) : Prop := ∀ t, t < kl g a → ¬ 0 < gainQ g r a n t
def NoA (a : Nat) : Prop := ∀ n, n < r.length → NoN g r a n
/-- The first lie that gains. -/
structure FirstAt (a n t : Nat) : Prop where
  ha : a < g.agents.length
  hn : n < r.length
  ht : t < kl g a
  pos : 0 < gainQ g r a n t
  a0 : ∀ a', a' < a → NoA g r a'
  n0 : ∀ n', n' < n → NoN g r a n'
  t0 : ∀ t', t' < t → ¬ 0 < gainQ g r a n t'
def isTr (l : Li) (ok : Bool) : Prop := (∃ a n t, FirstAt g r a n t ∧ l = lieAt g r a n t ∧ ok = false) ∨ ((∀ a, a < g.agents.length → NoA g r a) ∧ l = noLi 0 0 ∧ ok = true)
end

theorem FirstAt.uniq {g : Gm} {r : List Ce} {a n t a' n' t' : Nat} (h : FirstAt g r a n t) (h' : FirstAt g r a' n' t') : a = a' ∧ n = n' ∧ t = t' := by
  have e1 : a = a' := by
    rcases Nat.lt_trichotomy a a' with c | c | c
    · exact absurd h.pos (h'.a0 a c n h.hn t h.ht)
    · exact c
    · exact absurd h'.pos (h.a0 a' c n' h'.hn t' h'.ht)
  subst e1
  have e2 : n = n' := by
    rcases Nat.lt_trichotomy n n' with c | c | c
    · exact absurd h.pos (h'.n0 n c t h.ht)
    · exact c
    · exact absurd h'.pos (h.n0 n' c t' h'.ht)
  subst e2
  refine ⟨rfl, rfl, ?_⟩
  rcases Nat.lt_trichotomy t t' with c | c | c
  · exact absurd h.pos (h'.t0 t c)
  · exact c
  · exact absurd h'.pos (h.t0 t' c)
theorem isTr.at {g : Gm} {r : List Ce} {l : Li} {ok : Bool} (h : isTr g r l ok) {a n t : Nat} (hf : FirstAt g r a n t) : l = lieAt g r a n t ∧ ok = false := by
  rcases h with ⟨a', n', t', h1, h2, h3⟩ | ⟨h1, -, -⟩
  · obtain ⟨rfl, rfl, rfl⟩ := hf.uniq h1
    exact ⟨h2, h3⟩
  · exact absurd hf.pos (h1 a hf.ha n hf.hn t hf.ht)
theorem isTr.none {g : Gm} {r : List Ce} {l : Li} {ok : Bool} (h : isTr g r l ok) (hn : ∀ a, a < g.agents.length → NoA g r a) : l = noLi 0 0 ∧ ok = true := by
  rcases h with ⟨a', n', t', h1, h2, h3⟩ | ⟨-, h2, h3⟩
  · exact absurd h1.pos (hn a' h1.ha n' h1.hn t' h1.ht)
  · exact ⟨h2, h3⟩

theorem sgnQ_pos {q : Rat} : 0 < sgnQ q ↔ 0 < q := by
  unfold sgnQ
  split
  · rename_i h; subst h; exact ⟨fun h => absurd h (by decide), fun h => absurd h Rat.lt_irrefl⟩
  · rename_i h0
    split
    · rename_i h; exact ⟨fun h' => absurd h' (by decide), fun h' => by grind⟩
    · rename_i h; exact ⟨fun _ => by have := Rat.not_lt.1 h; grind, fun _ => by decide⟩

@[simp] def li0 : SV := .agg [.int .i64 0, .int .i64 0, .int .i64 0, .nils, .bool false, .nils, .nils]

set_option maxRecDepth 20000 in
theorem truthR_s (g : Gm) (r : List Ce) (h : Play g r) (l : Li) (ok : Bool) (hl : isTr g r l ok) : CallsS Tryz.prog 20 [gmS g, ruS r] (.tup [liS l, .one (.bool ok)]) := by
  have hf := h.fine
  obtain ⟨h1, -, -, h4, h5⟩ := sizeOk_all hf.sz
  have hrl := h.good.2.2.1
  refine calls Tryz.func20 rfl (by rfl) (by rfl) (by kernel_rfl) ?_
  simp -dsimp -implicitDefEqProofs [Tryz.f20]
  refine eCall.of (rightR4_s g r h.seen 0 (.inr (.inr ⟨h.good, rfl⟩))) (by simp) ?_
  simp -dsimp -implicitDefEqProofs
  refine sw_loop_e (fun p : {p : Nat × Nat // p.1 ≤ g.agents.length ∧ ∀ a, a < p.1 → NoA g r a} => SS.of [(2, .v (.one (.mp 0 0))), (3, .v (.one (.mp 1 0))), (4, .v (.one (.mp 2 0))), (6, I .i64 p.1.1)] [(0, ⟨26, rowGm g⟩), (1, ⟨29, [cesS r]⟩), (2, ⟨39, [.int .i64 0, .int .i64 0, .int .i64 0, .nils, .bool false, .nils, .nils]⟩)] (p.1.2 + 3))
    (fun p => g.agents.length - p.1.1) ⟨(0, 0), Nat.zero_le _, fun a ha => absurd ha (by simp)⟩ (by kernel_rfl) (Le.to (by simp) (by simp) (by simp)) ?_
  rintro ⟨⟨a, c⟩, hi, hp⟩
  simp only at hi hp
  by_cases a1 : a < g.agents.length
  · have wa : IntKind.i64.wrap ((a : Int) + 1) = ((a + 1 : Nat) : Int) := by rw [wrap_i64 _ (by omega) (by omega)]; rfl
    have hk4 := h4 _ (List.getElem_mem a1)
    have hkl := kl_eq a1
    simp -dsimp -implicitDefEqProofs [a1]
    refine sw_loop_e (fun p : {p : Nat × Nat // p.1 ≤ r.length ∧ ∀ n, n < p.1 → NoN g r a n} => SS.of [(2, .v (.one (.mp 0 0))), (3, .v (.one (.mp 1 0))), (4, .v (.one (.mp 2 0))), (6, I .i64 a), (7, I .i64 p.1.1)] [(0, ⟨26, rowGm g⟩), (1, ⟨29, [cesS r]⟩), (2, ⟨39, [.int .i64 0, .int .i64 0, .int .i64 0, .nils, .bool false, .nils, .nils]⟩)] (p.1.2 + 3))
      (fun p => r.length - p.1.1) ⟨(0, c), Nat.zero_le _, fun n hn => absurd hn (by simp)⟩ (by kernel_rfl) (Le.to (by simp) (by simp) (by simp)) ?_
    rintro ⟨⟨n, d⟩, hn, hq⟩
    simp only at hn hq
    by_cases a2 : n < r.length
    · have wn : IntKind.i64.wrap ((n : Int) + 1) = ((n + 1 : Nat) : Int) := by rw [wrap_i64 _ (by omega) (by omega)]; rfl
      have hsp : Spot g r a n := ⟨h, a1, a2⟩
      simp -dsimp -implicitDefEqProofs [a1, a2]
      refine sw_loop_e (fun p : {p : Nat × Nat // p.1 ≤ g.agents[a].kinds.length ∧ ∀ t, t < p.1 → ¬ 0 < gainQ g r a n t} => SS.of [(2, .v (.one (.mp 0 0))), (3, .v (.one (.mp 1 0))), (4, .v (.one (.mp 2 0))), (6, I .i64 a), (7, I .i64 n), (8, I .i64 p.1.1)] [(0, ⟨26, rowGm g⟩), (1, ⟨29, [cesS r]⟩), (2, ⟨39, [.int .i64 0, .int .i64 0, .int .i64 0, .nils, .bool false, .nils, .nils]⟩)] (p.1.2 + 3))
        (fun p => g.agents[a].kinds.length - p.1.1) ⟨(0, d), Nat.zero_le _, fun t ht => absurd ht (by simp)⟩ (by kernel_rfl) (Le.to (by simp) (by simp) (by simp)) ?_
      rintro ⟨⟨t, e⟩, ht, hs⟩
      simp only at ht hs
      by_cases a3 : t < g.agents[a].kinds.length
      · have wt : IntKind.i64.wrap ((t : Int) + 1) = ((t + 1 : Nat) : Int) := by rw [wrap_i64 _ (by omega) (by omega)]; rfl
        have hmz := hsp.gain_mz a3
        have hz := (cap_mz (show mz (gainQ g r a n t) ≤ 2048 by omega)).2
        have hsg := signR_s (frQ (gainQ g r a n t)) (frQ_ok (by omega))
        rw [fix_frQ hz] at hsg
        simp -dsimp -implicitDefEqProofs [a1, a2, a3]
        refine eCall.of (gainR_s g r a n t hsp a3) (by simp) ?_
        simp -dsimp -implicitDefEqProofs
        refine eCall.of hsg (by simp [frQ, ng]) ?_
        by_cases c1 : 0 < gainQ g r a n t
        · obtain ⟨rfl, rfl⟩ := hl.at ⟨a1, a2, by omega, c1, hp, hq, hs⟩
          simp -dsimp -implicitDefEqProofs [sgnQ_pos.2 c1]
          refine eCall.of (lieR_s g r a n t hsp (gainQ g r a n t)) (by simp [frQ, ng]) ?_
          simp -dsimp -implicitDefEqProofs [lieAt, frQ, ng]
          try rfl
        · simp -dsimp -implicitDefEqProofs [mt sgnQ_pos.1 c1]
          refine Again.by ⟨(t + 1, e + 1), a3, fun t' ht' => ?_⟩ (Le.to (by simp [wt]) (by simp) (by simp)) (by simp; omega)
          by_cases e' : t' = t
          · subst e'; exact c1
          · exact hs t' (by omega)
      have ht2 : t = g.agents[a].kinds.length := by omega
      subst ht2
      simp -dsimp -implicitDefEqProofs [a1]
      refine Again.by ⟨(n + 1, e), a2, fun n' hn' => ?_⟩ (Le.to (by simp [wn]) (by simp) (by simp)) (by simp; omega)
      by_cases e' : n' = n
      · subst e'; exact fun t' ht' => hs t' (by omega)
      · exact hq n' (by omega)
    have hn2 : n = r.length := by omega
    subst hn2
    simp -dsimp -implicitDefEqProofs
    refine Again.by ⟨(a + 1, d), a1, fun a' ha' => ?_⟩ (Le.to (by simp [wa]) (by simp) (by simp)) (by simp; omega)
    by_cases e' : a' = a
    · subst e'; exact fun n' hn' => hq n' hn'
    · exact hp a' (by omega)
  have hi2 : a = g.agents.length := by omega
  subst hi2
  obtain ⟨rfl, rfl⟩ := hl.none hp
  simp -dsimp -implicitDefEqProofs
  refine eCall.of (noLie_s 0 0) (by simp) ?_
  simp -dsimp -implicitDefEqProofs [noLi, frQ, ng]

set_option maxRecDepth 20000 in
theorem truthNo_s (g : Gm) (r : List Ce) (h : Seen g r) (hg : ¬ Good g r) : CallsS Tryz.prog 20 [gmS g, ruS r] (.tup [li0, .one (.bool false)]) := by
  obtain ⟨e, he, e0⟩ := isGood_of g r
  have e1 : ¬ e = 0 := fun hh => hg (e0.1 hh)
  refine calls Tryz.func20 rfl (by rfl) (by rfl) (by kernel_rfl) ?_
  simp -dsimp -implicitDefEqProofs [Tryz.f20]
  refine eCall.of (rightR4_s g r h e he) (by simp) ?_
  simp -dsimp -implicitDefEqProofs [e1]
end Go.Proofs.YtmgaoecfipkjbaaGreat.Sh

/- The types of functions, as the logic of shadows reads them. -/
namespace Go.Proofs.YtmgaoecfipkjbaaGreat.Sh
open Go Go.RowKit
@[simp] theorem ty1 : tyOf Tryz.prog 1 = some ⟨1, 8, .cell, [.nilFunc]⟩ := by kernel_rfl
@[simp] theorem ty30 : tyOf Tryz.prog 30 = some ⟨1, 8, .cell, [.nilFunc]⟩ := by kernel_rfl
@[simp] theorem ty32 : tyOf Tryz.prog 32 = some ⟨1, 8, .cell, [.nilFunc]⟩ := by kernel_rfl
@[simp] theorem ty33 : tyOf Tryz.prog 33 = some ⟨1, 8, .cell, [.nilFunc]⟩ := by kernel_rfl
@[simp] theorem ty41 : tyOf Tryz.prog 41 = some ⟨1, 8, .cell, [.nilFunc]⟩ := by kernel_rfl
@[simp] theorem ty43 : tyOf Tryz.prog 43 = some ⟨1, 8, .cell, [.nilFunc]⟩ := by kernel_rfl
@[simp] theorem ty44 : tyOf Tryz.prog 44 = some ⟨1, 8, .cell, [.nilFunc]⟩ := by kernel_rfl
@[simp] theorem ty45 : tyOf Tryz.prog 45 = some ⟨1, 8, .cell, [.nilFunc]⟩ := by kernel_rfl
@[simp] theorem ty47 : tyOf Tryz.prog 47 = some ⟨1, 8, .cell, [.nilFunc]⟩ := by kernel_rfl
@[simp] theorem ty48 : tyOf Tryz.prog 48 = some ⟨1, 8, .cell, [.nilFunc]⟩ := by kernel_rfl
@[simp] theorem ty50 : tyOf Tryz.prog 50 = some ⟨1, 8, .cell, [.nilFunc]⟩ := by kernel_rfl
@[simp] theorem ty51 : tyOf Tryz.prog 51 = some ⟨1, 8, .cell, [.nilFunc]⟩ := by kernel_rfl
@[simp] theorem ty52 : tyOf Tryz.prog 52 = some ⟨1, 8, .cell, [.nilFunc]⟩ := by kernel_rfl
@[simp] theorem ty53 : tyOf Tryz.prog 53 = some ⟨1, 8, .cell, [.nilFunc]⟩ := by kernel_rfl
@[simp] theorem ty54 : tyOf Tryz.prog 54 = some ⟨1, 8, .cell, [.nilFunc]⟩ := by kernel_rfl
@[simp] theorem ty55 : tyOf Tryz.prog 55 = some ⟨1, 8, .cell, [.nilFunc]⟩ := by kernel_rfl
@[simp] theorem ty61 : tyOf Tryz.prog 61 = some ⟨1, 8, .cell, [.nilFunc]⟩ := by kernel_rfl
@[simp] theorem ty62 : tyOf Tryz.prog 62 = some ⟨1, 8, .cell, [.nilFunc]⟩ := by kernel_rfl
@[simp] theorem ty63 : tyOf Tryz.prog 63 = some ⟨1, 8, .cell, [.nilFunc]⟩ := by kernel_rfl
@[simp] theorem ty66 : tyOf Tryz.prog 66 = some ⟨1, 8, .cell, [.nilFunc]⟩ := by kernel_rfl
@[simp] theorem ty67 : tyOf Tryz.prog 67 = some ⟨1, 8, .cell, [.nilFunc]⟩ := by kernel_rfl
@[simp] theorem ty68 : tyOf Tryz.prog 68 = some ⟨1, 8, .cell, [.nilFunc]⟩ := by kernel_rfl
@[simp] theorem ty69 : tyOf Tryz.prog 69 = some ⟨1, 8, .cell, [.nilFunc]⟩ := by kernel_rfl
@[simp] theorem ty70 : tyOf Tryz.prog 70 = some ⟨1, 8, .cell, [.nilFunc]⟩ := by kernel_rfl
@[simp] theorem ty71 : tyOf Tryz.prog 71 = some ⟨1, 8, .cell, [.nilFunc]⟩ := by kernel_rfl
@[simp] theorem ty73 : tyOf Tryz.prog 73 = some ⟨1, 8, .cell, [.nilFunc]⟩ := by kernel_rfl
@[simp] theorem ty74 : tyOf Tryz.prog 74 = some ⟨1, 8, .cell, [.nilFunc]⟩ := by kernel_rfl
@[simp] theorem ty75 : tyOf Tryz.prog 75 = some ⟨1, 8, .cell, [.nilFunc]⟩ := by kernel_rfl
@[simp] theorem ty78 : tyOf Tryz.prog 78 = some ⟨1, 8, .cell, [.nilFunc]⟩ := by kernel_rfl
@[simp] theorem ty79 : tyOf Tryz.prog 79 = some ⟨1, 8, .cell, [.nilFunc]⟩ := by kernel_rfl
@[simp] theorem ty82 : tyOf Tryz.prog 82 = some ⟨1, 8, .cell, [.nilFunc]⟩ := by kernel_rfl
@[simp] theorem ty83 : tyOf Tryz.prog 83 = some ⟨1, 8, .cell, [.nilFunc]⟩ := by kernel_rfl
@[simp] theorem ty85 : tyOf Tryz.prog 85 = some ⟨1, 8, .cell, [.nilFunc]⟩ := by kernel_rfl
@[simp] theorem ty87 : tyOf Tryz.prog 87 = some ⟨1, 8, .cell, [.nilFunc]⟩ := by kernel_rfl
@[simp] theorem ty88 : tyOf Tryz.prog 88 = some ⟨1, 8, .cell, [.nilFunc]⟩ := by kernel_rfl
@[simp] theorem ty92 : tyOf Tryz.prog 92 = some ⟨1, 8, .cell, [.nilFunc]⟩ := by kernel_rfl
@[simp] theorem ty93 : tyOf Tryz.prog 93 = some ⟨1, 8, .cell, [.nilFunc]⟩ := by kernel_rfl
@[simp] theorem ty95 : tyOf Tryz.prog 95 = some ⟨1, 8, .cell, [.nilFunc]⟩ := by kernel_rfl
@[simp] theorem ty96 : tyOf Tryz.prog 96 = some ⟨1, 8, .cell, [.nilFunc]⟩ := by kernel_rfl
@[simp] theorem ty97 : tyOf Tryz.prog 97 = some ⟨1, 8, .cell, [.nilFunc]⟩ := by kernel_rfl
@[simp] theorem ty99 : tyOf Tryz.prog 99 = some ⟨1, 8, .cell, [.nilFunc]⟩ := by kernel_rfl
@[simp] theorem ty100 : tyOf Tryz.prog 100 = some ⟨1, 8, .cell, [.nilFunc]⟩ := by kernel_rfl
@[simp] theorem ty101 : tyOf Tryz.prog 101 = some ⟨1, 8, .cell, [.nilFunc]⟩ := by kernel_rfl
@[simp] theorem ty102 : tyOf Tryz.prog 102 = some ⟨1, 8, .cell, [.nilFunc]⟩ := by kernel_rfl
@[simp] theorem ty103 : tyOf Tryz.prog 103 = some ⟨1, 8, .cell, [.nilFunc]⟩ := by kernel_rfl
@[simp] theorem ty104 : tyOf Tryz.prog 104 = some ⟨1, 8, .cell, [.nilFunc]⟩ := by kernel_rfl
@[simp] theorem ty108 : tyOf Tryz.prog 108 = some ⟨1, 8, .cell, [.nilFunc]⟩ := by kernel_rfl
@[simp] theorem ty109 : tyOf Tryz.prog 109 = some ⟨1, 8, .cell, [.nilFunc]⟩ := by kernel_rfl
@[simp] theorem ty110 : tyOf Tryz.prog 110 = some ⟨1, 8, .cell, [.nilFunc]⟩ := by kernel_rfl
@[simp] theorem ty111 : tyOf Tryz.prog 111 = some ⟨1, 8, .cell, [.nilFunc]⟩ := by kernel_rfl
@[simp] theorem ty112 : tyOf Tryz.prog 112 = some ⟨1, 8, .cell, [.nilFunc]⟩ := by kernel_rfl
@[simp] theorem ty113 : tyOf Tryz.prog 113 = some ⟨1, 8, .cell, [.nilFunc]⟩ := by kernel_rfl
@[simp] theorem ty115 : tyOf Tryz.prog 115 = some ⟨1, 8, .cell, [.nilFunc]⟩ := by kernel_rfl
@[simp] theorem ty118 : tyOf Tryz.prog 118 = some ⟨1, 8, .cell, [.nilFunc]⟩ := by kernel_rfl
@[simp] theorem ty119 : tyOf Tryz.prog 119 = some ⟨1, 8, .cell, [.nilFunc]⟩ := by kernel_rfl
@[simp] theorem ty120 : tyOf Tryz.prog 120 = some ⟨1, 8, .cell, [.nilFunc]⟩ := by kernel_rfl
@[simp] theorem ty121 : tyOf Tryz.prog 121 = some ⟨1, 8, .cell, [.nilFunc]⟩ := by kernel_rfl
@[simp] theorem ty122 : tyOf Tryz.prog 122 = some ⟨1, 8, .cell, [.nilFunc]⟩ := by kernel_rfl
@[simp] theorem ty123 : tyOf Tryz.prog 123 = some ⟨1, 8, .cell, [.nilFunc]⟩ := by kernel_rfl
@[simp] theorem ty125 : tyOf Tryz.prog 125 = some ⟨1, 8, .cell, [.nilFunc]⟩ := by kernel_rfl
@[simp] theorem ty126 : tyOf Tryz.prog 126 = some ⟨1, 8, .cell, [.nilFunc]⟩ := by kernel_rfl
@[simp] theorem ty127 : tyOf Tryz.prog 127 = some ⟨1, 8, .cell, [.nilFunc]⟩ := by kernel_rfl
@[simp] theorem ty128 : tyOf Tryz.prog 128 = some ⟨1, 8, .cell, [.nilFunc]⟩ := by kernel_rfl
@[simp] theorem ty129 : tyOf Tryz.prog 129 = some ⟨1, 8, .cell, [.nilFunc]⟩ := by kernel_rfl
@[simp] theorem ty130 : tyOf Tryz.prog 130 = some ⟨1, 8, .cell, [.nilFunc]⟩ := by kernel_rfl
@[simp] theorem ty131 : tyOf Tryz.prog 131 = some ⟨1, 8, .cell, [.nilFunc]⟩ := by kernel_rfl
@[simp] theorem ty133 : tyOf Tryz.prog 133 = some ⟨1, 8, .cell, [.nilFunc]⟩ := by kernel_rfl
@[simp] theorem ty134 : tyOf Tryz.prog 134 = some ⟨1, 8, .cell, [.nilFunc]⟩ := by kernel_rfl
@[simp] theorem ty135 : tyOf Tryz.prog 135 = some ⟨1, 8, .cell, [.nilFunc]⟩ := by kernel_rfl
@[simp] theorem ty136 : tyOf Tryz.prog 136 = some ⟨1, 8, .cell, [.nilFunc]⟩ := by kernel_rfl
@[simp] theorem ty138 : tyOf Tryz.prog 138 = some ⟨1, 8, .cell, [.nilFunc]⟩ := by kernel_rfl
@[simp] theorem ty139 : tyOf Tryz.prog 139 = some ⟨1, 8, .cell, [.nilFunc]⟩ := by kernel_rfl
@[simp] theorem ty140 : tyOf Tryz.prog 140 = some ⟨1, 8, .cell, [.nilFunc]⟩ := by kernel_rfl
@[simp] theorem ty141 : tyOf Tryz.prog 141 = some ⟨1, 8, .cell, [.nilFunc]⟩ := by kernel_rfl
@[simp] theorem ty143 : tyOf Tryz.prog 143 = some ⟨1, 8, .cell, [.nilFunc]⟩ := by kernel_rfl
@[simp] theorem ty146 : tyOf Tryz.prog 146 = some ⟨1, 8, .cell, [.nilFunc]⟩ := by kernel_rfl
@[simp] theorem ty147 : tyOf Tryz.prog 147 = some ⟨1, 8, .cell, [.nilFunc]⟩ := by kernel_rfl
@[simp] theorem ty148 : tyOf Tryz.prog 148 = some ⟨1, 8, .cell, [.nilFunc]⟩ := by kernel_rfl
@[simp] theorem ty149 : tyOf Tryz.prog 149 = some ⟨1, 8, .cell, [.nilFunc]⟩ := by kernel_rfl
@[simp] theorem ty150 : tyOf Tryz.prog 150 = some ⟨1, 8, .cell, [.nilFunc]⟩ := by kernel_rfl
@[simp] theorem ty151 : tyOf Tryz.prog 151 = some ⟨1, 8, .cell, [.nilFunc]⟩ := by kernel_rfl
@[simp] theorem ty152 : tyOf Tryz.prog 152 = some ⟨1, 8, .cell, [.nilFunc]⟩ := by kernel_rfl
@[simp] theorem ty153 : tyOf Tryz.prog 153 = some ⟨1, 8, .cell, [.nilFunc]⟩ := by kernel_rfl
@[simp] theorem ty154 : tyOf Tryz.prog 154 = some ⟨1, 8, .cell, [.nilFunc]⟩ := by kernel_rfl
@[simp] theorem ty155 : tyOf Tryz.prog 155 = some ⟨1, 8, .cell, [.nilFunc]⟩ := by kernel_rfl
@[simp] theorem ty156 : tyOf Tryz.prog 156 = some ⟨1, 8, .cell, [.nilFunc]⟩ := by kernel_rfl
@[simp] theorem ty157 : tyOf Tryz.prog 157 = some ⟨1, 8, .cell, [.nilFunc]⟩ := by kernel_rfl
@[simp] theorem ty158 : tyOf Tryz.prog 158 = some ⟨1, 8, .cell, [.nilFunc]⟩ := by kernel_rfl
@[simp] theorem ty159 : tyOf Tryz.prog 159 = some ⟨1, 8, .cell, [.nilFunc]⟩ := by kernel_rfl
@[simp] theorem ty160 : tyOf Tryz.prog 160 = some ⟨1, 8, .cell, [.nilFunc]⟩ := by kernel_rfl
@[simp] theorem ty161 : tyOf Tryz.prog 161 = some ⟨1, 8, .cell, [.nilFunc]⟩ := by kernel_rfl
@[simp] theorem ty162 : tyOf Tryz.prog 162 = some ⟨1, 8, .cell, [.nilFunc]⟩ := by kernel_rfl
@[simp] theorem ty163 : tyOf Tryz.prog 163 = some ⟨1, 8, .cell, [.nilFunc]⟩ := by kernel_rfl
@[simp] theorem ty164 : tyOf Tryz.prog 164 = some ⟨1, 8, .cell, [.nilFunc]⟩ := by kernel_rfl
@[simp] theorem ty165 : tyOf Tryz.prog 165 = some ⟨1, 8, .cell, [.nilFunc]⟩ := by kernel_rfl
@[simp] theorem ty169 : tyOf Tryz.prog 169 = some ⟨1, 8, .cell, [.nilFunc]⟩ := by kernel_rfl
@[simp] theorem ty170 : tyOf Tryz.prog 170 = some ⟨1, 8, .cell, [.nilFunc]⟩ := by kernel_rfl
@[simp] theorem ty171 : tyOf Tryz.prog 171 = some ⟨1, 8, .cell, [.nilFunc]⟩ := by kernel_rfl
@[simp] theorem ty172 : tyOf Tryz.prog 172 = some ⟨1, 8, .cell, [.nilFunc]⟩ := by kernel_rfl
@[simp] theorem ty173 : tyOf Tryz.prog 173 = some ⟨1, 8, .cell, [.nilFunc]⟩ := by kernel_rfl
@[simp] theorem ty174 : tyOf Tryz.prog 174 = some ⟨1, 8, .cell, [.nilFunc]⟩ := by kernel_rfl
@[simp] theorem ty175 : tyOf Tryz.prog 175 = some ⟨1, 8, .cell, [.nilFunc]⟩ := by kernel_rfl
@[simp] theorem ty176 : tyOf Tryz.prog 176 = some ⟨1, 8, .cell, [.nilFunc]⟩ := by kernel_rfl
@[simp] theorem ty178 : tyOf Tryz.prog 178 = some ⟨1, 8, .cell, [.nilFunc]⟩ := by kernel_rfl
@[simp] theorem ty180 : tyOf Tryz.prog 180 = some ⟨1, 8, .cell, [.nilFunc]⟩ := by kernel_rfl
@[simp] theorem ty181 : tyOf Tryz.prog 181 = some ⟨1, 8, .cell, [.nilFunc]⟩ := by kernel_rfl
@[simp] theorem ty182 : tyOf Tryz.prog 182 = some ⟨1, 8, .cell, [.nilFunc]⟩ := by kernel_rfl
@[simp] theorem ty183 : tyOf Tryz.prog 183 = some ⟨1, 8, .cell, [.nilFunc]⟩ := by kernel_rfl
@[simp] theorem ty184 : tyOf Tryz.prog 184 = some ⟨1, 8, .cell, [.nilFunc]⟩ := by kernel_rfl
@[simp] theorem ty187 : tyOf Tryz.prog 187 = some ⟨1, 8, .cell, [.nilFunc]⟩ := by kernel_rfl
@[simp] theorem ty188 : tyOf Tryz.prog 188 = some ⟨1, 8, .cell, [.nilFunc]⟩ := by kernel_rfl
@[simp] theorem ty189 : tyOf Tryz.prog 189 = some ⟨1, 8, .cell, [.nilFunc]⟩ := by kernel_rfl
@[simp] theorem ty190 : tyOf Tryz.prog 190 = some ⟨1, 8, .cell, [.nilFunc]⟩ := by kernel_rfl
@[simp] theorem ty191 : tyOf Tryz.prog 191 = some ⟨1, 8, .cell, [.nilFunc]⟩ := by kernel_rfl
@[simp] theorem ty192 : tyOf Tryz.prog 192 = some ⟨1, 8, .cell, [.nilFunc]⟩ := by kernel_rfl
@[simp] theorem ty193 : tyOf Tryz.prog 193 = some ⟨1, 8, .cell, [.nilFunc]⟩ := by kernel_rfl
@[simp] theorem ty198 : tyOf Tryz.prog 198 = some ⟨1, 8, .cell, [.nilFunc]⟩ := by kernel_rfl
@[simp] theorem ty199 : tyOf Tryz.prog 199 = some ⟨1, 8, .cell, [.nilFunc]⟩ := by kernel_rfl
@[simp] theorem ty200 : tyOf Tryz.prog 200 = some ⟨1, 8, .cell, [.nilFunc]⟩ := by kernel_rfl
@[simp] theorem ty201 : tyOf Tryz.prog 201 = some ⟨1, 8, .cell, [.nilFunc]⟩ := by kernel_rfl
@[simp] theorem ty202 : tyOf Tryz.prog 202 = some ⟨1, 8, .cell, [.nilFunc]⟩ := by kernel_rfl
@[simp] theorem ty203 : tyOf Tryz.prog 203 = some ⟨1, 8, .cell, [.nilFunc]⟩ := by kernel_rfl
@[simp] theorem ty205 : tyOf Tryz.prog 205 = some ⟨1, 8, .cell, [.nilFunc]⟩ := by kernel_rfl
@[simp] theorem ty206 : tyOf Tryz.prog 206 = some ⟨1, 8, .cell, [.nilFunc]⟩ := by kernel_rfl
@[simp] theorem ty208 : tyOf Tryz.prog 208 = some ⟨1, 8, .cell, [.nilFunc]⟩ := by kernel_rfl
@[simp] theorem ty210 : tyOf Tryz.prog 210 = some ⟨1, 8, .cell, [.nilFunc]⟩ := by kernel_rfl
@[simp] theorem ty212 : tyOf Tryz.prog 212 = some ⟨1, 8, .cell, [.nilFunc]⟩ := by kernel_rfl
@[simp] theorem ty213 : tyOf Tryz.prog 213 = some ⟨1, 8, .cell, [.nilFunc]⟩ := by kernel_rfl
@[simp] theorem ty214 : tyOf Tryz.prog 214 = some ⟨1, 8, .cell, [.nilFunc]⟩ := by kernel_rfl
@[simp] theorem ty215 : tyOf Tryz.prog 215 = some ⟨1, 8, .cell, [.nilFunc]⟩ := by kernel_rfl
@[simp] theorem ty216 : tyOf Tryz.prog 216 = some ⟨1, 8, .cell, [.nilFunc]⟩ := by kernel_rfl
@[simp] theorem ty224 : tyOf Tryz.prog 224 = some ⟨1, 8, .cell, [.nilFunc]⟩ := by kernel_rfl
end Go.Proofs.YtmgaoecfipkjbaaGreat.Sh

/- The lies, handed on one by one. -/
namespace Go.Proofs.YtmgaoecfipkjbaaGreat.Sh
open Go Go.RowKit

def liesP (g : Gm) (r : List Ce) (a n p : Nat) : List Li := ((List.range p).filter fun t => t != kOf g n a).map fun t => lieAt g r a n t
def liesN (g : Gm) (r : List Ce) (a n : Nat) : List Li := liesP g r a n (kl g a)
def liesL (g : Gm) (r : List Ce) (a : Nat) : List Li := (List.range r.length).flatMap (liesN g r a)
def itemsL (l : List Li) : List (List SV) := l.map fun x => [liS x]

def liesTo (g : Gm) (r : List Ce) (a n : Nat) : List Li := (List.range n).flatMap (liesN g r a)
theorem liesTo_succ (g : Gm) (r : List Ce) (a n : Nat) : liesTo g r a (n + 1) = liesTo g r a n ++ liesN g r a n := by
  unfold liesTo; rw [List.range_succ, List.flatMap_append]; simp
theorem liesTo_pre (g : Gm) (r : List Ce) (a : Nat) {n : Nat} (h : n ≤ r.length) : liesTo g r a n <+: liesL g r a := by
  unfold liesTo liesL
  obtain ⟨d, hd⟩ : ∃ d, r.length = n + d := ⟨r.length - n, by omega⟩
  rw [hd, List.range_add, List.flatMap_append]
  exact List.prefix_append _ _
theorem liesP_own {g : Gm} {r : List Ce} {a n p : Nat} (h : p = kOf g n a) : liesP g r a n (p + 1) = liesP g r a n p := by
  unfold liesP; rw [List.range_succ, List.filter_append]; simp [h]
theorem liesP_step {g : Gm} {r : List Ce} {a n p : Nat} (h : p ≠ kOf g n a) : liesP g r a n (p + 1) = liesP g r a n p ++ [lieAt g r a n p] := by
  unfold liesP; rw [List.range_succ, List.filter_append]; simp [h]
theorem liesP_pre (g : Gm) (r : List Ce) (a n : Nat) {p : Nat} (h : p ≤ kl g a) : liesP g r a n p <+: liesN g r a n := by
  unfold liesN liesP
  obtain ⟨d, hd⟩ : ∃ d, kl g a = p + d := ⟨kl g a - p, by omega⟩
  rw [hd, List.range_add, List.filter_append, List.map_append]
  exact List.prefix_append _ _
theorem lies_pre (g : Gm) (r : List Ce) (a : Nat) {n p : Nat} (hn : n < r.length) (h : p ≤ kl g a) : liesTo g r a n ++ liesP g r a n p <+: liesL g r a := by
  have h1 := liesTo_pre g r a (n := n + 1) hn
  rw [liesTo_succ] at h1
  obtain ⟨t, ht⟩ := liesP_pre g r a n h
  rw [← ht, ← List.append_assoc] at h1
  exact (List.prefix_append _ _).trans h1

set_option maxRecDepth 20000 in
set_option maxHeartbeats 1000000 in
theorem lies1_it (g : Gm) (r : List Ce) (h : Play g r) (a : Nat) (ha : a < g.agents.length) : IterS Tryz.prog 144 [.rp true (rowTb g r), .rp true [.int .i64 (a : Int)]] (itemsL (liesL g r a)) := by
  have hf := h.fine
  obtain ⟨h1, -, -, h4, h5⟩ := sizeOk_all hf.sz
  have hrl := h.good.2.2.1
  have hpl := profs_length g
  have hk4 := h4 _ (List.getElem_mem ha)
  have hkl := kl_eq ha
  refine iterS2 Tryz.func144 rfl (by rfl) (by kernel_rfl) (by rfl) (by kernel_rfl) ?_
  intro v J S base hy hJ0
  simp -dsimp -implicitDefEqProofs [Tryz.f144]
  refine eCall.of (places_s g r) (by simp) ?_
  simp -dsimp -implicitDefEqProofs
  have hstab : ∀ pre, pre <+: itemsL (liesL g r a) → ∀ w0 ok0, base w0 ok0 → Stable w0.Z (J pre) := fun pre hpre w0 ok0 hb => by
    rcases List.eq_nil_or_concat pre with e | ⟨p, x, e⟩
    · subst e; exact hJ0 w0 ok0 hb
    · rw [List.concat_eq_append] at e
      subst e; exact (hy p x hpre).st1 w0 ok0 hb
  have hpre : ∀ n, n ≤ r.length → itemsL (liesTo g r a n) <+: itemsL (liesL g r a) := fun n hn => by
    obtain ⟨t, ht⟩ := liesTo_pre g r a hn
    exact ⟨itemsL t, by rw [← ht]; simp [itemsL]⟩
  refine sw_range_e [0] (fun k => (SS.of [(1, .v (.one (.rp true (rowTb g r)))), (2, .v (.one (.rp true [.int .i64 (a : Int)]))), (3, .v (.one (.mp 0 0))), (11, .v (.one (.fn 154 [.rp true (rowTb g r)])))] [(0, ⟨147, [.val v]⟩)] 1).wx ⟨[], J (itemsL (liesTo g r a (min k r.length))), base⟩)
    (places1_it g r (by omega)) (by simp) (by kernel_rfl) (fun it hit => by obtain ⟨i, -, rfl⟩ := List.mem_map.1 hit; rfl) (Le.toX (by simp) (by simp) (by simp) (by simp [liesTo, itemsL])) (fun k => ⟨rfl, rfl, ?_, by simp, rfl, rfl⟩) (fun k w0 ok0 hb => hstab _ (hpre _ (Nat.min_le_right _ _)) w0 ok0 hb) ?_ ?_
  · intro o ob ho
    simp at ho
    simp [ho]
  · intro n hn
    rw [itemsP_len, hpl, ← hrl] at hn
    have hsp : Spot g r a n := ⟨h, ha, hn⟩
    obtain ⟨k1, k2⟩ := hsp.kof
    have al : a < (atG g n).length := by rw [atG_length]; exact ha
    have k1' : (atG g n)[a] = (kOf g n a : Int) := by rw [List.getElem?_eq_getElem al] at k1; exact Option.some.inj k1
    have hpn : (profs g)[n]?.getD [] = atG g n := by rw [profs_at (by omega)]; rfl
    have hpn' : itemsP (profs g) = itemsP (profs g) := rfl
    have hP := hsp.pair hn k2
    have hmz := hP.has
    have hz := (cap_mz (show mz (hasQ r[n] g.agents[a].kinds[kOf g n a] a) ≤ 2048 by omega)).2
    have hal := atG_length g n
    have e1 : min n r.length = n := by omega
    have e2 : min (n + 1) r.length = n + 1 := by omega
    rw [itemsP_get]
    simp -dsimp -implicitDefEqProofs [itemP, hpn, al, k1', hn, e1, e2]
    refine eCall.of (rhas_s g r r[n] a (kOf g n a) ha k2 hP) (by simp) ?_
    simp -dsimp -implicitDefEqProofs [frQ, ng, ha]
    have hpw : ∀ p, p ≤ kl g a → itemsL (liesTo g r a n ++ liesP g r a n p) <+: itemsL (liesL g r a) := fun p hp => by
      obtain ⟨t, ht⟩ := lies_pre g r a hn hp
      exact ⟨itemsL t, by rw [← ht]; simp [itemsL]⟩
    refine sw_loop_e (fun p : {p : Nat × Nat // p.1 ≤ kl g a} => (SS.of [(1, .v (.one (.rp true (rowTb g r)))), (2, .v (.one (.rp true [.int .i64 (a : Int)]))), (3, .v (.one (.mp 0 0))), (5, .v (.one (intsS (atG g n)))), (6, I .i64 (kOf g n a)), (7, .v (.one (.mp 1 0))), (35, I .i64 (kl g a)), (36, I .i64 p.1.1)]
        [(0, ⟨147, [.val v]⟩), (1, ⟨37, rowFr (frQ (hasQ r[n] g.agents[a].kinds[kOf g n a] a))⟩)] (p.1.2 + 2)).wx ⟨[], J (itemsL (liesTo g r a n ++ liesP g r a n p.1.1)), base⟩)
      (fun p => kl g a - p.1.1) ⟨(0, 0), Nat.zero_le _⟩ (by kernel_rfl) (Le.toX (by simp [hkl]) (by simp [frQ, ng]) (by simp) (by simp [liesP, e1])) ?_
    rintro ⟨⟨t, c⟩, ht⟩
    simp only at ht
    by_cases a3 : t < g.agents[a].kinds.length
    · have wt : IntKind.i64.wrap ((t : Int) + 1) = ((t + 1 : Nat) : Int) := by rw [wrap_i64 _ (by omega) (by omega)]; rfl
      by_cases c1 : t = kOf g n a
      · subst c1
        simp -dsimp -implicitDefEqProofs [hkl, a3]
        exact Again.by ⟨(kOf g n a + 1, c), by omega⟩ (Le.toX (by simp [wt, hkl]) (by simp) (by simp) (by simp [liesP_own])) (by simp; omega)
      · have c1' : ¬ (t : Int) = (kOf g n a : Int) := by omega
        have hgm := hsp.gain_mz a3
        have hgz := (cap_mz (show mz (gainQ g r a n t) ≤ 2048 by omega))
        obtain ⟨t1, t2⟩ := hsp.toAt a3
        have hP2 := hsp.pair t2 k2
        have hmz2 := hP2.has
        have hz2 := (cap_mz (show mz (hasQ r[toAt g n a t] g.agents[a].kinds[kOf g n a] a) ≤ 2048 by omega)).2
        have hsb := fsub_s (frQ (hasQ r[toAt g n a t] g.agents[a].kinds[kOf g n a] a)) (frQ (hasQ r[n] g.agents[a].kinds[kOf g n a] a)) (frQ_ok (by omega)) (frQ_ok (by omega))
        rw [fix_frQ hz2, fix_frQ hz, show hasQ r[toAt g n a t] g.agents[a].kinds[kOf g n a] a - hasQ r[n] g.agents[a].kinds[kOf g n a] a = gainQ g r a n t by unfold gainQ; rw [ceAt_eq t2, ceAt_eq hn, kdAt_eq ha k2], hgz.1] at hsb
        have hyi := hy (itemsL (liesTo g r a n ++ liesP g r a n t)) [liS (lieAt g r a n t)] (by
          have := hpw (t + 1) (by omega)
          rw [liesP_step c1, ← List.append_assoc] at this
          simpa [itemsL] using this)
        have hnx : itemsL (liesTo g r a n ++ liesP g r a n t) ++ [[liS (lieAt g r a n t)]] = itemsL (liesTo g r a n ++ liesP g r a n (t + 1)) := by rw [liesP_step c1]; simp [itemsL]
        rw [hnx] at hyi
        simp -dsimp -implicitDefEqProofs [hkl, a3, c1']
        refine eCall.of (after_s g r a n t hsp a3) (by simp) ?_
        simp -dsimp -implicitDefEqProofs
        refine eCall.of (rhas_s g r _ a (kOf g n a) ha k2 hP2) (by simp) ?_
        simp -dsimp -implicitDefEqProofs
        refine eCall.of hsb (by simp [frQ, ng]) ?_
        simp -dsimp -implicitDefEqProofs [show (atG g n).length * 8 ≤ 140737488355328 by omega, show (atG g n).length ≤ 140737488355328 by omega]
        refine ⟨.inr (by kernel_rfl), ?_⟩
        refine spec_yield (v := v) (args := [liS (lieAt g r a n t)]) (C1 := J (itemsL (liesTo g r a n ++ liesP g r a n (t + 1)))) (C2 := S) (by simp) (by simpa using hyi) (by simp [lieAt, frQ, ng]) ?_ ?_
        · simp -dsimp -implicitDefEqProofs
          exact Again.by ⟨(t + 1, c + 1), by omega⟩ (Le.toX (by simp [wt, hkl]) (by simp) (by simp) (by simp)) (by simp; omega)
        · simp -dsimp -implicitDefEqProofs
    have ht2 : t = kl g a := by omega
    subst ht2
    have e3 : liesTo g r a (n + 1) = liesTo g r a n ++ liesP g r a n (kl g a) := liesTo_succ g r a n
    simp -dsimp -implicitDefEqProofs [e2, e3]
  · simp -dsimp -implicitDefEqProofs [itemsP_len, hpl, ← hrl]
    exact .inl rfl
end Go.Proofs.YtmgaoecfipkjbaaGreat.Sh

/- The reference's Gains. -/
namespace Go.Proofs.YtmgaoecfipkjbaaGreat.Sh
open Go Go.RowKit

def bst (b l : Li) : Li := if b.gain < l.gain then l else b
def bestT (g : Gm) (r : List Ce) (a n : Nat) (z : Li) (t : Nat) : Li := (List.range t).foldl (fun b t => bst b (lieAt g r a n t)) z
def bestN (g : Gm) (r : List Ce) (a n : Nat) : Li := (List.range n).foldl (fun b n => bestT g r a n b (kl g a)) (noLi a 0)
def gainsL (g : Gm) (r : List Ce) : List Li := (List.range g.agents.length).map fun (a : Nat) => bestN g r a r.length

theorem bestT_succ (g : Gm) (r : List Ce) (a n : Nat) (z : Li) (t : Nat) : bestT g r a n z (t + 1) = bst (bestT g r a n z t) (lieAt g r a n t) := by
  unfold bestT; rw [List.range_succ, List.foldl_append]; rfl
theorem bestN_succ (g : Gm) (r : List Ce) (a n : Nat) : bestN g r a (n + 1) = bestT g r a n (bestN g r a n) (kl g a) := by
  unfold bestN; rw [List.range_succ, List.foldl_append]; rfl

theorem bestT_mz {g : Gm} {r : List Ce} {a n : Nat} (h : Spot g r a n) {z : Li} (hz : mz z.gain ≤ 445) : ∀ t, t ≤ kl g a → mz (bestT g r a n z t).gain ≤ 445
  | 0, _ => hz
  | t + 1, ht => by
    rw [bestT_succ, bst]
    split
    · exact h.gain_mz (by rw [← kl_eq h.ha]; omega)
    · exact bestT_mz h hz t (by omega)
theorem bestN_mz {g : Gm} {r : List Ce} {a : Nat} (h : Play g r) (ha : a < g.agents.length) : ∀ n, n ≤ r.length → mz (bestN g r a n).gain ≤ 445
  | 0, _ => by show mz 0 ≤ 445; have : mz 0 = 1 := by decide +kernel
               omega
  | n + 1, hn => by
    rw [bestN_succ]
    exact bestT_mz ⟨h, ha, hn⟩ (bestN_mz h ha n (by omega)) _ (Nat.le_refl _)

instance : RowF 7 rowLi := ⟨fun _ => rfl, fun x s h => by simp at h; rcases h with rfl | rfl | rfl | rfl | rfl | rfl | rfl <;> rfl⟩

set_option maxRecDepth 20000 in
set_option maxHeartbeats 1000000 in
theorem gainsR_s (g : Gm) (r : List Ce) (h : Play g r) : CallsS Tryz.prog 21 [gmS g, ruS r] (.v (.one (lisS (gainsL g r)))) := by
  have hf := h.fine
  obtain ⟨h1, -, -, h4, h5⟩ := sizeOk_all hf.sz
  have hrl := h.good.2.2.1
  have hgl : (gainsL g r).length = g.agents.length := by simp [gainsL]
  refine calls Tryz.func21 rfl (by rfl) (by rfl) (by kernel_rfl) ?_
  simp -dsimp -implicitDefEqProofs [Tryz.f21]
  refine eCall.of (rightR4_s g r h.seen 0 (.inr (.inr ⟨h.good, rfl⟩))) (by simp) ?_
  simp -dsimp -implicitDefEqProofs
  refine sw_loop_e (fun p : {p : Nat × Nat × Nat // p.1 ≤ g.agents.length ∧ 1 < p.2.1 ∧ p.2.2 < p.2.1 ∧ (p.1 ≠ 0 → 1 < p.2.2)} => SS.of [(2, .v (.one (.mp 0 0))), (3, .v (.one (.mp 1 0))), (5, if p.1.1 = 0 then .v (.one .nils) else .v (.one (.ms p.1.2.2 0 p.1.1 7 true))), (6, I .i64 p.1.1)] ((0, ⟨26, rowGm g⟩) :: (1, ⟨29, [cesS r]⟩) :: if p.1.1 = 0 then [] else [(p.1.2.2, ⟨39, flat rowLi ((gainsL g r).take p.1.1)⟩)]) p.1.2.1)
    (fun p => g.agents.length - p.1.1) ⟨(0, 2, 0), Nat.zero_le _, by decide, by decide, fun h => absurd rfl h⟩ (by kernel_rfl) (Le.to (by simp) (by simp) (by simp)) ?_
  rintro ⟨⟨a, m, o⟩, hi, hm, ho, ho'⟩
  simp only at hi hm ho ho'
  by_cases a1 : a < g.agents.length
  · have wa : IntKind.i64.wrap ((a : Int) + 1) = ((a + 1 : Nat) : Int) := by rw [wrap_i64 _ (by omega) (by omega)]; rfl
    have hk4 := h4 _ (List.getElem_mem a1)
    have hkl := kl_eq a1
    have x1 : ¬ m = 0 := by omega
    have x1' : ¬ 0 = m := by omega
    have x2 : ¬ m = 1 := by omega
    have x2' : ¬ 1 = m := by omega
    have hfl := flat_snoc (f := rowLi) (bestN g r a r.length) ((gainsL g r).take a)
    have hsn := takeSnoc (gainsL g r) a (by omega)
    rw [show (gainsL g r)[a]'(by omega) = bestN g r a r.length by simp [gainsL]] at hsn
    rw [← hsn] at hfl
    have hll : ((gainsL g r).take a).length = a := by simp; omega
    by_cases a0 : a = 0
    · subst a0
      rw [List.take_zero, flat_nil, List.nil_append] at hfl
      simp -dsimp -implicitDefEqProofs [a1, x1, x1', x2, x2']
      refine eCall.of (noLie_s 0 0) (by simp) ?_
      simp -dsimp -implicitDefEqProofs [x1, x1', x2, x2']
      refine sw_loop_e (fun p : {p : Nat × Nat // p.1 ≤ r.length ∧ m < p.2} => SS.of [(2, .v (.one (.mp 0 0))), (3, .v (.one (.mp 1 0))), (5, .v (.one .nils)), (6, I .i64 ((0 : Nat) : Int)), (7, .v (.one (.mp m 0))), (8, I .i64 p.1.1)] ((0, ⟨26, rowGm g⟩) :: (1, ⟨29, [cesS r]⟩) :: (m, ⟨39, rowLi (bestN g r 0 p.1.1)⟩) :: []) p.1.2)
        (fun p => r.length - p.1.1) ⟨(0, m + 1), Nat.zero_le _, by simp⟩ (by kernel_rfl) (Le.to (by simp [x1, x1', x2, x2']) (by simp [bestN, noLi, frQ, ng, x1, x1', x2, x2']) (by simp)) ?_
      rintro ⟨⟨n, d⟩, hn, hd⟩
      simp only at hn hd
      have w1 : ¬ d = 0 := by omega
      have w1' : ¬ 0 = d := by omega
      have w2 : ¬ d = 1 := by omega
      have w2' : ¬ 1 = d := by omega
      have w3 : ¬ d = m := by omega
      have w3' : ¬ m = d := by omega
      by_cases a2 : n < r.length
      · have wn : IntKind.i64.wrap ((n : Int) + 1) = ((n + 1 : Nat) : Int) := by rw [wrap_i64 _ (by omega) (by omega)]; rfl
        have hsp : Spot g r 0 n := ⟨h, a1, a2⟩
        have hbz := bestN_mz h a1 n hn
        generalize hz : bestN g r 0 n = z at *
        simp -dsimp -implicitDefEqProofs [a1, a2, x1, x1', x2, x2']
        refine sw_loop_e (fun p : {p : Nat × Nat // p.1 ≤ g.agents[0].kinds.length ∧ m < p.2} => SS.of [(2, .v (.one (.mp 0 0))), (3, .v (.one (.mp 1 0))), (5, .v (.one .nils)), (6, I .i64 ((0 : Nat) : Int)), (7, .v (.one (.mp m 0))), (8, I .i64 n), (9, I .i64 p.1.1)] ((0, ⟨26, rowGm g⟩) :: (1, ⟨29, [cesS r]⟩) :: (m, ⟨39, rowLi (bestT g r 0 n z p.1.1)⟩) :: []) p.1.2)
          (fun p => g.agents[0].kinds.length - p.1.1) ⟨(0, d), Nat.zero_le _, hd⟩ (by kernel_rfl) (Le.to (by simp [x1, x1', x2, x2']) (by simp [bestT, x1, x1', x2, x2']) (by simp)) ?_
        rintro ⟨⟨t, e⟩, ht, he⟩
        simp only at ht he
        have v1 : ¬ e = 0 := by omega
        have v1' : ¬ 0 = e := by omega
        have v2 : ¬ e = 1 := by omega
        have v2' : ¬ 1 = e := by omega
        have v3 : ¬ e = m := by omega
        have v3' : ¬ m = e := by omega
        by_cases a3 : t < g.agents[0].kinds.length
        · have wt : IntKind.i64.wrap ((t : Int) + 1) = ((t + 1 : Nat) : Int) := by rw [wrap_i64 _ (by omega) (by omega)]; rfl
          have hmz := hsp.gain_mz a3
          have hz1 := (cap_mz (show mz (gainQ g r 0 n t) ≤ 2048 by omega)).2
          have hbt := bestT_mz hsp hbz t (by omega)
          have hz2 := (cap_mz (show mz (bestT g r 0 n z t).gain ≤ 2048 by omega)).2
          have hc := cmpR_s (frQ (gainQ g r 0 n t)) (frQ (bestT g r 0 n z t).gain) (frQ_ok (by omega)) (frQ_ok (by omega))
          rw [fix_frQ hz1, fix_frQ hz2] at hc
          have hst := bestT_succ g r 0 n z t
          simp -dsimp -implicitDefEqProofs [a1, a2, a3, v1, v1', v2, v2', v3, v3', x1, x1', x2, x2']
          refine eCall.of (gainR_s g r 0 n t hsp a3) (by simp) ?_
          simp -dsimp -implicitDefEqProofs [v1, v1', v2, v2', v3, v3', x1, x1', x2, x2']
          refine eCall.of hc (by simp [frQ, ng]) ?_
          by_cases c1 : (bestT g r 0 n z t).gain < gainQ g r 0 n t
          · rw [bst, if_pos (show (bestT g r 0 n z t).gain < (lieAt g r 0 n t).gain from c1)] at hst
            simp -dsimp -implicitDefEqProofs [cmpQ_pos.2 c1, v1, v1', v2, v2', v3, v3', x1, x1', x2, x2']
            refine eCall.of (lieR_s g r 0 n t hsp (gainQ g r 0 n t)) (by simp [frQ, ng]) ?_
            simp -dsimp -implicitDefEqProofs [v1, v1', v2, v2', v3, v3', x1, x1', x2, x2']
            exact Again.by ⟨(t + 1, e + 1), a3, by simp only; omega⟩ (Le.to (by simp [wt, x1, x1', x2, x2']) (by simp [hst, lieAt, frQ, ng, v1, v1', v2, v2', v3, v3', x1, x1', x2, x2']) (by simp)) (by simp; omega)
          · rw [bst, if_neg (show ¬ (bestT g r 0 n z t).gain < (lieAt g r 0 n t).gain from c1)] at hst
            simp -dsimp -implicitDefEqProofs [mt cmpQ_pos.1 c1, v1, v1', v2, v2', v3, v3', x1, x1', x2, x2']
            exact Again.by ⟨(t + 1, e + 1), a3, by simp only; omega⟩ (Le.to (by simp [wt, x1, x1', x2, x2']) (by simp [hst, v1, v1', v2, v2', v3, v3', x1, x1', x2, x2']) (by simp)) (by simp; omega)
        have ht2 : t = g.agents[0].kinds.length := by omega
        subst ht2
        have hbn : bestN g r 0 (n + 1) = bestT g r 0 n z g.agents[0].kinds.length := by rw [bestN_succ, hz, hkl]
        simp -dsimp -implicitDefEqProofs [a1, x1, x1', x2, x2']
        exact Again.by ⟨(n + 1, e), a2, by simp only; omega⟩ (Le.to (by simp [wn, x1, x1', x2, x2']) (by simp [hbn, x1, x1', x2, x2']) (by simp)) (by simp; omega)
      have hn2 : n = r.length := by omega
      subst hn2
      simp -dsimp -implicitDefEqProofs [slots, hll, w1, w1', w2, w2', w3, w3', x1, x1', x2, x2']
      exact Again.by ⟨(0 + 1, d + 2, d + 1), by omega, by simp only; omega, by simp only; omega, fun _ => by simp only; omega⟩ (Le.to (by simp [wa, i64_1, x1, x1', x2, x2']) (by simp [hfl, frQ, ng, w1, w1', w2, w2', w3, w3', x1, x1', x2, x2']) (by simp)) (by simp; omega)
    · have oo := ho' a0
      have o0 : ¬ o = 0 := by omega
      have o0' : ¬ 0 = o := by omega
      have o1 : ¬ o = 1 := by omega
      have o1' : ¬ 1 = o := by omega
      have om : ¬ o = m := by omega
      have om' : ¬ m = o := by omega
      simp -dsimp -implicitDefEqProofs [a1, a0, x1, x1', x2, x2', o0, o0', o1, o1', om, om']
      refine eCall.of (noLie_s a 0) (by simp) ?_
      simp -dsimp -implicitDefEqProofs [a0, x1, x1', x2, x2', o0, o0', o1, o1', om, om']
      refine sw_loop_e (fun p : {p : Nat × Nat // p.1 ≤ r.length ∧ m < p.2} => SS.of [(2, .v (.one (.mp 0 0))), (3, .v (.one (.mp 1 0))), (5, .v (.one (.ms o 0 a 7 true))), (6, I .i64 (a : Int)), (7, .v (.one (.mp m 0))), (8, I .i64 p.1.1)] ((0, ⟨26, rowGm g⟩) :: (1, ⟨29, [cesS r]⟩) :: (m, ⟨39, rowLi (bestN g r a p.1.1)⟩) :: (o, ⟨39, flat rowLi ((gainsL g r).take a)⟩) :: []) p.1.2)
        (fun p => r.length - p.1.1) ⟨(0, m + 1), Nat.zero_le _, by simp⟩ (by kernel_rfl) (Le.to (by simp [a0, x1, x1', x2, x2', o0, o0', o1, o1', om, om']) (by simp [bestN, noLi, frQ, ng, a0, x1, x1', x2, x2', o0, o0', o1, o1', om, om']) (by simp)) ?_
      rintro ⟨⟨n, d⟩, hn, hd⟩
      simp only at hn hd
      have w1 : ¬ d = 0 := by omega
      have w1' : ¬ 0 = d := by omega
      have w2 : ¬ d = 1 := by omega
      have w2' : ¬ 1 = d := by omega
      have w3 : ¬ d = m := by omega
      have w3' : ¬ m = d := by omega
      have od : ¬ o = d := by omega
      have od' : ¬ d = o := by omega
      by_cases a2 : n < r.length
      · have wn : IntKind.i64.wrap ((n : Int) + 1) = ((n + 1 : Nat) : Int) := by rw [wrap_i64 _ (by omega) (by omega)]; rfl
        have hsp : Spot g r a n := ⟨h, a1, a2⟩
        have hbz := bestN_mz h a1 n hn
        generalize hz : bestN g r a n = z at *
        simp -dsimp -implicitDefEqProofs [a1, a2, a0, x1, x1', x2, x2', o0, o0', o1, o1', om, om', od, od']
        refine sw_loop_e (fun p : {p : Nat × Nat // p.1 ≤ g.agents[a].kinds.length ∧ m < p.2} => SS.of [(2, .v (.one (.mp 0 0))), (3, .v (.one (.mp 1 0))), (5, .v (.one (.ms o 0 a 7 true))), (6, I .i64 (a : Int)), (7, .v (.one (.mp m 0))), (8, I .i64 n), (9, I .i64 p.1.1)] ((0, ⟨26, rowGm g⟩) :: (1, ⟨29, [cesS r]⟩) :: (m, ⟨39, rowLi (bestT g r a n z p.1.1)⟩) :: (o, ⟨39, flat rowLi ((gainsL g r).take a)⟩) :: []) p.1.2)
          (fun p => g.agents[a].kinds.length - p.1.1) ⟨(0, d), Nat.zero_le _, hd⟩ (by kernel_rfl) (Le.to (by simp [a0, x1, x1', x2, x2', o0, o0', o1, o1', om, om', od, od']) (by simp [bestT, a0, x1, x1', x2, x2', o0, o0', o1, o1', om, om', od, od']) (by simp)) ?_
        rintro ⟨⟨t, e⟩, ht, he⟩
        simp only at ht he
        have v1 : ¬ e = 0 := by omega
        have v1' : ¬ 0 = e := by omega
        have v2 : ¬ e = 1 := by omega
        have v2' : ¬ 1 = e := by omega
        have v3 : ¬ e = m := by omega
        have v3' : ¬ m = e := by omega
        have oe : ¬ o = e := by omega
        have oe' : ¬ e = o := by omega
        by_cases a3 : t < g.agents[a].kinds.length
        · have wt : IntKind.i64.wrap ((t : Int) + 1) = ((t + 1 : Nat) : Int) := by rw [wrap_i64 _ (by omega) (by omega)]; rfl
          have hmz := hsp.gain_mz a3
          have hz1 := (cap_mz (show mz (gainQ g r a n t) ≤ 2048 by omega)).2
          have hbt := bestT_mz hsp hbz t (by omega)
          have hz2 := (cap_mz (show mz (bestT g r a n z t).gain ≤ 2048 by omega)).2
          have hc := cmpR_s (frQ (gainQ g r a n t)) (frQ (bestT g r a n z t).gain) (frQ_ok (by omega)) (frQ_ok (by omega))
          rw [fix_frQ hz1, fix_frQ hz2] at hc
          have hst := bestT_succ g r a n z t
          simp -dsimp -implicitDefEqProofs [a1, a2, a3, v1, v1', v2, v2', v3, v3', oe, oe', a0, x1, x1', x2, x2', o0, o0', o1, o1', om, om', od, od']
          refine eCall.of (gainR_s g r a n t hsp a3) (by simp) ?_
          simp -dsimp -implicitDefEqProofs [v1, v1', v2, v2', v3, v3', oe, oe', a0, x1, x1', x2, x2', o0, o0', o1, o1', om, om', od, od']
          refine eCall.of hc (by simp [frQ, ng]) ?_
          by_cases c1 : (bestT g r a n z t).gain < gainQ g r a n t
          · rw [bst, if_pos (show (bestT g r a n z t).gain < (lieAt g r a n t).gain from c1)] at hst
            simp -dsimp -implicitDefEqProofs [cmpQ_pos.2 c1, v1, v1', v2, v2', v3, v3', oe, oe', a0, x1, x1', x2, x2', o0, o0', o1, o1', om, om', od, od']
            refine eCall.of (lieR_s g r a n t hsp (gainQ g r a n t)) (by simp [frQ, ng]) ?_
            simp -dsimp -implicitDefEqProofs [v1, v1', v2, v2', v3, v3', oe, oe', a0, x1, x1', x2, x2', o0, o0', o1, o1', om, om', od, od']
            exact Again.by ⟨(t + 1, e + 1), a3, by simp only; omega⟩ (Le.to (by simp [wt, a0, x1, x1', x2, x2', o0, o0', o1, o1', om, om', od, od']) (by simp [hst, lieAt, frQ, ng, v1, v1', v2, v2', v3, v3', oe, oe', a0, x1, x1', x2, x2', o0, o0', o1, o1', om, om', od, od']) (by simp)) (by simp; omega)
          · rw [bst, if_neg (show ¬ (bestT g r a n z t).gain < (lieAt g r a n t).gain from c1)] at hst
            simp -dsimp -implicitDefEqProofs [mt cmpQ_pos.1 c1, v1, v1', v2, v2', v3, v3', oe, oe', a0, x1, x1', x2, x2', o0, o0', o1, o1', om, om', od, od']
            exact Again.by ⟨(t + 1, e + 1), a3, by simp only; omega⟩ (Le.to (by simp [wt, a0, x1, x1', x2, x2', o0, o0', o1, o1', om, om', od, od']) (by simp [hst, v1, v1', v2, v2', v3, v3', oe, oe', a0, x1, x1', x2, x2', o0, o0', o1, o1', om, om', od, od']) (by simp)) (by simp; omega)
        have ht2 : t = g.agents[a].kinds.length := by omega
        subst ht2
        have hbn : bestN g r a (n + 1) = bestT g r a n z g.agents[a].kinds.length := by rw [bestN_succ, hz, hkl]
        simp -dsimp -implicitDefEqProofs [a1, a0, x1, x1', x2, x2', o0, o0', o1, o1', om, om', od, od']
        exact Again.by ⟨(n + 1, e), a2, by simp only; omega⟩ (Le.to (by simp [wn, a0, x1, x1', x2, x2', o0, o0', o1, o1', om, om', od, od']) (by simp [hbn, a0, x1, x1', x2, x2', o0, o0', o1, o1', om, om', od, od']) (by simp)) (by simp; omega)
      have hn2 : n = r.length := by omega
      subst hn2
      simp -dsimp -implicitDefEqProofs [slots, hll, w1, w1', w2, w2', w3, w3', a0, x1, x1', x2, x2', o0, o0', o1, o1', om, om', od, od']
      refine ⟨by omega, ?_⟩
      exact Again.by ⟨(a + 1, d + 2, d + 1), by omega, by simp only; omega, by simp only; omega, fun _ => by simp only; omega⟩ (Le.to (by simp [wa, i64_1, a0, x1, x1', x2, x2', o0, o0', o1, o1', om, om', od, od']) (by simp [hfl, frQ, ng, w1, w1', w2, w2', w3, w3', a0, x1, x1', x2, x2', o0, o0', o1, o1', om, om', od, od']) (by simp)) (by simp; omega)
  have hi2 : a = g.agents.length := by omega
  subst hi2
  have n0 : ¬ g.agents.length = 0 := fun e => h.good.2.1.ag (List.length_eq_zero_iff.1 e)
  have oo := ho' n0
  have o0 : ¬ o = 0 := by omega
  have o0' : ¬ 0 = o := by omega
  have o1 : ¬ o = 1 := by omega
  have o1' : ¬ 1 = o := by omega
  have htk : (gainsL g r).take g.agents.length = gainsL g r := List.take_of_length_le (by omega)
  simp -dsimp -implicitDefEqProofs [n0, o0, o0', o1, o1', htk, hgl]
  try rfl
end Go.Proofs.YtmgaoecfipkjbaaGreat.Sh

/- The lies in order: the first that gains, and the best one. No program in sight. -/
namespace Go.Proofs.YtmgaoecfipkjbaaGreat.Sh
open Go Go.RowKit

theorem flatMap_split {α β : Type} (f : α → List β) : ∀ (l : List α) {pre : List β} {x : β} {post : List β}, l.flatMap f = pre ++ x :: post → ∃ l1 y l2 p q, l = l1 ++ y :: l2 ∧ f y = p ++ x :: q ∧ pre = l1.flatMap f ++ p
  | [], pre, x, post, h => by simp at h
  | y :: l, pre, x, post, h => by
    rw [List.flatMap_cons] at h
    rcases List.append_eq_append_iff.1 h with ⟨c, e1, e2⟩ | ⟨c, e1, e2⟩
    · obtain ⟨l1, z, l2, p, q, h1, h2, h3⟩ := flatMap_split f l e2
      exact ⟨y :: l1, z, l2, p, q, by rw [h1]; rfl, h2, by rw [e1, h3, List.flatMap_cons, List.append_assoc]⟩
    · cases c with
      | nil =>
        rw [List.nil_append] at e2
        obtain ⟨l1, z, l2, p, q, h1, h2, h3⟩ := flatMap_split f l (pre := []) (by rw [List.nil_append]; exact e2.symm)
        exact ⟨y :: l1, z, l2, p, q, by rw [h1]; rfl, h2, by rw [List.flatMap_cons, List.append_assoc, ← h3, e1, List.append_nil, List.append_nil]⟩
      | cons c0 c =>
        injection e2 with e2 e3
        subst e2
        exact ⟨[], y, l, pre, c, rfl, e1, rfl⟩

theorem range_split {N : Nat} {l1 l2 : List Nat} {n : Nat} (h : List.range N = l1 ++ n :: l2) : l1 = List.range n ∧ n < N := by
  have hl : l1.length < N := by have := congrArg List.length h; simp at this; omega
  have h1 : n = l1.length := by
    have : (List.range N)[l1.length]? = some n := by rw [h]; simp
    rw [List.getElem?_range hl] at this
    exact (Option.some.inj this).symm
  refine ⟨?_, by omega⟩
  have : (List.range N).take l1.length = l1 := by rw [h]; simp
  rw [← this, List.take_range, h1]
  congr 1; omega

theorem gain_own {g : Gm} {r : List Ce} {a n : Nat} (h : Spot g r a n) : gainQ g r a n (kOf g n a) = 0 := by
  obtain ⟨k1, k2⟩ := h.kof
  have al : a < (atG g n).length := by rw [atG_length]; exact h.ha
  have hn := h.hn
  have hrl := h.play.good.2.2.1
  have e : putP (atG g n) a (kOf g n a) = atG g n := by
    unfold putP
    rw [if_pos (by omega)]
    apply List.ext_getElem?
    intro i
    rw [List.getElem?_set]
    split
    · rename_i hi
      have : a = i := by simpa using hi
      subst this
      simp only [Int.toNat_natCast, al, if_true]
      exact k1.symm
    · rfl
  have e2 : toAt g n a (kOf g n a) = n := by
    unfold toAt
    rw [e, whr_at (by omega)]
    rfl
  unfold gainQ
  rw [e2]
  exact Rat.sub_self ..

theorem mem_liesP {g : Gm} {r : List Ce} {a n p t : Nat} (ht : t < p) (h : t ≠ kOf g n a) : lieAt g r a n t ∈ liesP g r a n p :=
  List.mem_map.2 ⟨t, List.mem_filter.2 ⟨List.mem_range.2 ht, by simpa using h⟩, rfl⟩
theorem mem_liesTo {g : Gm} {r : List Ce} {a n N t : Nat} (hn : n < N) (ht : t < kl g a) (h : t ≠ kOf g n a) : lieAt g r a n t ∈ liesTo g r a N :=
  List.mem_flatMap.2 ⟨n, List.mem_range.2 hn, mem_liesP ht h⟩

theorem noP {g : Gm} {r : List Ce} {a n p : Nat} (hs : Spot g r a n) (h : ∀ y ∈ liesP g r a n p, ¬ 0 < y.gain) : ∀ t, t < p → ¬ 0 < gainQ g r a n t := by
  intro t ht
  by_cases e : t = kOf g n a
  · rw [e, gain_own hs]; exact Rat.lt_irrefl
  · exact h _ (mem_liesP ht e)

theorem lies_none {g : Gm} {r : List Ce} {a : Nat} (h : Play g r) (ha : a < g.agents.length) (h0 : ∀ y ∈ liesL g r a, ¬ 0 < y.gain) : NoA g r a := by
  intro n hn
  exact noP ⟨h, ha, hn⟩ (fun y hy => h0 y (List.mem_flatMap.2 ⟨n, List.mem_range.2 hn, hy⟩))

theorem lies_first {g : Gm} {r : List Ce} {a : Nat} (h : Play g r) (ha : a < g.agents.length) {pre post : List Li} {x : Li} (e : liesL g r a = pre ++ x :: post) (hp : ∀ y ∈ pre, ¬ 0 < y.gain) (hx : 0 < x.gain) (h0 : ∀ a', a' < a → NoA g r a') :
    ∃ n t, FirstAt g r a n t ∧ x = lieAt g r a n t := by
  obtain ⟨l1, n, l2, p, q, e1, e2, rfl⟩ := flatMap_split _ _ e
  obtain ⟨rfl, hn⟩ := range_split e1
  unfold liesN liesP at e2
  obtain ⟨l3, l4, e3, rfl, e4⟩ := List.map_eq_append_iff.1 e2
  obtain ⟨t, l5, rfl, rfl, rfl⟩ := List.map_eq_cons_iff.1 e4
  obtain ⟨m1, m2, e5, rfl, e6⟩ := List.filter_eq_append_iff.1 e3
  obtain ⟨m3, m4, rfl, h5, h6, rfl⟩ := List.filter_eq_cons_iff.1 e6
  rw [← List.append_assoc] at e5
  obtain ⟨e7, ht⟩ := range_split e5
  refine ⟨n, t, ⟨ha, hn, ht, hx, h0, fun n' hn' => noP ⟨h, ha, by omega⟩ (fun y hy => hp y (List.mem_append_left _ (List.mem_flatMap.2 ⟨n', List.mem_range.2 hn', hy⟩))), ?_⟩, rfl⟩
  refine noP ⟨h, ha, hn⟩ (fun y hy => ?_)
  obtain ⟨t', ht', rfl⟩ := List.mem_map.1 hy
  obtain ⟨g1, g2⟩ := List.mem_filter.1 ht'
  rw [← e7] at g1
  rcases List.mem_append.1 g1 with g1 | g1
  · exact hp _ (List.mem_append_right _ (List.mem_map.2 ⟨t', List.mem_filter.2 ⟨g1, g2⟩, rfl⟩))
  · exact absurd g2 (h5 _ g1)

theorem mem_lies {g : Gm} {r : List Ce} {a : Nat} (h : Play g r) (ha : a < g.agents.length) {x : Li} (hx : x ∈ liesL g r a) : mz x.gain ≤ 445 ∧ x.prof.length = g.agents.length := by
  obtain ⟨n, hn, hx⟩ := List.mem_flatMap.1 hx
  obtain ⟨t, ht, rfl⟩ := List.mem_map.1 hx
  have hn := List.mem_range.1 hn
  have ht := List.mem_range.1 (List.mem_filter.1 ht).1
  rw [kl_eq ha] at ht
  exact ⟨Spot.gain_mz ⟨h, ha, hn⟩ ht, atG_length g n⟩

/-- The first of a row that none behind it is ahead of. -/
def mst {α : Type} (ahd : α → α → Bool) (b : Option α) (x : α) : Option α := match b with
  | none => some x
  | some y => if ahd x y = true then some x else some y
def gtL (x y : Li) : Bool := decide (y.gain < x.gain)
def orNo (a : Nat) (m : Option Li) : Li := match m with
  | none => noLi a 0
  | some l => if 0 < l.gain then l else noLi a 0
def topL (g : Gm) (r : List Ce) (a : Nat) : Option Li := (liesL g r a).foldl (mst gtL) none

theorem bst_mst (a : Nat) : ∀ (l : List Li) (m : Option Li), l.foldl bst (orNo a m) = orNo a (l.foldl (mst gtL) m)
  | [], m => rfl
  | x :: l, m => by
    rw [List.foldl_cons, List.foldl_cons, ← bst_mst a l]
    congr 1
    cases m with
    | none => rfl
    | some b =>
      by_cases c1 : 0 < b.gain
      · by_cases c2 : b.gain < x.gain
        · have : 0 < x.gain := by grind
          simp only [orNo, mst, bst, gtL, c1, c2, this, if_true, decide_true]
        · simp only [orNo, mst, bst, gtL, c1, c2, if_true, if_false, decide_false, Bool.false_eq_true]
      · by_cases c2 : b.gain < x.gain
        · simp only [orNo, mst, bst, gtL, c1, c2, noLi, if_true, if_false, decide_true]
        · have : ¬ 0 < x.gain := by grind
          simp only [orNo, mst, bst, gtL, c1, c2, this, noLi, if_false, decide_false, Bool.false_eq_true]

theorem bestT_lies {g : Gm} {r : List Ce} {a n : Nat} (hs : Spot g r a n) {z : Li} (hz : 0 ≤ z.gain) : ∀ t, bestT g r a n z t = (liesP g r a n t).foldl bst z ∧ 0 ≤ (bestT g r a n z t).gain
  | 0 => ⟨rfl, hz⟩
  | t + 1 => by
    obtain ⟨h1, h2⟩ := bestT_lies hs hz t
    rw [bestT_succ]
    by_cases e : t = kOf g n a
    · have : bst (bestT g r a n z t) (lieAt g r a n t) = bestT g r a n z t := by
        unfold bst
        rw [if_neg]
        show ¬ _ < gainQ g r a n t
        rw [e, gain_own hs]
        rw [e] at h2
        exact Rat.not_lt.2 h2
      rw [this, liesP_own e]
      exact ⟨h1, h2⟩
    · rw [liesP_step e, List.foldl_append, ← h1]
      refine ⟨rfl, ?_⟩
      unfold bst
      split
      · rename_i c
        exact Rat.le_of_lt (by grind)
      · exact h2

theorem bestN_lies {g : Gm} {r : List Ce} {a : Nat} (h : Play g r) (ha : a < g.agents.length) : ∀ n, n ≤ r.length → bestN g r a n = (liesTo g r a n).foldl bst (noLi a 0) ∧ 0 ≤ (bestN g r a n).gain
  | 0, _ => ⟨rfl, by show (0 : Rat) ≤ 0; exact Rat.le_refl⟩
  | n + 1, hn => by
    obtain ⟨h1, h2⟩ := bestN_lies h ha n (by omega)
    obtain ⟨h3, h4⟩ := bestT_lies ⟨h, ha, hn⟩ h2 (kl g a)
    rw [bestN_succ, liesTo_succ, List.foldl_append, ← h1]
    exact ⟨h3, h4⟩

theorem best_top {g : Gm} {r : List Ce} {a : Nat} (h : Play g r) (ha : a < g.agents.length) : bestN g r a r.length = orNo a (topL g r a) := by
  rw [(bestN_lies h ha r.length (Nat.le_refl _)).1]
  exact bst_mst a _ none
end Go.Proofs.YtmgaoecfipkjbaaGreat.Sh

