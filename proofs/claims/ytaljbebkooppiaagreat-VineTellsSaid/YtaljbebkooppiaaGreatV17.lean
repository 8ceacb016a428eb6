/- A part of the proof: R40, R143, R36, R37, R38 -/
import Derived.Test.YtaljbebkooppiaaGreatV16
set_option linter.unusedSimpArgs false
set_option linter.unusedVariables false
set_option linter.unusedSectionVars false
namespace Go.Proofs.YtaljbebkooppiaaGreat.Sh
open Go Go.RowKit
def profR : List Nat → List (List Int)
  | [] => [[]]
  | n :: r => (profR r).flatMap fun p => (List.range n).map fun (k : Nat) => p ++ [(k : Int)]
def atR : List Nat → Nat → List Int
  | [], _ => []
  | n :: r, i => atR r (i / n) ++ [((i % n : Nat) : Int)]
def prodR : List Nat → Nat
  | [] => 1
  | n :: r => prodR r * n
theorem profR_length : ∀ r, (profR r).length = prodR r
  | [] => rfl
  | n :: r => by
    rw [profR, List.length_flatMap]
    have : (List.map (fun p => ((List.range n).map fun (k : Nat) => p ++ [(k : Int)]).length) (profR r)) = List.replicate (profR r).length n := by
      rw [List.eq_replicate_iff]
      exact ⟨by simp, fun b hb => by obtain ⟨p, -, rfl⟩ := List.mem_map.1 hb; simp⟩
    rw [this, List.sum_replicate_nat, profR_length r, prodR]
theorem flatMap_at {α β : Type} (f : α → List β) (n : Nat) (hf : ∀ x, (f x).length = n) (hn : 0 < n) : ∀ (l : List α) (i : Nat), (l.flatMap f)[i]? = (l[i / n]?).bind fun x => (f x)[i % n]?
  | [], i => by simp
  | x :: l, i => by
    rw [List.flatMap_cons]
    by_cases h : i < n
    · rw [List.getElem?_append_left (by rw [hf]; exact h), Nat.div_eq_of_lt h, Nat.mod_eq_of_lt h]; rfl
    · rw [List.getElem?_append_right (by rw [hf]; omega), hf, flatMap_at f n hf hn l (i - n)]
      obtain ⟨d, rfl⟩ : ∃ d, i = d + n := ⟨i - n, by omega⟩
      rw [Nat.add_sub_cancel, Nat.add_div_right _ hn, Nat.add_mod_right, List.getElem?_cons_succ]
theorem profR_at : ∀ (r : List Nat) (i : Nat), i < prodR r → (profR r)[i]? = some (atR r i)
  | [], i, h => by
    have : i = 0 := by have : prodR [] = 1 := rfl; omega
    subst this; rfl
  | n :: r, i, h => by
    rw [prodR] at h
    have hn : 0 < n := by rcases Nat.eq_zero_or_pos n with e | e; rw [e] at h; omega; exact e
    rw [profR, flatMap_at _ n (by simp) hn, profR_at r (i / n) (Nat.div_lt_of_lt_mul (by rw [Nat.mul_comm]; exact h))]
    have hm : i % n < n := Nat.mod_lt _ hn
    simp [hm, atR]
theorem atR_length : ∀ (r : List Nat) (i : Nat), (atR r i).length = r.length
  | [], _ => rfl
  | n :: r, i => by rw [atR, List.length_append, atR_length]; rfl
def szs (g : Gm) : List Nat := g.agents.map fun a => a.kinds.length
def profs (g : Gm) : List (List Int) := profR (szs g).reverse
def atG (g : Gm) (i : Nat) : List Int := atR (szs g).reverse i
theorem prodR_append (r s : List Nat) : prodR (r ++ s) = prodR s * prodR r := by
  induction r with
  | nil => simp [prodR]
  | cons n r ih => rw [List.cons_append, prodR, ih, prodR, Nat.mul_assoc]
theorem foldl_prod (l : List Ag) : ∀ z, l.foldl (fun n a => n * a.kinds.length) z = z * prodR (l.map fun a => a.kinds.length).reverse := by
  induction l with
  | nil => intro z; simp [prodR]
  | cons a l ih =>
    intro z
    rw [List.foldl_cons, ih, List.map_cons, List.reverse_cons, prodR_append]
    show _ = z * (prodR [] * a.kinds.length * _)
    rw [show prodR [] = 1 from rfl, Nat.one_mul, Nat.mul_assoc]
theorem prodK_eq (l : List Ag) : prodK l = prodR (l.map fun a => a.kinds.length).reverse := by
  unfold prodK; rw [foldl_prod, Nat.one_mul]
theorem prodR_take (g : Gm) (i : Nat) : prodK (g.agents.take i) = prodR ((szs g).take i).reverse := by
  rw [prodK_eq, szs, List.map_take]
theorem profs_length (g : Gm) : (profs g).length = prodK g.agents := by rw [profs, profR_length, prodK_eq]; rfl
theorem profs_at {g : Gm} {i : Nat} (h : i < prodK g.agents) : (profs g)[i]? = some (atG g i) := profR_at _ _ (by rw [prodK_eq] at h; exact h)
theorem atG_length (g : Gm) (i : Nat) : (atG g i).length = g.agents.length := by rw [atG, atR_length]; simp [szs]
def profTo (g : Gm) (p : List Int) (i : Nat) : Prop := ∀ j, j < i → ∃ a x, g.agents[j]? = some a ∧ p[j]? = some x ∧ 0 ≤ x ∧ x < (a.kinds.length : Int)
def isProf (g : Gm) (p : List Int) : Prop := p.length = g.agents.length ∧ profTo g p g.agents.length
def whrTo (g : Gm) (p : List Int) : Nat → Int
  | 0 => 0
  | i + 1 => whrTo g p i * (((g.agents[i]?).map fun a => a.kinds.length).getD 0 : Nat) + (p[i]?).getD 0
def whr (g : Gm) (p : List Int) : Int := whrTo g p g.agents.length
theorem whrTo_step {g : Gm} {p : List Int} {i : Nat} {a : Ag} {x : Int} (h1 : g.agents[i]? = some a) (h2 : p[i]? = some x) : whrTo g p (i + 1) = whrTo g p i * (a.kinds.length : Int) + x := by
  simp only [whrTo, h1, h2, Option.map_some, Option.getD_some]
theorem whrTo_le {g : Gm} {p : List Int} : ∀ i, i ≤ g.agents.length → profTo g p i → 0 ≤ whrTo g p i ∧ whrTo g p i < (prodK (g.agents.take i) : Int)
  | 0, _, _ => ⟨Int.le_refl _, by show (0 : Int) < ((1 : Nat) : Int); decide⟩
  | i + 1, hi, h => by
    obtain ⟨h1, h2⟩ := whrTo_le i (by omega) (fun j hj => h j (by omega))
    obtain ⟨a, x, e1, e2, e3, e4⟩ := h i (by omega)
    rw [whrTo_step e1 e2]
    have hai : g.agents[i] = a := by rw [List.getElem?_eq_getElem (by omega)] at e1; exact Option.some.inj e1
    have hp : prodK (g.agents.take (i + 1)) = prodK (g.agents.take i) * a.kinds.length := by
      unfold prodK
      rw [List.take_add_one, e1, List.foldl_append]; rfl
    rw [hp]
    obtain ⟨w, hw⟩ := Int.eq_ofNat_of_zero_le h1
    obtain ⟨y, hy⟩ := Int.eq_ofNat_of_zero_le e3
    rw [hw] at h2 ⊢
    rw [hy] at e4 ⊢
    have h2 : w < prodK (g.agents.take i) := by omega
    have e4 : y < a.kinds.length := by omega
    generalize prodK (g.agents.take i) = P at *
    generalize a.kinds.length = n at *
    have : w * n + y < P * n := by
      have := Nat.mul_le_mul_right n (show w + 1 ≤ P from h2)
      rw [Nat.add_mul] at this
      omega
    constructor
    · rw [← Int.natCast_mul]; omega
    · rw [← Int.natCast_mul, ← Int.natCast_add]; exact Int.ofNat_lt.2 this
theorem atR_get : ∀ (r : List Nat) (i j : Nat), i < prodR r → (h : j < r.length) → ∃ x : Nat, (atR r i)[j]? = some (x : Int) ∧ x < r.reverse[j]'(by simpa using h)
  | [], _, _, _, h => absurd h (by simp)
  | n :: r, i, j, hi, h => by
    rw [prodR] at hi
    have hn : 0 < n := by rcases Nat.eq_zero_or_pos n with e | e; rw [e] at hi; omega; exact e
    have hd := Nat.div_lt_of_lt_mul (show i < n * prodR r by rw [Nat.mul_comm]; exact hi)
    by_cases c : j < r.length
    · obtain ⟨x, h1, h2⟩ := atR_get r (i / n) j hd c
      refine ⟨x, ?_, ?_⟩
      · rw [atR, List.getElem?_append_left (by rw [atR_length]; exact c)]; exact h1
      · have : (n :: r).reverse[j]'(by simpa using h) = r.reverse[j]'(by simpa using c) := by
          simp only [List.reverse_cons]
          rw [List.getElem_append_left (by simpa using c)]
        rw [this]; exact h2
    · have hj : j = r.length := by simp at h; omega
      subst hj
      refine ⟨i % n, ?_, ?_⟩
      · rw [atR, List.getElem?_append_right (by rw [atR_length]; exact Nat.le_refl _), atR_length, Nat.sub_self]; rfl
      · have : (n :: r).reverse[r.length]'(by simp) = n := by
          simp only [List.reverse_cons]
          rw [List.getElem_append_right (by simp)]; simp
        rw [this]; exact Nat.mod_lt _ hn
theorem at_isProf {g : Gm} {i : Nat} (h : i < prodK g.agents) : isProf g (atG g i) := by
  refine ⟨atG_length g i, fun j hj => ?_⟩
  rw [prodK_eq] at h
  obtain ⟨x, h1, h2⟩ := atR_get (szs g).reverse i j h (by simp [szs]; exact hj)
  simp only [List.reverse_reverse] at h2
  have h3 : (szs g)[j]'(by simp [szs]; exact hj) = g.agents[j].kinds.length := by simp [szs]
  rw [h3] at h2
  exact ⟨g.agents[j], x, List.getElem?_eq_getElem hj, h1, by omega, by omega⟩
def putP (p : List Int) (a k : Int) : List Int := if 0 ≤ a ∧ a < (p.length : Int) then p.set a.toNat k else p
theorem putp_length (p : List Int) (a k : Int) : (putP p a k).length = p.length := by unfold putP; split <;> simp
theorem put_isProf {g : Gm} {p : List Int} (h : isProf g p) {a : Nat} {k : Int} {A : Ag} (ha : g.agents[a]? = some A) (h0 : 0 ≤ k) (h1 : k < (A.kinds.length : Int)) : isProf g (putP p a k) := by
  refine ⟨by rw [putp_length]; exact h.1, fun j hj => ?_⟩
  have hal : a < g.agents.length := (List.getElem?_eq_some_iff.1 ha).1
  unfold putP
  rw [if_pos ⟨by omega, by rw [h.1]; omega⟩, Int.toNat_natCast]
  obtain ⟨B, x, e1, e2, e3, e4⟩ := h.2 j hj
  by_cases c : a = j
  · subst c
    rw [ha] at e1
    obtain rfl := Option.some.inj e1
    exact ⟨_, k, ha, by rw [List.getElem?_set_self (by rw [h.1]; exact hj)], h0, h1⟩
  · exact ⟨B, x, e1, by rw [List.getElem?_set_ne c]; exact e2, e3, e4⟩
end Go.Proofs.YtaljbebkooppiaaGreat.Sh

namespace Go.Proofs.YtaljbebkooppiaaGreat.Sh
open Go Go.RowKit
def nextV (l : List Vn) (i k : Nat) : Nat := if hasK (vnAt l i).part k then (vnAt l i).yes.toNat else (vnAt l i).no.toNat
def agV (l : List Vn) (i : Nat) : Nat := (vnAt l i).agent.toNat
def isEndV (l : List Vn) (i : Nat) : Bool := decide ((vnAt l i).agent = -1)
def saidV (p : List Int) (a : Nat) : Nat := ((p[a]?).getD 0).toNat
def wayV (l : List Vn) (p : List Int) : Nat → Nat
  | 0 => 0
  | t + 1 => if isEndV l (wayV l p t) then wayV l p t else nextV l (wayV l p t) (saidV p (agV l (wayV l p t)))
section
variable {g : Gm} {l : List Vn} (h : TreeOk g l)
include h
theorem TreeOk.ask {i : Nat} (hi : i < l.length) (he : isEndV l i = false) : AskOk g l i ∧ (vnAt l i).agent = (agV l i : Int) ∧ agV l i < g.agents.length := by
  have hq : (vnAt l i).agent ≠ -1 := by unfold isEndV at he; simpa using he
  have ha := h.asks i hi hq
  obtain ⟨a, e1, e2, -⟩ := id ha
  have : agV l i = a := by unfold agV; rw [e1, Int.toNat_natCast]
  exact ⟨ha, by rw [this]; exact e1, by rw [this]; exact e2⟩
theorem TreeOk.kids {i : Nat} (hi : i < l.length) (he : isEndV l i = false) : ∃ y n : Nat, (vnAt l i).yes = (y : Int) ∧ (vnAt l i).no = (n : Int) ∧ i < y ∧ y < l.length ∧ i < n ∧ n < l.length ∧ y ≠ n := by
  have hq : (vnAt l i).agent ≠ -1 := by unfold isEndV at he; simpa using he
  obtain ⟨⟨r1, r2⟩, ⟨r3, r4⟩, r5⟩ := h.links.1.rng i hi hq
  exact ⟨(vnAt l i).yes.toNat, (vnAt l i).no.toNat, by omega, by omega, by omega, by omega, by omega, by omega, by omega⟩
theorem TreeOk.next {i : Nat} (hi : i < l.length) (he : isEndV l i = false) (k : Nat) : i < nextV l i k ∧ nextV l i k < l.length := by
  obtain ⟨y, n, e1, e2, e3, e4, e5, e6, -⟩ := h.kids hi he
  unfold nextV
  rw [e1, e2, Int.toNat_natCast, Int.toNat_natCast]
  split <;> omega
theorem TreeOk.way (p : List Int) : ∀ t, wayV l p t < l.length
  | 0 => h.pos
  | t + 1 => by
    have ih := TreeOk.way p t
    unfold wayV
    cases e : isEndV l (wayV l p t) with
    | true => rw [if_pos rfl]; exact ih
    | false => rw [if_neg (by simp)]; exact (h.next ih e _).2
theorem TreeOk.endOf (p : List Int) : ∃ T, T < l.length ∧ isEndV l (wayV l p T) = true ∧ ∀ t, t < T → isEndV l (wayV l p t) = false := by
  have hx : ∃ t, isEndV l (wayV l p t) = true ∧ t < l.length := Classical.byContradiction fun hc => by
    have hall : ∀ t, t < l.length → isEndV l (wayV l p t) = false := fun t ht => by
      cases e : isEndV l (wayV l p t) with
      | false => rfl
      | true => exact absurd ⟨t, e, ht⟩ hc
    have : ∀ t, t ≤ l.length → t ≤ wayV l p t := fun t => by
      induction t with
      | zero => intro _; omega
      | succ t ih =>
        intro ht
        have e := hall t (by omega)
        have i1 := ih (by omega)
        unfold wayV
        rw [e, if_neg (by simp)]
        have := (h.next (h.way p t) e (saidV p (agV l (wayV l p t)))).1
        omega
    have h1 := this l.length (Nat.le_refl _)
    have h2 := h.way p l.length
    omega
  obtain ⟨t, ht, htl⟩ := hx
  induction t using Nat.strongRecOn with
  | _ t ih =>
    by_cases hm : ∃ m, m < t ∧ isEndV l (wayV l p m) = true
    · obtain ⟨m, h1, h2⟩ := hm; exact ih m h1 h2 (by omega)
    · exact ⟨t, htl, ht, fun m hm' => by
        cases e : isEndV l (wayV l p m) with
        | false => rfl
        | true => exact absurd ⟨m, hm', e⟩ hm⟩
end
def endsV (l : List Vn) (a : Nat) (tru : Option Nat) : Nat → Nat → List Nat
  | 0, _ => []
  | d + 1, i => if isEndV l i then [i] else
      match tru with
      | some k => if agV l i = a then endsV l a tru d (nextV l i k) else endsV l a tru d (vnAt l i).yes.toNat ++ endsV l a tru d (vnAt l i).no.toNat
      | none => endsV l a tru d (vnAt l i).yes.toNat ++ endsV l a tru d (vnAt l i).no.toNat
def belowV (l : List Vn) (a : Nat) (tru : Option Nat) (i : Nat) : List Nat := endsV l a tru (l.length - i) i
section
variable {g : Gm} {l : List Vn} (h : TreeOk g l)
include h
theorem TreeOk.deep (a : Nat) (tru : Option Nat) : ∀ (d i : Nat), i < l.length → l.length - i ≤ d → ∀ e, endsV l a tru (d + e) i = endsV l a tru d i
  | 0, i, hi, hd, e => by omega
  | d + 1, i, hi, hd, e => by
    rw [show d + 1 + e = (d + e) + 1 by omega]
    unfold endsV
    cases he : isEndV l i with
    | true => rfl
    | false =>
      obtain ⟨y, n, e1, e2, e3, e4, e5, e6, -⟩ := h.kids hi he
      rw [e1, e2, Int.toNat_natCast, Int.toNat_natCast]
      have hy := TreeOk.deep a tru d y e4 (by omega) e
      have hn := TreeOk.deep a tru d n e6 (by omega) e
      cases tru with
      | none => simp only [hy, hn]
      | some k =>
        have hx := h.next hi he k
        have hk := TreeOk.deep a (some k) d (nextV l i k) hx.2 (by omega) e
        simp only [hy, hn, hk]
theorem TreeOk.at (a : Nat) (tru : Option Nat) {d i : Nat} (hi : i < l.length) (hd : l.length - i ≤ d) : endsV l a tru d i = belowV l a tru i := by
  unfold belowV
  have := h.deep a tru (l.length - i) i hi (Nat.le_refl _) (d - (l.length - i))
  rwa [show l.length - i + (d - (l.length - i)) = d by omega] at this
theorem TreeOk.below (a : Nat) (tru : Option Nat) {i : Nat} (hi : i < l.length) : belowV l a tru i = if isEndV l i then [i] else
      match tru with
      | some k => if agV l i = a then belowV l a tru (nextV l i k) else belowV l a tru (vnAt l i).yes.toNat ++ belowV l a tru (vnAt l i).no.toNat
      | none => belowV l a tru (vnAt l i).yes.toNat ++ belowV l a tru (vnAt l i).no.toNat := by
  obtain ⟨d, hd⟩ : ∃ d, l.length - i = d + 1 := ⟨l.length - i - 1, by omega⟩
  have e0 : belowV l a tru i = endsV l a tru (d + 1) i := by unfold belowV; rw [hd]
  rw [e0]
  unfold endsV
  cases he : isEndV l i with
  | true => rfl
  | false =>
    obtain ⟨y, n, e1, e2, e3, e4, e5, e6, -⟩ := h.kids hi he
    rw [e1, e2, Int.toNat_natCast, Int.toNat_natCast]
    have hy := h.at a tru (d := d) e4 (by omega)
    have hn := h.at a tru (d := d) e6 (by omega)
    cases tru with
    | none => simp only [hy, hn]
    | some k =>
      have hx := h.next hi he k
      have hk := h.at a (some k) (d := d) hx.2 (by omega)
      simp only [hy, hn, hk]
theorem TreeOk.belowNe (a : Nat) (tru : Option Nat) : ∀ (d i : Nat), i < l.length → l.length - i ≤ d → belowV l a tru i ≠ [] ∧ ∀ j ∈ belowV l a tru i, j < l.length ∧ isEndV l j = true
  | 0, i, hi, hd => by omega
  | d + 1, i, hi, hd => by
    rw [h.below a tru hi]
    cases he : isEndV l i with
    | true => exact ⟨by simp, fun j hj => by simp at hj; subst hj; exact ⟨hi, he⟩⟩
    | false =>
      obtain ⟨y, n, e1, e2, e3, e4, e5, e6, -⟩ := h.kids hi he
      rw [e1, e2, Int.toNat_natCast, Int.toNat_natCast]
      obtain ⟨y1, y2⟩ := TreeOk.belowNe a tru d y e4 (by omega)
      obtain ⟨n1, n2⟩ := TreeOk.belowNe a tru d n e6 (by omega)
      have both : belowV l a tru y ++ belowV l a tru n ≠ [] ∧ ∀ j ∈ belowV l a tru y ++ belowV l a tru n, j < l.length ∧ isEndV l j = true :=
        ⟨by simp [y1], fun j hj => (List.mem_append.1 hj).elim (y2 j) (n2 j)⟩
      cases tru with
      | none => exact both
      | some k =>
        have hx := h.next hi he k
        have hk := TreeOk.belowNe a (some k) d (nextV l i k) hx.2 (by omega)
        simp only [Bool.false_eq_true, if_false]
        split
        · exact hk
        · exact both
end
end Go.Proofs.YtaljbebkooppiaaGreat.Sh

namespace Go.Proofs.YtaljbebkooppiaaGreat.Sh
open Go Go.RowKit
set_option maxRecDepth 20000 in
theorem isName_s (s : ByteArray) (hs : s.size ≤ 140737488355328) : CallsS Tryz.prog 168 [.one (.str s)] (B (isNm s)) := by
  refine calls Tryz.func168 rfl (by rfl) (by rfl) (by kernel_rfl) ?_
  by_cases c1 : (s.size : Int) < 1
  · have c2 : s = ByteArray.empty := ByteArray.size_eq_zero_iff.1 (by omega)
    have hn : isNm s = false := by
      unfold isNm; rw [decide_eq_false (show ¬ 0 < s.size by omega)]; simp
    subst c2
    simp -dsimp -implicitDefEqProofs [Tryz.f168, hn]
  by_cases c3 : (12 : Int) < (s.size : Int)
  · have hn : isNm s = false := by
      unfold isNm; rw [decide_eq_false (show ¬ s.size ≤ 12 by omega)]; simp
    simp -dsimp -implicitDefEqProofs [Tryz.f168, c1, c3, hn]
  simp -dsimp -implicitDefEqProofs [Tryz.f168, c1, c3]
  refine sw_loop_e (fun p : {p : Nat // p ≤ s.size ∧ lettersTo s p = true} => SS.of [(0, .v (.one (.str s))), (3, I .i64 p.1)] [] 0)
    (fun p => s.size - p.1) ⟨0, Nat.zero_le _, rfl⟩ (by kernel_rfl) (Le.to (by simp) (by simp) (by simp)) ?_
  rintro ⟨i, hi, hp⟩
  by_cases a1 : i < s.size
  · have wi : IntKind.i64.wrap ((i : Int) + 1) = ((i + 1 : Nat) : Int) := by rw [wrap_i64 _ (by omega) (by omega)]; rfl
    by_cases c1 : byteAt s (i : Int) < 97
    · have hn : isNm s = false := by
        unfold isNm; rw [letters_at a1 (by unfold letterB; rw [decide_eq_false (by omega)]; rfl)]; rfl
      simp -dsimp -implicitDefEqProofs [a1, wi, c1, hn]
    by_cases c2 : 122 < byteAt s (i : Int)
    · have hn : isNm s = false := by
        unfold isNm; rw [letters_at a1 (by unfold letterB; rw [decide_eq_false (show ¬ byteAt s (i : Int) ≤ 122 by omega)]; simp)]; rfl
      simp -dsimp -implicitDefEqProofs [a1, wi, c1, c2, hn]
    simp -dsimp -implicitDefEqProofs [a1, wi, c1, c2]
    exact Again.by ⟨i + 1, a1, by simp only [lettersTo, hp, letterB]; rw [decide_eq_true (by omega), decide_eq_true (by omega)]; rfl⟩ (Le.to (by simp [wi]) (by simp) (by simp)) (by simp; omega)
  have hi2 : i = s.size := by omega
  subst hi2
  have hn : isNm s = true := by
    unfold isNm; rw [hp, decide_eq_true (show 0 < s.size by omega), decide_eq_true (show s.size ≤ 12 by omega)]; rfl
  simp -dsimp -implicitDefEqProofs [hn]
set_option maxRecDepth 20000 in
theorem swaps_s (l : List Int) (n : Nat) (hn : n ≤ 1048576) : ∀ b, (b = true ↔ SwapOk l n) → CallsS Tryz.prog 169 [.one (intsS l), .one (.int .i64 (n : Int))] (B b) := by
  intro b hb
  refine calls Tryz.func169 rfl (by rfl) (by rfl) (by kernel_rfl) ?_
  by_cases l1 : l.length = n
  · subst l1
    simp -dsimp -implicitDefEqProofs [Tryz.f169]
    refine sw_loop_e (fun p : {p : Nat // p ≤ l.length ∧ ∀ i (h : i < l.length), i < p → (0 ≤ l[i] ∧ l[i] < (l.length : Int)) ∧ l[l[i].toNat]? = some (i : Int)} => SS.of [(0, .v (.one (intsS l))), (1, I .i64 l.length), (11, .v (.one (intsS l))), (12, I .i64 l.length), (13, I .i64 p.1)] [] 0)
      (fun p => l.length - p.1) ⟨0, Nat.zero_le _, fun i _ h => absurd h (by omega)⟩ (by kernel_rfl) (Le.to (by simp) (by simp) (by simp)) ?_
    rintro ⟨i, hi, hq⟩
    by_cases a1 : i < l.length
    · have wi : IntKind.i64.wrap ((i : Int) + 1) = ((i + 1 : Nat) : Int) := by rw [wrap_i64 _ (by omega) (by omega)]; rfl
      by_cases c1 : l[i] < 0
      · have hb' := nf hb (fun h => absurd (h.2 i a1).1.1 (by omega))
        simp -dsimp -implicitDefEqProofs [a1, wi, c1, hb']
      by_cases c2 : (l.length : Int) ≤ l[i]
      · have hb' := nf hb (fun h => absurd (h.2 i a1).1.2 (by omega))
        simp -dsimp -implicitDefEqProofs [a1, wi, c1, c2, hb']
      have p1 : 0 ≤ l[i] := by omega
      have p2 : l[i] < (l.length : Int) := by omega
      have p3 : l[i].toNat < l.length := by omega
      by_cases c3 : l[l[i].toNat] = (i : Int)
      · simp -dsimp -implicitDefEqProofs [a1, wi, c1, c2, p1, p2, p3, c3]
        refine Again.by ⟨i + 1, a1, fun j hj hji => ?_⟩ (Le.to (by simp [wi]) (by simp) (by simp)) (by simp; omega)
        by_cases e : j = i
        · subst e; exact ⟨⟨p1, p2⟩, by rw [List.getElem?_eq_getElem p3, c3]⟩
        · exact hq j hj (by omega)
      · have hb' := nf hb (fun h => by
          have := (h.2 i a1).2
          rw [List.getElem?_eq_getElem p3] at this
          exact c3 (Option.some.inj this))
        simp -dsimp -implicitDefEqProofs [a1, wi, c1, c2, p1, p2, p3, c3, hb']
    have hi2 : i = l.length := by omega
    subst hi2
    have hb' : b = true := hb.2 ⟨rfl, fun i h => hq i h h⟩
    simp -dsimp -implicitDefEqProofs [hb']
  · have hb' := nf hb (fun h => l1 h.1)
    simp -dsimp -implicitDefEqProofs [Tryz.f169, hb', show ¬ (l.length : Int) = n by omega]
set_option maxRecDepth 20000 in
theorem rises_s (l : List Int) (n : Nat) (hn : n ≤ 1048576) (hl : lenOk l) : ∀ b, (b = true ↔ RiseOk l n) → CallsS Tryz.prog 170 [.one (intsS l), .one (.int .i64 (n : Int))] (B b) := by
  intro b hb
  unfold lenOk at hl
  refine calls Tryz.func170 rfl (by rfl) (by rfl) (by kernel_rfl) ?_
  simp -dsimp -implicitDefEqProofs [Tryz.f170]
  refine sw_loop_e (fun p : {p : Nat // p ≤ l.length ∧ ∀ i (h : i < l.length), i < p → (0 ≤ l[i] ∧ l[i] < (n : Int)) ∧ (0 < i → ∃ x, l[i - 1]? = some x ∧ x < l[i])} => SS.of [(0, .v (.one (intsS l))), (1, I .i64 n), (7, .v (.one (intsS l))), (8, I .i64 l.length), (9, I .i64 p.1)] [] 0)
    (fun p => l.length - p.1) ⟨0, Nat.zero_le _, fun i _ h => absurd h (by omega)⟩ (by kernel_rfl) (Le.to (by simp) (by simp) (by simp)) ?_
  rintro ⟨i, hi, hp⟩
  by_cases a1 : i < l.length
  · have wi : IntKind.i64.wrap ((i : Int) + 1) = ((i + 1 : Nat) : Int) := by rw [wrap_i64 _ (by omega) (by omega)]; rfl
    by_cases c1 : l[i] < 0
    · have hb' := nf hb (fun h => absurd (h.2 i a1).1.1 (by omega))
      simp -dsimp -implicitDefEqProofs [a1, wi, c1, hb']
    by_cases c2 : (n : Int) ≤ l[i]
    · have hb' := nf hb (fun h => absurd (h.2 i a1).1.2 (by omega))
      simp -dsimp -implicitDefEqProofs [a1, wi, c1, c2, hb']
    by_cases i0 : i = 0
    · subst i0
      simp -dsimp -implicitDefEqProofs [a1, wi, c1, c2]
      refine Again.by ⟨0 + 1, a1, fun j hj hji => ?_⟩ (Le.to (by simp [i64_1]) (by simp) (by simp)) (by simp; omega)
      obtain rfl : j = 0 := by omega
      exact ⟨⟨by omega, by omega⟩, fun h => absurd h (by omega)⟩
    · obtain ⟨k, hk⟩ : ∃ k, i = k + 1 := ⟨i - 1, by omega⟩
      have wk : IntKind.i64.wrap ((i : Int) - 1) = (k : Int) := by rw [wrap_i64 _ (by omega) (by omega)]; omega
      have a2 : k < l.length := by omega
      have i1 : 0 < i := by omega
      by_cases c3 : l[i] ≤ l[k]
      · have hb' := nf hb (fun h => by
          obtain ⟨x, hx, hx2⟩ := (h.2 i a1).2 (by omega)
          rw [show i - 1 = k by omega, List.getElem?_eq_getElem a2] at hx
          have := Option.some.inj hx
          omega)
        simp -dsimp -implicitDefEqProofs [a1, wi, c1, c2, c3, wk, a2, i1, hb']
      · simp -dsimp -implicitDefEqProofs [a1, wi, c1, c2, c3, wk, a2, i1]
        refine Again.by ⟨i + 1, a1, fun j hj hji => ?_⟩ (Le.to (by simp [wi]) (by simp) (by simp)) (by simp; omega)
        by_cases e : j = i
        · subst e; exact ⟨⟨by omega, by omega⟩, fun _ => ⟨l[k], by rw [show j - 1 = k by omega, List.getElem?_eq_getElem a2], by omega⟩⟩
        · exact hp j hj (by omega)
  have hi2 : i = l.length := by omega
  subst hi2
  by_cases c1 : 0 < l.length
  · have hb' : b = true := hb.2 ⟨c1, fun i h => hp i h h⟩
    simp -dsimp -implicitDefEqProofs [hb', c1]
  · have hb' := nf hb (fun h => c1 h.1)
    simp -dsimp -implicitDefEqProofs [hb', c1]
theorem mem_strs {s : ByteArray} {l : List ByteArray} : MK.str s ∈ l.map MK.str ↔ s ∈ l := by
  constructor
  · intro h; obtain ⟨x, hx, e⟩ := List.mem_map.1 h; cases e; exact hx
  · exact fun h => List.mem_map.2 ⟨s, h, rfl⟩
theorem strs_of {l : List ByteArray} : ∀ x ∈ l.map MK.str, x.of .str = true := by
  intro x hx; obtain ⟨s, -, rfl⟩ := List.mem_map.1 hx; rfl
set_option maxRecDepth 20000 in
theorem distinct_s (l : List ByteArray) (hl : lenOk l) (ho : ∀ s ∈ l, s.size ≤ 140737488355328) : ∀ b, (b = true ↔ NamesOk l) → CallsS Tryz.prog 124 [.one (strsS l)] (B b) := by
  intro b hb
  unfold lenOk at hl
  have mk : mapKT Tryz.prog 227 = some .str := by kernel_rfl
  refine calls Tryz.func124 rfl (by rfl) (by rfl) (by kernel_rfl) ?_
  simp -dsimp -implicitDefEqProofs [Tryz.f124]
  refine spec_makeMap (fun r hr => ?_)
  simp -dsimp -implicitDefEqProofs
  refine sw_loop_e (fun p : {p : Nat × Nat // p.1 ≤ l.length ∧ (∀ s ∈ l.take p.1, isNm s = true) ∧ (l.take p.1).Nodup} => (SS.of [(0, .v (.one (strsS l))), (3, .v (.one (.val (.map (some r))))), (7, .v (.one (strsS l))), (8, I .i64 l.length), (9, I .i64 p.1.1)] [] p.1.2).wx { XS.nil with maps := [(r, (l.take p.1.1).map MK.str)] })
    (fun p => l.length - p.1.1) ⟨(0, 0), Nat.zero_le _, by simp, by simp⟩ (by kernel_rfl) (Le.toX (by simp) (by simp) (by simp) (by simp)) ?_
  rintro ⟨⟨i, c⟩, hi, hp, hq⟩
  simp only at hi hp hq
  by_cases a1 : i < l.length
  · have wi : IntKind.i64.wrap ((i : Int) + 1) = ((i + 1 : Nat) : Int) := by rw [wrap_i64 _ (by omega) (by omega)]; rfl
    have hn := isName_s l[i] (ho _ (List.getElem_mem a1))
    simp -dsimp -implicitDefEqProofs [a1, wi]
    by_cases c1 : isNm l[i] = true
    · rw [c1] at hn
      refine eCall.of hn (by simp) ?_
      simp -dsimp -implicitDefEqProofs [a1]
      refine spec_lookup (κ := .str) (r := r) (ks := (l.take i).map MK.str) (key := .str l[i]) mk (by simp) (by simp) strs_of (by simp [keyOfS]) rfl ?_
      by_cases c2 : l[i] ∈ l.take i
      · have hb' := nf hb (fun h => not_nodup a1 c2 h.2)
        rw [decide_eq_true (mem_strs.2 c2)]
        simp -dsimp -implicitDefEqProofs [hb']
      · rw [decide_eq_false (mt mem_strs.1 c2)]
        simp -dsimp -implicitDefEqProofs
        refine spec_mapUpdate (κ := .str) (r := r) (ks := (l.take i).map MK.str) (key := .str l[i]) mk (by simp) (by simp) strs_of (by simp [keyOfS]) rfl (by simp) (mt mem_strs.1 c2) ?_
        simp -dsimp -implicitDefEqProofs
        have hsn : ((l.take (i + 1)).map MK.str) = (l.take i).map MK.str ++ [MK.str l[i]] := by rw [takeSnoc l i a1, List.map_append]; rfl
        refine Again.by ⟨(i + 1, c), a1, all_take a1 hp c1, nodup_take a1 hq c2⟩ (Le.toX (by simp [wi]) (by simp) (by simp) (by simp [putKey, hsn])) (by simp; omega)
    · have c1 : isNm l[i] = false := by simpa using c1
      rw [c1] at hn
      have hb' := nf hb (fun h => absurd (h.1 _ (List.getElem_mem a1)) (by rw [c1]; decide))
      refine eCall.of hn (by simp) ?_
      simp -dsimp -implicitDefEqProofs [hb']
  have hi2 : i = l.length := by omega
  subst hi2
  rw [List.take_length] at hp hq
  have hb' : b = true := hb.2 ⟨hp, hq⟩
  simp -dsimp -implicitDefEqProofs [hb']
end Go.Proofs.YtaljbebkooppiaaGreat.Sh

namespace Go.Proofs.YtaljbebkooppiaaGreat.Sh
open Go Go.RowKit
@[simp] def rowInt (x : Int) : List S1 := [.int .i64 x]
instance : RowF 1 rowInt := ⟨fun _ => rfl, fun x s h => by simp at h; subst h; rfl⟩
def sizesL (g : Gm) : List Int := g.agents.map fun a => (a.kinds.length : Int)
set_option maxRecDepth 20000 in
theorem sizes_s (g : Gm) (h : g.agents.length ≤ 1048576) : CallsS Tryz.prog 123 [gmS g] (.v (.one (intsS (sizesL g)))) := by
  refine calls Tryz.func123 rfl (by rfl) (by rfl) (by kernel_rfl) ?_
  simp -dsimp -implicitDefEqProofs [Tryz.f123]
  refine ⟨by omega, ?_⟩
  refine sw_loop_e (fun p : {p : Nat × Nat × Nat // p.1 ≤ g.agents.length ∧ p.2.2 < p.2.1 + 2 ∧ 0 < p.2.2} => SS.of [(1, .v (.one (.mp 0 0))), (3, .v (.one (.ms p.1.2.2 0 p.1.1 1 true))), (11, .v (.one (agsS g.agents))), (12, I .i64 g.agents.length), (13, I .i64 p.1.1)] [(0, ⟨31, rowGm g⟩), (p.1.2.2, ⟨3, flat rowInt ((sizesL g).take p.1.1)⟩)] (p.1.2.1 + 2))
    (fun p => g.agents.length - p.1.1) ⟨(0, 0, 1), Nat.zero_le _, by decide, by decide⟩ (by kernel_rfl) (Le.to (by simp) (by simp [flat_nil]) (by simp)) ?_
  rintro ⟨⟨i, c, o⟩, hi, hoc, hoc'⟩
  simp only at hi hoc hoc'
  have o0 : ¬ o = 0 := by omega
  have o0' : ¬ 0 = o := by omega
  have hsl : (sizesL g).length = g.agents.length := by simp [sizesL]
  by_cases a1 : i < g.agents.length
  · have wi : IntKind.i64.wrap ((i : Int) + 1) = ((i + 1 : Nat) : Int) := by rw [wrap_i64 _ (by omega) (by omega)]; rfl
    have hfl := flat_snoc (f := rowInt) (g.agents[i].kinds.length : Int) ((sizesL g).take i)
    have hsn := takeSnoc (sizesL g) i (by omega)
    rw [show (sizesL g)[i]'(by omega) = (g.agents[i].kinds.length : Int) by simp [sizesL]] at hsn
    rw [← hsn] at hfl
    have hll : ((sizesL g).take i).length = i := by simp; omega
    have oc1 : ¬ o = c + 2 := by omega
    have oc2 : ¬ o = c + 3 := by omega
    simp -dsimp -implicitDefEqProofs [a1, wi, slots, hll, oc1, oc2, o0, o0']
    refine ⟨by omega, ?_⟩
    exact Again.by ⟨(i + 1, c + 3, c + 4), by omega, by simp only; omega, by simp only; omega⟩ (Le.to (by simp [wi]) (by simp [hfl, o0, o0']) (by simp)) (by simp; omega)
  have hi2 : i = g.agents.length := by omega
  subst hi2
  simp -dsimp -implicitDefEqProofs [o0, o0', hsl]
  rw [List.take_of_length_le (by rw [List.length_map]; omega)]; rfl
def onceL : List Nd → List Int
  | [] => []
  | n :: l => if n.kind = 1 ∨ n.kind = 2 ∨ n.kind = 3 ∨ n.kind = 4 then n.kind :: onceL l else onceL l
def pairL : List Nd → List (Int × Int)
  | [] => []
  | n :: l => if n.kind = 5 then (n.agent, n.other) :: pairL l else pairL l
theorem onceL_append (l m : List Nd) : onceL (l ++ m) = onceL l ++ onceL m := by
  induction l with
  | nil => rfl
  | cons n l ih => simp only [List.cons_append, onceL, ih]; split <;> rfl
theorem pairL_append (l m : List Nd) : pairL (l ++ m) = pairL l ++ pairL m := by
  induction l with
  | nil => rfl
  | cons n l ih => simp only [List.cons_append, pairL, ih]; split <;> rfl
theorem mem_onceL {l : List Nd} {k : Int} : k ∈ onceL l ↔ ∃ n ∈ l, n.kind = k ∧ (k = 1 ∨ k = 2 ∨ k = 3 ∨ k = 4) := by
  induction l with
  | nil => simp [onceL]
  | cons n l ih =>
    simp only [onceL]
    split
    · rename_i h
      rw [List.mem_cons, ih]
      constructor
      · rintro (rfl | ⟨m, hm, h2⟩)
        · exact ⟨n, List.mem_cons_self .., rfl, h⟩
        · exact ⟨m, List.mem_cons_of_mem _ hm, h2⟩
      · rintro ⟨m, hm, h2, h3⟩
        rcases List.mem_cons.1 hm with rfl | hm
        · exact .inl h2.symm
        · exact .inr ⟨m, hm, h2, h3⟩
    · rename_i h
      rw [ih]
      constructor
      · rintro ⟨m, hm, h2⟩; exact ⟨m, List.mem_cons_of_mem _ hm, h2⟩
      · rintro ⟨m, hm, h2, h3⟩
        rcases List.mem_cons.1 hm with rfl | hm
        · rw [h2] at h; exact absurd h3 h
        · exact ⟨m, hm, h2, h3⟩
theorem mem_pairL {l : List Nd} {p : Int × Int} : p ∈ pairL l ↔ ∃ n ∈ l, n.kind = 5 ∧ p = (n.agent, n.other) := by
  induction l with
  | nil => simp [pairL]
  | cons n l ih =>
    simp only [pairL]
    split
    · rename_i h
      rw [List.mem_cons, ih]
      constructor
      · rintro (rfl | ⟨m, hm, h2⟩)
        · exact ⟨n, List.mem_cons_self .., h, rfl⟩
        · exact ⟨m, List.mem_cons_of_mem _ hm, h2⟩
      · rintro ⟨m, hm, h2, h3⟩
        rcases List.mem_cons.1 hm with rfl | hm
        · exact .inl h3
        · exact .inr ⟨m, hm, h2, h3⟩
    · rename_i h
      rw [ih]
      constructor
      · rintro ⟨m, hm, h2⟩; exact ⟨m, List.mem_cons_of_mem _ hm, h2⟩
      · rintro ⟨m, hm, h2, h3⟩
        rcases List.mem_cons.1 hm with rfl | hm
        · exact absurd h2 h
        · exact ⟨m, hm, h2, h3⟩
def NeedsOk (g : Gm) : Prop := ∀ i (h : i < g.needs.length), ShapedOk g.agents.length g.outs.length g.needs[i] ∧ ¬ AgainOk (g.needs.take i) g.needs[i]
def NeedOk (g : Gm) (i : Nat) (n : Nd) : Prop := ShapedOk g.agents.length g.outs.length n ∧ ¬ AgainOk (g.needs.take i) n
theorem again_once {l : List Nd} {n : Nd} {na no : Nat} (hk : n.kind = 1 ∨ n.kind = 2 ∨ n.kind = 3 ∨ n.kind = 4) (h0 : n.agent = 0) (h1 : n.other = 0) (hl : ∀ m ∈ l, ShapedOk na no m) : AgainOk l n ↔ n.kind ∈ onceL l := by
  rw [mem_onceL]
  constructor
  · rintro ⟨m, hm, h2, -⟩; exact ⟨m, hm, h2, hk⟩
  · rintro ⟨m, hm, h2, -⟩
    refine ⟨m, hm, h2, by omega, ?_⟩
    have := hl m hm
    unfold ShapedOk at this
    by_cases c1 : m.kind = 1 ∨ m.kind = 2 ∨ m.kind = 3
    · rw [if_pos c1] at this; omega
    · rw [if_neg c1, if_pos (by omega)] at this; omega
theorem again_pair {l : List Nd} {n : Nd} (hk : n.kind = 5) : AgainOk l n ↔ (n.agent, n.other) ∈ pairL l := by
  rw [mem_pairL]
  constructor
  · rintro ⟨m, hm, h2, -, h3, h4⟩; exact ⟨m, hm, by omega, by rw [h3, h4]⟩
  · rintro ⟨m, hm, h2, h3⟩
    injection h3 with h3 h4
    exact ⟨m, hm, by omega, by omega, h3.symm, h4.symm⟩
theorem again_order {l : List Nd} {n : Nd} (hk : n.kind = 6) : ¬ AgainOk l n := fun ⟨_, _, _, h, _⟩ => h hk
end Go.Proofs.YtaljbebkooppiaaGreat.Sh

namespace Go.Proofs.YtaljbebkooppiaaGreat.Sh
open Go Go.RowKit
@[simp] def onceK (l : List Nd) : List MK := (onceL l).map MK.int
@[simp] def pairK (l : List Nd) : List MK := (pairL l).map fun p => MK.two p.1 p.2
theorem mem_onceK {l : List Nd} {k : Int} : MK.int k ∈ onceK l ↔ k ∈ onceL l := by
  unfold onceK
  constructor
  · intro h; obtain ⟨x, hx, e⟩ := List.mem_map.1 h; cases e; exact hx
  · exact fun h => List.mem_map.2 ⟨k, h, rfl⟩
theorem mem_pairK {l : List Nd} {a b : Int} : MK.two a b ∈ pairK l ↔ (a, b) ∈ pairL l := by
  unfold pairK
  constructor
  · intro h; obtain ⟨⟨x, y⟩, hx, e⟩ := List.mem_map.1 h; cases e; exact hx
  · exact fun h => List.mem_map.2 ⟨(a, b), h, rfl⟩
theorem onceK_of {l : List Nd} : ∀ x ∈ onceK l, x.of .int = true := by
  intro x hx; obtain ⟨s, -, rfl⟩ := List.mem_map.1 hx; rfl
theorem pairK_of {l : List Nd} : ∀ x ∈ pairK l, x.of .two = true := by
  intro x hx; obtain ⟨s, -, rfl⟩ := List.mem_map.1 hx; rfl
set_option maxRecDepth 20000 in
set_option maxHeartbeats 2000000 in
theorem needs_s (g : Gm) (hg : g.ok) (hl1 : g.outs.length ≤ 1048576) : ∀ b, (b = true ↔ NeedsOk g) → CallsS Tryz.prog 125 [gmS g] (B b) := by
  intro b hb
  obtain ⟨ga, go, gn, hA, hO, hN, -⟩ := id hg
  unfold lenOk at gn
  have mk1 : mapKT Tryz.prog 229 = some .int := by kernel_rfl
  have mk2 : mapKT Tryz.prog 230 = some .two := by kernel_rfl
  refine calls Tryz.func125 rfl (by rfl) (by rfl) (by kernel_rfl) ?_
  simp -dsimp -implicitDefEqProofs [Tryz.f125]
  refine spec_makeMap (fun r1 hr1 => ?_)
  simp -dsimp -implicitDefEqProofs
  refine spec_makeMap (fun r2 hr2 => ?_)
  have hr : ¬ r1 = r2 := by
    have := hr2 (r1, []) (by simp)
    exact this
  have hr' : ¬ r2 = r1 := fun h => hr h.symm
  simp -dsimp -implicitDefEqProofs
  refine sw_loop_e (fun p : {p : Nat × Nat // p.1 ≤ g.needs.length ∧ ∀ i (h : i < g.needs.length), i < p.1 → NeedOk g i g.needs[i]} => (SS.of [(1, .v (.one (.mp 0 0))), (3, .v (.one (.val (.map (some r1))))), (4, .v (.one (.val (.map (some r2))))), (12, .v (.one (ndsS g.needs))), (13, I .i64 g.needs.length), (14, I .i64 p.1.1)] [(0, ⟨31, rowGm g⟩)] (p.1.2 + 1)).wx { XS.nil with maps := [(r2, pairK (g.needs.take p.1.1)), (r1, onceK (g.needs.take p.1.1))] })
    (fun p => g.needs.length - p.1.1) ⟨(0, 0), Nat.zero_le _, fun i _ h => absurd h (by simp)⟩ (by kernel_rfl) (Le.toX (by simp) (by simp) (by simp) (by simp [onceL, pairL])) ?_
  rintro ⟨⟨i, c⟩, hi, hp⟩
  simp only at hi hp
  by_cases a1 : i < g.needs.length
  · have wi : IntKind.i64.wrap ((i : Int) + 1) = ((i + 1 : Nat) : Int) := by rw [wrap_i64 _ (by omega) (by omega)]; rfl
    obtain ⟨-, -, -, n4, n5, n6, -, -⟩ := hN _ (List.getElem_mem a1)
    have hs := fsign_s g.needs[i].bound n4
    have bad : ¬ NeedOk g i g.needs[i] → b = false := fun h => nf hb (fun hh => h (hh i a1))
    have good : NeedOk g i g.needs[i] → ∀ j (h : j < g.needs.length), j < i + 1 → NeedOk g j g.needs[j] := by
      intro h j hj hji
      by_cases e : j = i
      · subst e; exact h
      · exact hp j hj (by omega)
    have hsh : ∀ m ∈ g.needs.take i, ShapedOk g.agents.length g.outs.length m := by
      intro m hm
      obtain ⟨j, hj, rfl⟩ := List.getElem_of_mem hm
      rw [List.length_take] at hj
      rw [List.getElem_take]
      exact (hp j (by omega) (by omega)).1
    have ho1 : onceL (g.needs.take (i + 1)) = onceL (g.needs.take i) ++ onceL [g.needs[i]] := by rw [takeSnoc g.needs i a1, onceL_append]
    have hp1 : pairL (g.needs.take (i + 1)) = pairL (g.needs.take i) ++ pairL [g.needs[i]] := by rw [takeSnoc g.needs i a1, pairL_append]
    generalize hn : g.needs[i] = n at *
    have hnk : NeedOk g i n ↔ ShapedOk g.agents.length g.outs.length n ∧ ¬ AgainOk (g.needs.take i) n := Iff.rfl
    unfold ShapedOk at hnk
    by_cases k1 : n.kind = 1 ∨ n.kind = 2 ∨ n.kind = 3 ∨ n.kind = 4
    · have hk5 : ¬ n.kind = 5 := by omega
      have hp2 : pairL (g.needs.take (i + 1)) = pairL (g.needs.take i) := by rw [hp1]; simp [pairL, hk5]
      have ho2 : onceL (g.needs.take (i + 1)) = onceL (g.needs.take i) ++ [n.kind] := by rw [ho1]; simp [onceL, k1]
      have hnk1 : NeedOk g i n ↔ n.agent = 0 ∧ n.other = 0 ∧ ((n.kind = 4 ∧ 0 ≤ sgnQ n.bound.fix) ∨ (¬ n.kind = 4 ∧ sgnQ n.bound.fix = 0)) ∧ n.outs = [] ∧ n.swap = [] ∧ ¬ n.kind ∈ onceL (g.needs.take i) := by
        rw [hnk]
        by_cases k4 : n.kind = 4
        · rw [if_neg (by omega), if_pos k4]
          constructor
          · rintro ⟨⟨h1, h2, h3, h4, h5⟩, h6⟩
            exact ⟨h1, h2, .inl ⟨k4, h3⟩, h4, h5, fun h => h6 ((again_once k1 h1 h2 hsh).2 h)⟩
          · rintro ⟨h1, h2, h3, h4, h5, h6⟩
            rcases h3 with ⟨-, h3⟩ | ⟨h3, -⟩
            · exact ⟨⟨h1, h2, h3, h4, h5⟩, fun h => h6 ((again_once k1 h1 h2 hsh).1 h)⟩
            · exact absurd k4 h3
        · rw [if_pos (by omega)]
          constructor
          · rintro ⟨⟨h1, h2, h3, h4, h5⟩, h6⟩
            exact ⟨h1, h2, .inr ⟨k4, h3⟩, h4, h5, fun h => h6 ((again_once k1 h1 h2 hsh).2 h)⟩
          · rintro ⟨h1, h2, h3, h4, h5, h6⟩
            rcases h3 with ⟨h3, -⟩ | ⟨-, h3⟩
            · exact absurd h3 k4
            · exact ⟨⟨h1, h2, h3, h4, h5⟩, fun h => h6 ((again_once k1 h1 h2 hsh).1 h)⟩
      generalize sgnQ n.bound.fix = s at *
      rcases id k1 with k | k | k | k
      · simp -dsimp -implicitDefEqProofs [a1, wi, hn, k]
        refine spec_lookup (κ := .int) (r := r1) (ks := onceK (g.needs.take i)) (key := .int n.kind) mk1 (by simp) (by simp) onceK_of (by simp [keyOfS, k]) rfl ?_
        by_cases e0 : n.kind ∈ onceL (g.needs.take i)
        · have hb' := bad (fun h => (hnk1.1 h).2.2.2.2.2 e0)
          rw [decide_eq_true (mem_onceK.2 e0)]
          simp -dsimp -implicitDefEqProofs [hb']
        rw [decide_eq_false (mt mem_onceK.1 e0)]
        by_cases e1 : n.agent = 0
        · by_cases e2 : n.other = 0
          · by_cases e4 : n.outs = []
            · by_cases e5 : n.swap = []
              · simp -dsimp -implicitDefEqProofs [e1, e2, e4, e5, k]
                refine spec_mapUpdate (κ := .int) (r := r1) (ks := onceK (g.needs.take i)) (key := .int n.kind) mk1 (by simp) (by simp) onceK_of (by simp [keyOfS, k]) rfl (by simp) (mt mem_onceK.1 e0) ?_
                simp -dsimp -implicitDefEqProofs
                refine eCall.of hs (by simp) ?_
                by_cases e6 : s < 0
                · have hb' := bad (fun h => by have := hnk1.1 h; omega)
                  simp -dsimp -implicitDefEqProofs [e6, hb']
                by_cases e7 : 0 < s
                · have hb' := bad (fun h => by have := hnk1.1 h; omega)
                  simp -dsimp -implicitDefEqProofs [e6, e7, hb', k]
                simp -dsimp -implicitDefEqProofs [e6, e7]
                exact Again.by ⟨(i + 1, c + 1), a1, good (hnk1.2 ⟨e1, e2, by omega, e4, e5, e0⟩)⟩ (Le.toX (by simp [wi]) (by simp) (by simp) (by simp [putKey, ho2, hp2, hr', k])) (by simp; omega)
              · have hb' := bad (fun h => e5 (hnk1.1 h).2.2.2.2.1)
                simp -dsimp -implicitDefEqProofs [e1, e2, e4, e5, List.length_pos_iff.2 e5, hb']
            · have hb' := bad (fun h => e4 (hnk1.1 h).2.2.2.1)
              simp -dsimp -implicitDefEqProofs [e1, e2, e4, List.length_pos_iff.2 e4, hb']
          · have hb' := bad (fun h => e2 (hnk1.1 h).2.1)
            simp -dsimp -implicitDefEqProofs [e1, e2, hb']
        · have hb' := bad (fun h => e1 (hnk1.1 h).1)
          simp -dsimp -implicitDefEqProofs [e1, hb']
      · simp -dsimp -implicitDefEqProofs [a1, wi, hn, k]
        refine spec_lookup (κ := .int) (r := r1) (ks := onceK (g.needs.take i)) (key := .int n.kind) mk1 (by simp) (by simp) onceK_of (by simp [keyOfS, k]) rfl ?_
        by_cases e0 : n.kind ∈ onceL (g.needs.take i)
        · have hb' := bad (fun h => (hnk1.1 h).2.2.2.2.2 e0)
          rw [decide_eq_true (mem_onceK.2 e0)]
          simp -dsimp -implicitDefEqProofs [hb']
        rw [decide_eq_false (mt mem_onceK.1 e0)]
        by_cases e1 : n.agent = 0
        · by_cases e2 : n.other = 0
          · by_cases e4 : n.outs = []
            · by_cases e5 : n.swap = []
              · simp -dsimp -implicitDefEqProofs [e1, e2, e4, e5, k]
                refine spec_mapUpdate (κ := .int) (r := r1) (ks := onceK (g.needs.take i)) (key := .int n.kind) mk1 (by simp) (by simp) onceK_of (by simp [keyOfS, k]) rfl (by simp) (mt mem_onceK.1 e0) ?_
                simp -dsimp -implicitDefEqProofs
                refine eCall.of hs (by simp) ?_
                by_cases e6 : s < 0
                · have hb' := bad (fun h => by have := hnk1.1 h; omega)
                  simp -dsimp -implicitDefEqProofs [e6, hb']
                by_cases e7 : 0 < s
                · have hb' := bad (fun h => by have := hnk1.1 h; omega)
                  simp -dsimp -implicitDefEqProofs [e6, e7, hb', k]
                simp -dsimp -implicitDefEqProofs [e6, e7]
                exact Again.by ⟨(i + 1, c + 1), a1, good (hnk1.2 ⟨e1, e2, by omega, e4, e5, e0⟩)⟩ (Le.toX (by simp [wi]) (by simp) (by simp) (by simp [putKey, ho2, hp2, hr', k])) (by simp; omega)
              · have hb' := bad (fun h => e5 (hnk1.1 h).2.2.2.2.1)
                simp -dsimp -implicitDefEqProofs [e1, e2, e4, e5, List.length_pos_iff.2 e5, hb']
            · have hb' := bad (fun h => e4 (hnk1.1 h).2.2.2.1)
              simp -dsimp -implicitDefEqProofs [e1, e2, e4, List.length_pos_iff.2 e4, hb']
          · have hb' := bad (fun h => e2 (hnk1.1 h).2.1)
            simp -dsimp -implicitDefEqProofs [e1, e2, hb']
        · have hb' := bad (fun h => e1 (hnk1.1 h).1)
          simp -dsimp -implicitDefEqProofs [e1, hb']
      · simp -dsimp -implicitDefEqProofs [a1, wi, hn, k]
        refine spec_lookup (κ := .int) (r := r1) (ks := onceK (g.needs.take i)) (key := .int n.kind) mk1 (by simp) (by simp) onceK_of (by simp [keyOfS, k]) rfl ?_
        by_cases e0 : n.kind ∈ onceL (g.needs.take i)
        · have hb' := bad (fun h => (hnk1.1 h).2.2.2.2.2 e0)
          rw [decide_eq_true (mem_onceK.2 e0)]
          simp -dsimp -implicitDefEqProofs [hb']
        rw [decide_eq_false (mt mem_onceK.1 e0)]
        by_cases e1 : n.agent = 0
        · by_cases e2 : n.other = 0
          · by_cases e4 : n.outs = []
            · by_cases e5 : n.swap = []
              · simp -dsimp -implicitDefEqProofs [e1, e2, e4, e5, k]
                refine spec_mapUpdate (κ := .int) (r := r1) (ks := onceK (g.needs.take i)) (key := .int n.kind) mk1 (by simp) (by simp) onceK_of (by simp [keyOfS, k]) rfl (by simp) (mt mem_onceK.1 e0) ?_
                simp -dsimp -implicitDefEqProofs
                refine eCall.of hs (by simp) ?_
                by_cases e6 : s < 0
                · have hb' := bad (fun h => by have := hnk1.1 h; omega)
                  simp -dsimp -implicitDefEqProofs [e6, hb']
                by_cases e7 : 0 < s
                · have hb' := bad (fun h => by have := hnk1.1 h; omega)
                  simp -dsimp -implicitDefEqProofs [e6, e7, hb', k]
                simp -dsimp -implicitDefEqProofs [e6, e7]
                exact Again.by ⟨(i + 1, c + 1), a1, good (hnk1.2 ⟨e1, e2, by omega, e4, e5, e0⟩)⟩ (Le.toX (by simp [wi]) (by simp) (by simp) (by simp [putKey, ho2, hp2, hr', k])) (by simp; omega)
              · have hb' := bad (fun h => e5 (hnk1.1 h).2.2.2.2.1)
                simp -dsimp -implicitDefEqProofs [e1, e2, e4, e5, List.length_pos_iff.2 e5, hb']
            · have hb' := bad (fun h => e4 (hnk1.1 h).2.2.2.1)
              simp -dsimp -implicitDefEqProofs [e1, e2, e4, List.length_pos_iff.2 e4, hb']
          · have hb' := bad (fun h => e2 (hnk1.1 h).2.1)
            simp -dsimp -implicitDefEqProofs [e1, e2, hb']
        · have hb' := bad (fun h => e1 (hnk1.1 h).1)
          simp -dsimp -implicitDefEqProofs [e1, hb']
      · simp -dsimp -implicitDefEqProofs [a1, wi, hn, k]
        refine spec_lookup (κ := .int) (r := r1) (ks := onceK (g.needs.take i)) (key := .int n.kind) mk1 (by simp) (by simp) onceK_of (by simp [keyOfS, k]) rfl ?_
        by_cases e0 : n.kind ∈ onceL (g.needs.take i)
        · have hb' := bad (fun h => (hnk1.1 h).2.2.2.2.2 e0)
          rw [decide_eq_true (mem_onceK.2 e0)]
          simp -dsimp -implicitDefEqProofs [hb']
        rw [decide_eq_false (mt mem_onceK.1 e0)]
        by_cases e1 : n.agent = 0
        · by_cases e2 : n.other = 0
          · by_cases e4 : n.outs = []
            · by_cases e5 : n.swap = []
              · simp -dsimp -implicitDefEqProofs [e1, e2, e4, e5, k]
                refine spec_mapUpdate (κ := .int) (r := r1) (ks := onceK (g.needs.take i)) (key := .int n.kind) mk1 (by simp) (by simp) onceK_of (by simp [keyOfS, k]) rfl (by simp) (mt mem_onceK.1 e0) ?_
                simp -dsimp -implicitDefEqProofs
                refine eCall.of hs (by simp) ?_
                by_cases e6 : s < 0
                · have hb' := bad (fun h => by have := hnk1.1 h; omega)
                  simp -dsimp -implicitDefEqProofs [e6, hb']
                by_cases e7 : 0 < s
                · simp -dsimp -implicitDefEqProofs [e6, e7, k]
                  exact Again.by ⟨(i + 1, c + 1), a1, good (hnk1.2 ⟨e1, e2, by omega, e4, e5, e0⟩)⟩ (Le.toX (by simp [wi]) (by simp) (by simp) (by simp [putKey, ho2, hp2, hr', k])) (by simp; omega)
                simp -dsimp -implicitDefEqProofs [e6, e7]
                exact Again.by ⟨(i + 1, c + 1), a1, good (hnk1.2 ⟨e1, e2, by omega, e4, e5, e0⟩)⟩ (Le.toX (by simp [wi]) (by simp) (by simp) (by simp [putKey, ho2, hp2, hr', k])) (by simp; omega)
              · have hb' := bad (fun h => e5 (hnk1.1 h).2.2.2.2.1)
                simp -dsimp -implicitDefEqProofs [e1, e2, e4, e5, List.length_pos_iff.2 e5, hb']
            · have hb' := bad (fun h => e4 (hnk1.1 h).2.2.2.1)
              simp -dsimp -implicitDefEqProofs [e1, e2, e4, List.length_pos_iff.2 e4, hb']
          · have hb' := bad (fun h => e2 (hnk1.1 h).2.1)
            simp -dsimp -implicitDefEqProofs [e1, e2, hb']
        · have hb' := bad (fun h => e1 (hnk1.1 h).1)
          simp -dsimp -implicitDefEqProofs [e1, hb']
    have k1a : ¬ n.kind = 1 := fun h => k1 (.inl h)
    have k1b : ¬ n.kind = 2 := fun h => k1 (.inr (.inl h))
    have k1c : ¬ n.kind = 3 := fun h => k1 (.inr (.inr (.inl h)))
    have k1d : ¬ n.kind = 4 := fun h => k1 (.inr (.inr (.inr h)))
    rw [if_neg (by omega), if_neg k1d] at hnk
    have ho2 : onceL (g.needs.take (i + 1)) = onceL (g.needs.take i) := by rw [ho1]; simp [onceL, k1a, k1b, k1c, k1d]
    by_cases k5 : n.kind = 5
    · rw [if_pos k5] at hnk
      have hp2 : pairL (g.needs.take (i + 1)) = pairL (g.needs.take i) ++ [(n.agent, n.other)] := by rw [hp1]; simp [pairL, k5]
      rw [again_pair k5] at hnk
      by_cases e1 : n.agent < 0
      · have hb' := bad (fun h => by have := hnk.1 h; omega)
        simp -dsimp -implicitDefEqProofs [a1, wi, hn, k5, e1, hb']
      by_cases e2 : n.other ≤ n.agent
      · have hb' := bad (fun h => by have := hnk.1 h; omega)
        simp -dsimp -implicitDefEqProofs [a1, wi, hn, k5, e1, e2, hb']
      by_cases e3 : (g.agents.length : Int) ≤ n.other
      · have hb' := bad (fun h => by have := hnk.1 h; omega)
        simp -dsimp -implicitDefEqProofs [a1, wi, hn, k5, e1, e2, e3, hb']
      simp -dsimp -implicitDefEqProofs [a1, wi, hn, k5, e1, e2, e3]
      refine spec_lookup (κ := .two) (r := r2) (ks := pairK (g.needs.take i)) (key := .two n.agent n.other) mk2 (by simp) (by simp) pairK_of (by simp [keyOfS]) rfl ?_
      by_cases e4 : (n.agent, n.other) ∈ pairL (g.needs.take i)
      · have hb' := bad (fun h => (hnk.1 h).2 e4)
        rw [decide_eq_true (mem_pairK.2 e4)]
        simp -dsimp -implicitDefEqProofs [hb']
      rw [decide_eq_false (mt mem_pairK.1 e4)]
      simp -dsimp -implicitDefEqProofs
      refine eCall.of hs (by simp) ?_
      by_cases e5 : sgnQ n.bound.fix = 0
      · by_cases e6 : n.outs = []
        · simp -dsimp -implicitDefEqProofs [e5, e6]
          by_cases e7 : SwapOk n.swap g.outs.length
          · refine eCall.of (swaps_s n.swap g.outs.length hl1 true (by simp [e7])) (by simp) ?_
            simp -dsimp -implicitDefEqProofs
            refine spec_mapUpdate (κ := .two) (r := r2) (ks := pairK (g.needs.take i)) (key := .two n.agent n.other) mk2 (by simp) (by simp) pairK_of (by simp [keyOfS]) rfl (by simp) (mt mem_pairK.1 e4) ?_
            simp -dsimp -implicitDefEqProofs
            exact Again.by ⟨(i + 1, c + 2), a1, good (hnk.2 ⟨⟨by omega, by omega, by omega, e5, e6, e7⟩, e4⟩)⟩ (Le.toX (by simp [wi]) (by simp) (by simp) (by simp [putKey, ho2, hp2, hr])) (by simp; omega)
          · have hb' := bad (fun h => e7 (hnk.1 h).1.2.2.2.2.2)
            refine eCall.of (swaps_s n.swap g.outs.length hl1 false (by simp [e7])) (by simp) ?_
            simp -dsimp -implicitDefEqProofs [hb']
        · have hb' := bad (fun h => e6 (hnk.1 h).1.2.2.2.2.1)
          simp -dsimp -implicitDefEqProofs [e5, e6, List.length_pos_iff.2 e6, hb']
      · have hb' := bad (fun h => e5 (hnk.1 h).1.2.2.2.1)
        simp -dsimp -implicitDefEqProofs [e5, hb']
    rw [if_neg k5] at hnk
    have hp2 : pairL (g.needs.take (i + 1)) = pairL (g.needs.take i) := by rw [hp1]; simp [pairL, k5]
    by_cases k6 : n.kind = 6
    · rw [if_pos k6] at hnk
      have hag := again_order (l := g.needs.take i) k6
      by_cases e1 : n.agent < 0
      · have hb' := bad (fun h => by have := hnk.1 h; omega)
        simp -dsimp -implicitDefEqProofs [a1, wi, hn, k6, e1, hb']
      by_cases e2 : (g.agents.length : Int) ≤ n.agent
      · have hb' := bad (fun h => by have := hnk.1 h; omega)
        simp -dsimp -implicitDefEqProofs [a1, wi, hn, k6, e1, e2, hb']
      by_cases e3 : n.other = 0
      · simp -dsimp -implicitDefEqProofs [a1, wi, hn, k6, e1, e2, e3]
        refine eCall.of hs (by simp) ?_
        by_cases e4 : sgnQ n.bound.fix = 0
        · by_cases e5 : n.swap = []
          · simp -dsimp -implicitDefEqProofs [e4, e5]
            by_cases e6 : RiseOk n.outs g.outs.length
            · refine eCall.of (rises_s n.outs g.outs.length hl1 n5 true (by simp [e6])) (by simp) ?_
              simp -dsimp -implicitDefEqProofs
              exact Again.by ⟨(i + 1, c + 1), a1, good (hnk.2 ⟨⟨by omega, by omega, e3, e4, e6, e5⟩, hag⟩)⟩ (Le.toX (by simp [wi]) (by simp) (by simp) (by simp [ho2, hp2])) (by simp; omega)
            · have hb' := bad (fun h => e6 (hnk.1 h).1.2.2.2.2.1)
              refine eCall.of (rises_s n.outs g.outs.length hl1 n5 false (by simp [e6])) (by simp) ?_
              simp -dsimp -implicitDefEqProofs [hb']
          · have hb' := bad (fun h => e5 (hnk.1 h).1.2.2.2.2.2)
            simp -dsimp -implicitDefEqProofs [e4, e5, List.length_pos_iff.2 e5, hb']
        · have hb' := bad (fun h => e4 (hnk.1 h).1.2.2.2.1)
          simp -dsimp -implicitDefEqProofs [e4, hb']
      · have hb' := bad (fun h => e3 (hnk.1 h).1.2.2.1)
        simp -dsimp -implicitDefEqProofs [a1, wi, hn, k6, e1, e2, e3, hb']
    rw [if_neg k6] at hnk
    have hb' := bad (fun h => (hnk.1 h).1)
    simp -dsimp -implicitDefEqProofs [a1, wi, hn, k1a, k1b, k1c, k1d, k5, k6, hb']
  have hi2 : i = g.needs.length := by omega
  subst hi2
  have hb' : b = true := hb.2 (fun i h => hp i h h)
  simp -dsimp -implicitDefEqProofs [hb']
end Go.Proofs.YtaljbebkooppiaaGreat.Sh

