/- A part of the proof: R91, R92, R80, R85, R93, R110, R111, R112 -/
import Derived.Test.YtglhjjokijdagaaGreatL19
set_option linter.unusedSimpArgs false
set_option linter.unusedVariables false
set_option linter.unusedSectionVars false
/- Fractions over one denominator: how great a sum can grow. No program in sight. -/
namespace Go.Proofs.YtglhjjokijdagaaGreat.Sh
open Go Go.RowKit

/-- A fraction over a denominator, of not too great a value. -/
def Over (D M : Nat) (q : Rat) : Prop := ∃ z : Int, q = mkRat z D ∧ z.natAbs ≤ M * D
theorem Over.base {q : Rat} {M : Nat} (h : q.num.natAbs ≤ M) : Over q.den M q :=
  ⟨q.num, (Rat.mkRat_self q).symm, Nat.le_trans h (Nat.le_mul_of_pos_right _ q.den_pos)⟩
theorem Over.zero (D M : Nat) : Over D M 0 := ⟨0, (Rat.zero_mkRat D).symm, Nat.zero_le _⟩
theorem Over.up {D E M M' : Nat} {q : Rat} (h : Over D M q) (hd : D ∣ E) (hE : E ≠ 0) (hm : M ≤ M') : Over E M' q := by
  obtain ⟨z, rfl, hz⟩ := h
  obtain ⟨k, rfl⟩ := hd
  have hk : k ≠ 0 := fun e => hE (by rw [e, Nat.mul_zero])
  refine ⟨z * k, (Rat.mkRat_mul_right hk).symm, ?_⟩
  rw [Int.natAbs_mul, Int.natAbs_natCast, ← Nat.mul_assoc]
  exact Nat.mul_le_mul_right _ (Nat.le_trans hz (Nat.mul_le_mul_right _ hm))
theorem Over.add {D M M' : Nat} {p q : Rat} (hD : D ≠ 0) (h : Over D M p) (h' : Over D M' q) : Over D (M + M') (p + q) := by
  obtain ⟨z, rfl, hz⟩ := h
  obtain ⟨y, rfl, hy⟩ := h'
  refine ⟨z + y, ?_, ?_⟩
  · rw [Rat.mkRat_add_mkRat _ _ hD hD, ← Int.add_mul, Rat.mkRat_mul_right hD]
  · have := Int.natAbs_add_le z y
    rw [Nat.add_mul]; omega
theorem Over.mul {D E M M' : Nat} {p q : Rat} (h : Over D M p) (h' : Over E M' q) : Over (D * E) (M * M') (p * q) := by
  obtain ⟨z, rfl, hz⟩ := h
  obtain ⟨y, rfl, hy⟩ := h'
  refine ⟨z * y, Rat.mkRat_mul_mkRat _ _ _ _, ?_⟩
  rw [Int.natAbs_mul, show M * M' * (D * E) = M * D * (M' * E) by rw [Nat.mul_mul_mul_comm]]
  exact Nat.mul_le_mul hz hy
theorem Over.cap {D M : Nat} {q : Rat} (h : Over D M q) : Over D M (Sh.cap q) := by
  unfold Sh.cap; split
  · exact Over.zero D M
  · exact h
theorem Over.sz {D M : Nat} {q : Rat} (hD : D ≠ 0) (h : Over D M q) : Sh.sz q ≤ 2 * (wl M + wl D) := by
  obtain ⟨z, rfl, hz⟩ := h
  have h1 := mz_mkRat z D hD
  have h2 := wl_mono hz
  have h3 := wl_mul M D
  have := (sz_mz (mkRat z D)).1
  omega
theorem Over.sum {D M : Nat} (hD : D ≠ 0) : ∀ {l : List Rat}, (∀ q ∈ l, Over D M q) → Over D (l.length * M) (sumQ l)
  | [], _ => Over.zero _ _
  | q :: l, h => by
    have h1 := h q (List.mem_cons_self ..)
    have h2 := Over.sum hD (fun x hx => h x (List.mem_cons_of_mem _ hx))
    have := h1.add hD h2
    rw [show M + l.length * M = (q :: l).length * M by rw [List.length_cons, Nat.add_mul]; omega] at this
    exact this

/-- A product of many. -/
def pr : List Nat → Nat
  | [] => 1
  | n :: l => n * pr l
theorem pr_dvd : ∀ {l : List Nat} {n : Nat}, n ∈ l → n ∣ pr l
  | m :: l, n, h => by
    rcases List.mem_cons.1 h with rfl | h
    · exact Nat.dvd_mul_right _ _
    · exact Nat.dvd_trans (pr_dvd h) (Nat.dvd_mul_left _ _)
theorem pr_ne : ∀ {l : List Nat}, (∀ n ∈ l, n ≠ 0) → pr l ≠ 0
  | [], _ => Nat.one_ne_zero
  | n :: l, h => Nat.mul_ne_zero (h n (List.mem_cons_self ..)) (pr_ne fun x hx => h x (List.mem_cons_of_mem _ hx))
theorem pr_snoc (n : Nat) : ∀ l : List Nat, pr (l ++ [n]) = pr l * n
  | [] => by show n * 1 = 1 * n; omega
  | m :: l => by rw [List.cons_append, pr, pr, pr_snoc n l, Nat.mul_assoc]
theorem pr_wl {b : Nat} : ∀ {l : List Nat}, (∀ n ∈ l, wl n ≤ b) → wl (pr l) ≤ l.length * b + 1
  | [], _ => by rw [pr, wl_one]; omega
  | n :: l, h => by
    have h1 := h n (List.mem_cons_self ..)
    have h2 := pr_wl (l := l) fun x hx => h x (List.mem_cons_of_mem _ hx)
    have h3 := wl_mul n (pr l)
    rw [pr, List.length_cons, Nat.add_mul]; omega
def dens (l : List FR) : Nat := pr (l.map fun f => f.fix.den)
theorem dens_ne (l : List FR) : dens l ≠ 0 := pr_ne fun n hn => by
  obtain ⟨f, -, rfl⟩ := List.mem_map.1 hn
  exact f.fix.den_nz
theorem dens_dvd {l : List FR} {f : FR} (h : f ∈ l) : f.fix.den ∣ dens l := pr_dvd (List.mem_map.2 ⟨f, h, rfl⟩)
theorem dens_wl {l : List FR} {b : Nat} (h : ∀ f ∈ l, mz f.fix ≤ b) : wl (dens l) ≤ l.length * b + 1 := by
  have := pr_wl (b := b) (l := l.map fun f => f.fix.den) fun n hn => by
    obtain ⟨f, hf, rfl⟩ := List.mem_map.1 hn
    have := h f hf
    unfold mz at this; omega
  rwa [List.length_map] at this
/-- A word's first number too great. -/
def W : Nat := 4294967296
theorem num_le {q : Rat} {b : Nat} (h : mz q ≤ b) : q.num.natAbs ≤ W ^ b := by
  have h1 := toW_lt q.num.natAbs
  have h2 : wl q.num.natAbs ≤ b := by unfold mz at h; omega
  exact Nat.le_of_lt (Nat.lt_of_lt_of_le h1 (Nat.pow_le_pow_right (by decide) h2))
theorem fix_over {f : FR} {b D : Nat} (h : mz f.fix ≤ b) (hd : f.fix.den ∣ D) (hD : D ≠ 0) : Over D (W ^ b) f.fix := (Over.base (num_le h)).up hd hD (Nat.le_refl _)
end Go.Proofs.YtglhjjokijdagaaGreat.Sh

/- The aim's sum: nothing of it is too great to be told. No program in sight. -/
namespace Go.Proofs.YtglhjjokijdagaaGreat.Sh
open Go Go.RowKit

def WG (g : Gm) (i : Nat) : Nat := pr ((g.agents.take i).map fun A => dens (A.kinds.map Kd.weight))
def VG (g : Gm) : Nat := pr (g.agents.map fun A => pr (A.kinds.map fun K => dens K.worth))
def LR (r : List Ce) : Nat := pr (r.map fun c => dens c.lot)
def PR (r : List Ce) : Nat := pr (r.map fun c => dens c.pay)
theorem WG_ne (g : Gm) (i : Nat) : WG g i ≠ 0 := pr_ne fun n hn => by
  obtain ⟨A, -, rfl⟩ := List.mem_map.1 hn
  exact dens_ne _
theorem VG_ne (g : Gm) : VG g ≠ 0 := pr_ne fun n hn => by
  obtain ⟨A, -, rfl⟩ := List.mem_map.1 hn
  exact pr_ne fun n hn => by
    obtain ⟨K, -, rfl⟩ := List.mem_map.1 hn
    exact dens_ne _
theorem LR_ne (r : List Ce) : LR r ≠ 0 := pr_ne fun n hn => by
  obtain ⟨c, -, rfl⟩ := List.mem_map.1 hn
  exact dens_ne _
theorem PR_ne (r : List Ce) : PR r ≠ 0 := pr_ne fun n hn => by
  obtain ⟨c, -, rfl⟩ := List.mem_map.1 hn
  exact dens_ne _
theorem mul_le' {a b c d : Nat} (h : a ≤ b) (h' : c ≤ d) : a * c ≤ b * d := Nat.mul_le_mul h h'

section
variable {g : Gm} {r : List Ce} (h : Play g r)
include h
theorem WG_wl (i : Nat) : wl (WG g i) ≤ 53 := by
  have hs := sizeOk_all h.fine.sz
  have := pr_wl (b := 13) (l := (g.agents.take i).map fun A => dens (A.kinds.map Kd.weight)) fun n hn => by
    obtain ⟨A, hA, rfl⟩ := List.mem_map.1 hn
    have hA := List.mem_of_mem_take hA
    have := dens_wl (b := 3) (l := A.kinds.map Kd.weight) fun f hf => by
      obtain ⟨K, hK, rfl⟩ := List.mem_map.1 hf
      exact (h.kd hA hK).1.w
    have hk := hs.2.2.2.1 A hA
    rw [List.length_map] at this
    omega
  rw [List.length_map, List.length_take] at this
  have := hs.1
  unfold WG
  omega
theorem VG_wl : wl (VG g) ≤ 309 := by
  have hs := sizeOk_all h.fine.sz
  have := pr_wl (b := 77) (l := g.agents.map fun A => pr (A.kinds.map fun K => dens K.worth)) fun n hn => by
    obtain ⟨A, hA, rfl⟩ := List.mem_map.1 hn
    have := pr_wl (b := 19) (l := A.kinds.map fun K => dens K.worth) fun n hn => by
      obtain ⟨K, hK, rfl⟩ := List.mem_map.1 hn
      obtain ⟨k1, k2⟩ := h.kd hA hK
      have := dens_wl (b := 3) (l := K.worth) k1.wo
      have := hs.2.1
      omega
    have hk := hs.2.2.2.1 A hA
    rw [List.length_map] at this
    omega
  rw [List.length_map] at this
  have := hs.1
  unfold VG
  omega
theorem LR_wl (six : ∀ c ∈ r, CeSix c) : wl (LR r) ≤ 593 := by
  have hs := sizeOk_all h.fine.sz
  have := pr_wl (b := 37) (l := r.map fun c => dens c.lot) fun n hn => by
    obtain ⟨c, hc, rfl⟩ := List.mem_map.1 hn
    obtain ⟨c1, c2, c3⟩ := h.ce hc
    have := dens_wl (b := 6) (l := c.lot) fun f hf => (six c hc).lot f hf
    have := hs.2.1
    omega
  rw [List.length_map] at this
  have := h.good.2.2.1
  have := hs.2.2.2.2
  unfold LR
  omega
theorem PR_wl (six : ∀ c ∈ r, CeSix c) : wl (PR r) ≤ 401 := by
  have hs := sizeOk_all h.fine.sz
  have := pr_wl (b := 25) (l := r.map fun c => dens c.pay) fun n hn => by
    obtain ⟨c, hc, rfl⟩ := List.mem_map.1 hn
    obtain ⟨c1, c2, c3⟩ := h.ce hc
    have := dens_wl (b := 6) (l := c.pay) fun f hf => (six c hc).pay f hf
    have := hs.1
    omega
  rw [List.length_map] at this
  have := h.good.2.2.1
  have := hs.2.2.2.2
  unfold PR
  omega

theorem wgt_over {n : Nat} (hn : n < r.length) : ∀ i, i ≤ g.agents.length → Over (WG g i) (W ^ (3 * i)) (wgtTo g n i)
  | 0, _ => by
    have : Over (1 : Rat).den 1 1 := Over.base (by decide)
    exact this
  | i + 1, hi => by
    have hs : Spot g r i n := ⟨h, hi, hn⟩
    obtain ⟨k1, k2⟩ := hs.kof
    have hA : i < g.agents.length := hi
    have hw := (h.kd (List.getElem_mem hs.ha) (List.getElem_mem k2)).1.w
    have ih := wgt_over hn i (by omega)
    have hm : (g.agents[i].kinds[kOf g n i]).weight ∈ g.agents[i].kinds.map Kd.weight := List.mem_map.2 ⟨_, List.getElem_mem k2, rfl⟩
    have h1 := ih.mul (fix_over hw (dens_dvd hm) (dens_ne _))
    rw [wgtTo, kdAt_eq hs.ha k2]
    have e : WG g (i + 1) = WG g i * dens (g.agents[i].kinds.map Kd.weight) := by
      unfold WG; rw [takeSnoc _ i hA, List.map_append]; exact pr_snoc _ _
    rw [e, show 3 * (i + 1) = 3 * i + 3 by omega, Nat.pow_add]
    exact h1
theorem dot_over (six : ∀ c ∈ r, CeSix c) {a n : Nat} (ha : a < g.agents.length) (hn : n < r.length) : Over (dens (ceAt r n).lot * VG g) (6 * (W ^ 6 * W ^ 3)) (sumQ (dotL (ceAt r n).lot (kdAt g a (kOf g n a)).worth)) := by
  have hs : Spot g r a n := ⟨h, ha, hn⟩
  obtain ⟨k1, k2⟩ := hs.kof
  have hP := hs.pair hn k2
  rw [ceAt_eq hn, kdAt_eq ha k2]
  have hV : ∀ f ∈ (g.agents[a].kinds[kOf g n a]).worth, f.fix.den ∣ VG g := fun f hf =>
    Nat.dvd_trans (dens_dvd hf) (Nat.dvd_trans (pr_dvd (List.mem_map.2 ⟨_, List.getElem_mem k2, rfl⟩)) (pr_dvd (List.mem_map.2 ⟨_, List.getElem_mem ha, rfl⟩)))
  have hne : dens r[n].lot * VG g ≠ 0 := Nat.mul_ne_zero (dens_ne _) (VG_ne g)
  have h1 := Over.sum hne (M := W ^ 6 * W ^ 3) (l := dotL r[n].lot (g.agents[a].kinds[kOf g n a]).worth) fun q hq => by
    unfold dotL at hq
    obtain ⟨i, hi, rfl⟩ := List.getElem_of_mem hq
    rw [List.getElem_zipWith]
    have i1 : i < r[n].lot.length := by simp at hi; omega
    have i2 : i < (g.agents[a].kinds[kOf g n a]).worth.length := by simp at hi; omega
    have e1 := (six _ (List.getElem_mem hn)).lot _ (List.getElem_mem i1)
    have e2 := hP.kf.wo _ (List.getElem_mem i2)
    exact (fix_over e1 (dens_dvd (List.getElem_mem i1)) (dens_ne _)).mul (fix_over e2 (hV _ (List.getElem_mem i2)) (VG_ne g))
  exact h1.up (Nat.dvd_refl _) hne (Nat.mul_le_mul_right _ hP.dot.2.1)
theorem tot_over (six : ∀ c ∈ r, CeSix c) {n : Nat} (hn : n < r.length) : ∀ i, i ≤ g.agents.length → Over (dens (ceAt r n).lot * VG g) (i * (6 * (W ^ 6 * W ^ 3))) (totTo g r n i)
  | 0, _ => by rw [totTo]; exact Over.zero _ _
  | i + 1, hi => by
    have hne : dens (ceAt r n).lot * VG g ≠ 0 := Nat.mul_ne_zero (dens_ne _) (VG_ne g)
    have := ((tot_over six hn i (by omega)).add hne (dot_over h six hi hn).cap).cap
    rw [totTo, Nat.add_mul, Nat.one_mul]
    exact this
theorem paid_over (six : ∀ c ∈ r, CeSix c) {n : Nat} (hn : n < r.length) : Over (dens (ceAt r n).pay) (4 * W ^ 6) (paidQ (ceAt r n)) := by
  obtain ⟨c1, c2, c3⟩ := h.ce (List.getElem_mem hn)
  rw [ceAt_eq hn]
  unfold paidQ
  have h1 := Over.sum (dens_ne r[n].pay) (M := W ^ 6) (l := r[n].pay.map FR.fix) fun q hq => by
    obtain ⟨f, hf, rfl⟩ := List.mem_map.1 hq
    exact fix_over ((six _ (List.getElem_mem hn)).pay f hf) (dens_dvd hf) (dens_ne _)
  rw [List.length_map] at h1
  have := (sizeOk_all h.fine.sz).1
  exact (h1.up (Nat.dvd_refl _) (dens_ne _) (Nat.mul_le_mul_right _ (by omega))).cap
end

/-- What a place adds to the aim. -/
def addX (g : Gm) (r : List Ce) (n : Nat) : Rat := cap (wgt g n * partQ g r n)
def DA (g : Gm) (r : List Ce) : Nat := if g.aim = 1 then WG g g.agents.length * (LR r * VG g) else WG g g.agents.length * PR r
theorem DA_ne (g : Gm) (r : List Ce) : DA g r ≠ 0 := by
  unfold DA; split
  · exact Nat.mul_ne_zero (WG_ne g _) (Nat.mul_ne_zero (LR_ne r) (VG_ne g))
  · exact Nat.mul_ne_zero (WG_ne g _) (PR_ne r)
theorem DA_wl {g : Gm} {r : List Ce} (h : Play g r) (six : ∀ c ∈ r, CeSix c) : wl (DA g r) ≤ 955 := by
  have h1 := WG_wl h g.agents.length
  have h2 := VG_wl h
  have h3 := LR_wl h six
  have h4 := PR_wl h six
  unfold DA; split
  · have := wl_mul (WG g g.agents.length) (LR r * VG g)
    have := wl_mul (LR r) (VG g)
    omega
  · have := wl_mul (WG g g.agents.length) (PR r)
    omega
theorem Wpow {a b : Nat} (h : a ≤ b) : W ^ a ≤ W ^ b := Nat.pow_le_pow_right (by decide) h
theorem add_over {g : Gm} {r : List Ce} (h : Play g r) (six : ∀ c ∈ r, CeSix c) {n : Nat} (hn : n < r.length) : Over (DA g r) (W ^ 22) (addX g r n) := by
  have hs := (sizeOk_all h.fine.sz).1
  have hw := wgt_over h hn g.agents.length (Nat.le_refl _)
  have hL : dens (ceAt r n).lot ∣ LR r := by rw [ceAt_eq hn]; exact pr_dvd (List.mem_map.2 ⟨_, List.getElem_mem hn, rfl⟩)
  have hP : dens (ceAt r n).pay ∣ PR r := by rw [ceAt_eq hn]; exact pr_dvd (List.mem_map.2 ⟨_, List.getElem_mem hn, rfl⟩)
  have w12 : W ^ (3 * g.agents.length) ≤ W ^ 12 := Wpow (by omega)
  unfold addX partQ
  refine Over.cap ?_
  by_cases c : g.aim = 1
  · rw [if_pos c]
    have h1 := hw.mul (tot_over h six hn g.agents.length (Nat.le_refl _))
    unfold wgt
    have hD := DA_ne g r
    unfold DA at hD ⊢
    rw [if_pos c] at hD ⊢
    refine h1.up (Nat.mul_dvd_mul (Nat.dvd_refl _) (Nat.mul_dvd_mul hL (Nat.dvd_refl _))) hD ?_
    have h2 : g.agents.length * (6 * (W ^ 6 * W ^ 3)) ≤ W ^ 10 := Nat.le_trans (Nat.mul_le_mul_right _ hs) (by decide)
    have h3 := Nat.mul_le_mul w12 h2
    rw [← Nat.pow_add] at h3
    exact h3
  · rw [if_neg c]
    have h1 := hw.mul (paid_over h six hn)
    unfold wgt
    have hD := DA_ne g r
    unfold DA at hD ⊢
    rw [if_neg c] at hD ⊢
    refine h1.up (Nat.mul_dvd_mul (Nat.dvd_refl _) hP) hD ?_
    have h3 := Nat.mul_le_mul w12 (show 4 * W ^ 6 ≤ W ^ 10 by decide)
    rw [← Nat.pow_add] at h3
    exact h3
theorem addX_sz {g : Gm} {r : List Ce} (h : Play g r) (six : ∀ c ∈ r, CeSix c) {l : List Nat} (hl : ∀ n ∈ l, n < r.length) (hc : l.length ≤ 16) : sz (sumQ (l.map (addX g r))) ≤ 4096 := by
  have h1 := Over.sum (DA_ne g r) (M := W ^ 22) (l := l.map (addX g r)) fun q hq => by
    obtain ⟨n, hn, rfl⟩ := List.mem_map.1 hq
    exact add_over h six (hl n hn)
  rw [List.length_map] at h1
  have h2 := (h1.up (Nat.dvd_refl _) (DA_ne g r) (show l.length * W ^ 22 ≤ W ^ 23 from Nat.le_trans (Nat.mul_le_mul_right _ hc) (by decide))).sz (DA_ne g r)
  have h3 := DA_wl h six
  have h4 : wl (W ^ 23) ≤ 24 := toW_len_lt (k := 24) (by decide)
  omega
theorem aimTo_sum {g : Gm} {r : List Ce} (h : Play g r) (six : ∀ c ∈ r, CeSix c) : ∀ n, n ≤ r.length → aimTo g r n = sumQ ((List.range n).map (addX g r))
  | 0, _ => rfl
  | n + 1, hn => by
    have h16 := (sizeOk_all h.fine.sz).2.2.2.2
    have hrl := h.good.2.2.1
    have hz := addX_sz h six (l := List.range (n + 1)) (fun m hm => by have := List.mem_range.1 hm; omega) (by rw [List.length_range]; omega)
    rw [List.range_succ, List.map_append, List.map_cons, List.map_nil, sumQ_snoc] at hz ⊢
    rw [aimTo, aimTo_sum h six n (by omega), ← cap_of hz]
    rfl
theorem sumQ_perm {l m : List Rat} (h : l.Perm m) : sumQ l = sumQ m := by
  induction h with
  | nil => rfl
  | cons x _ ih => rw [sumQ, sumQ, ih]
  | swap x y l => rw [sumQ, sumQ, sumQ, sumQ, Rat.add_left_comm]
  | trans _ _ h1 h2 => rw [h1, h2]
end Go.Proofs.YtglhjjokijdagaaGreat.Sh

/- Audits: what a report would have gained. -/
namespace Go.Proofs.YtglhjjokijdagaaGreat.Sh
open Go Go.RowKit

/-- One entry's part. -/
def addT (g : Gm) (r : List Ce) (a k told : Nat) (z : Rat) (s : Sn) : Rat :=
  if s.prof[a]? = some (k : Int) then cap (z + cap ((s.count : Rat) * gainQ g r a (whr g s.prof).toNat told)) else z
def totA (g : Gm) (r : List Ce) (log : List Sn) (a k told : Nat) : Rat := log.foldl (addT g r a k told) 0
def totN (g : Gm) (r : List Ce) (log : List Sn) (a k told n : Nat) : Rat := (log.take n).foldl (addT g r a k told) 0
theorem totN_step {g : Gm} {r : List Ce} {log : List Sn} {a k told n : Nat} (h : n < log.length) : totN g r log a k told (n + 1) = addT g r a k told (totN g r log a k told n) log[n] := by
  unfold totN; rw [takeSnoc log n h, List.foldl_append]; rfl
theorem addT_sz {g : Gm} {r : List Ce} {a k told : Nat} {z : Rat} (hz : sz z ≤ 4096) (s : Sn) : sz (addT g r a k told z s) ≤ 4096 := by
  unfold addT; split
  · exact sz_cap _
  · exact hz
theorem totN_sz (g : Gm) (r : List Ce) (log : List Sn) (a k told : Nat) : ∀ n, sz (totN g r log a k told n) ≤ 4096 := by
  intro n
  unfold totN
  generalize log.take n = l
  have : ∀ (l : List Sn) z, sz z ≤ 4096 → sz (l.foldl (addT g r a k told) z) ≤ 4096 := by
    intro l
    induction l with
    | nil => intro z h; exact h
    | cons s l ih => intro z h; exact ih _ (addT_sz h s)
  exact this l 0 (by decide +kernel)
theorem totA_sz (g : Gm) (r : List Ce) (log : List Sn) (a k told : Nat) : sz (totA g r log a k told) ≤ 4096 := by
  have := totN_sz g r log a k told log.length
  unfold totN at this
  rwa [List.take_length] at this

/-- All entries are profiles, and no count is below 0. -/
def LogOk (g : Gm) (log : List Sn) : Prop := ∀ s ∈ log, isProf g s.prof ∧ 0 ≤ s.count

theorem cap_le {q : Rat} (h : q ≤ 0) : cap q ≤ 0 := by
  unfold cap; split
  · exact Rat.le_refl
  · exact h

theorem whr_lt {g : Gm} {r : List Ce} (h : Play g r) {p : List Int} (hp : isProf g p) : ∃ n : Nat, whr g p = (n : Int) ∧ n < r.length ∧ atG g n = p := by
  have hw := whrTo_le (g := g) (p := p) g.agents.length (Nat.le_refl _) hp.2
  rw [List.take_length] at hw
  have hrl := h.good.2.2.1
  exact ⟨(whr g p).toNat, by unfold whr at *; omega, by unfold whr at *; omega, at_whr hp⟩

theorem tot_le {g : Gm} {r : List Ce} (h : Play g r) {log : List Sn} (hl : LogOk g log) {a k told : Nat} (ha : a < g.agents.length) (ht : told < kl g a) (hno : NoA g r a) : totA g r log a k told ≤ 0 := by
  unfold totA
  have : ∀ (l : List Sn) z, (∀ s ∈ l, isProf g s.prof ∧ 0 ≤ s.count) → z ≤ 0 → l.foldl (addT g r a k told) z ≤ 0 := by
    intro l
    induction l with
    | nil => intro z _ h; exact h
    | cons s l ih =>
      intro z hs hz
      refine ih _ (fun s' hs' => hs s' (List.mem_cons_of_mem _ hs')) ?_
      obtain ⟨hp, hc⟩ := hs s (List.mem_cons_self ..)
      obtain ⟨n, h1, h2, -⟩ := whr_lt h hp
      unfold addT
      split
      · have hg : gainQ g r a n told ≤ 0 := Rat.not_lt.1 (hno n h2 told ht)
        rw [h1, Int.toNat_natCast]
        have hm : (s.count : Rat) * gainQ g r a n told ≤ 0 := by
          have h0 : (0 : Rat) ≤ (s.count : Rat) := by exact_mod_cast hc
          have := Rat.mul_nonneg h0 (show 0 ≤ -gainQ g r a n told by grind)
          grind
        have := cap_le hm
        exact cap_le (by grind)
      · exact hz
  exact this log 0 hl Rat.le_refl

theorem tot_own {g : Gm} {r : List Ce} (h : Play g r) {log : List Sn} (hl : LogOk g log) {a k : Nat} (ha : a < g.agents.length) : totA g r log a k k = 0 := by
  unfold totA
  have : ∀ (l : List Sn), (∀ s ∈ l, isProf g s.prof ∧ 0 ≤ s.count) → l.foldl (addT g r a k k) 0 = 0 := by
    intro l
    induction l with
    | nil => intro _; rfl
    | cons s l ih =>
      intro hs
      rw [List.foldl_cons]
      obtain ⟨hp, hc⟩ := hs s (List.mem_cons_self ..)
      obtain ⟨n, h1, h2, h3⟩ := whr_lt h hp
      have e : addT g r a k k 0 s = 0 := by
        unfold addT
        split
        · rename_i hk
          have hsp : Spot g r a n := ⟨h, ha, h2⟩
          obtain ⟨k1, k2⟩ := hsp.kof
          rw [h3, hk] at k1
          have : k = kOf g n a := by have := Option.some.inj k1; omega
          rw [h1, Int.toNat_natCast, this, gain_own hsp, Rat.mul_zero, show cap 0 = 0 by decide +kernel, Rat.zero_add]
          decide +kernel
        · rfl
      rw [e]
      exact ih (fun s' hs' => hs s' (List.mem_cons_of_mem _ hs'))
  exact this log hl

def tlA (g : Gm) (r : List Ce) (log : List Sn) (a k t : Nat) : Li := ⟨a, k, t, [], totA g r log a k t⟩
def noAK (a k : Nat) : Li := ⟨a, k, -1, [], 0⟩
def othersA (g : Gm) (r : List Ce) (log : List Sn) (a k p : Nat) : List Li := ((List.range p).filter fun t => t != k).map (tlA g r log a k)
def orZ (z : Li) (m : Option Li) : Li := match m with
  | none => z
  | some l => if 0 < l.gain then l else z
def bestAK (g : Gm) (r : List Ce) (log : List Sn) (a k : Nat) : Li := orZ (noAK a k) ((othersA g r log a k (kl g a)).foldl (mst gtL) none)
def auditA (g : Gm) (r : List Ce) (log : List Sn) (a : Nat) : List Li := (List.range (kl g a)).map (bestAK g r log a)
def auditTo (g : Gm) (r : List Ce) (log : List Sn) (a : Nat) : List Li := (List.range a).flatMap (auditA g r log)
def auditL (g : Gm) (r : List Ce) (log : List Sn) : List Li := auditTo g r log g.agents.length

theorem bst_orZ {z : Li} (hz : z.gain = 0) : ∀ (l : List Li) (m : Option Li), l.foldl bst (orZ z m) = orZ z (l.foldl (mst gtL) m)
  | [], m => rfl
  | x :: l, m => by
    rw [List.foldl_cons, List.foldl_cons, ← bst_orZ hz l]
    congr 1
    cases m with
    | none => simp only [orZ, mst, bst, hz]
    | some b =>
      by_cases c1 : 0 < b.gain
      · by_cases c2 : b.gain < x.gain
        · have : 0 < x.gain := by grind
          simp only [orZ, mst, bst, gtL, c1, c2, this, if_true, decide_true]
        · simp only [orZ, mst, bst, gtL, c1, c2, if_true, if_false, decide_false, Bool.false_eq_true]
      · by_cases c2 : b.gain < x.gain
        · simp only [orZ, mst, bst, gtL, c1, c2, hz, if_true, if_false, decide_true]
        · have : ¬ 0 < x.gain := by grind
          simp only [orZ, mst, bst, gtL, c1, c2, this, hz, if_false, decide_false, Bool.false_eq_true]

def bstTo (g : Gm) (r : List Ce) (log : List Sn) (a k t : Nat) : Li := (List.range t).foldl (fun b t => bst b (tlA g r log a k t)) (noAK a k)
theorem bstTo_step (g : Gm) (r : List Ce) (log : List Sn) (a k t : Nat) : bstTo g r log a k (t + 1) = bst (bstTo g r log a k t) (tlA g r log a k t) := by
  unfold bstTo; rw [List.range_succ, List.foldl_append]; rfl
theorem othersA_own {g : Gm} {r : List Ce} {log : List Sn} {a k : Nat} : othersA g r log a k (k + 1) = othersA g r log a k k := by
  unfold othersA; rw [List.range_succ, List.filter_append]; simp
theorem othersA_step {g : Gm} {r : List Ce} {log : List Sn} {a k t : Nat} (h : t ≠ k) : othersA g r log a k (t + 1) = othersA g r log a k t ++ [tlA g r log a k t] := by
  unfold othersA; rw [List.range_succ, List.filter_append]; simp [h]
theorem bstTo_eq {g : Gm} {r : List Ce} (h : Play g r) {log : List Sn} (hl : LogOk g log) {a k : Nat} (ha : a < g.agents.length) : ∀ t, bstTo g r log a k t = (othersA g r log a k t).foldl bst (noAK a k) ∧ 0 ≤ (bstTo g r log a k t).gain
  | 0 => ⟨rfl, Rat.le_refl⟩
  | t + 1 => by
    obtain ⟨h1, h2⟩ := bstTo_eq h hl ha (k := k) t
    rw [bstTo_step]
    by_cases e : t = k
    · subst e
      have : bst (bstTo g r log a t t) (tlA g r log a t t) = bstTo g r log a t t := by
        unfold bst
        rw [if_neg]
        show ¬ _ < totA g r log a t t
        rw [tot_own h hl ha]
        exact Rat.not_lt.2 h2
      rw [this, othersA_own]
      exact ⟨h1, h2⟩
    · rw [othersA_step e, List.foldl_append, ← h1]
      refine ⟨rfl, ?_⟩
      unfold bst
      split
      · rename_i c; exact Rat.le_of_lt (by grind)
      · exact h2
theorem bstTo_best {g : Gm} {r : List Ce} (h : Play g r) {log : List Sn} (hl : LogOk g log) {a k : Nat} (ha : a < g.agents.length) : bstTo g r log a k (kl g a) = bestAK g r log a k := by
  rw [(bstTo_eq h hl ha _).1]
  exact bst_orZ rfl _ none
end Go.Proofs.YtglhjjokijdagaaGreat.Sh

/- Groups and their joint reports. No program in sight. -/
namespace Go.Proofs.YtglhjjokijdagaaGreat.Sh
open Go Go.RowKit

/-- The members of a group, by its number. -/
def bitN (grp a : Nat) : Bool := grp / 2 ^ a % 2 == 1
def mems (N grp : Nat) : List Nat := (List.range N).filter (bitN grp)
def intsN (l : List Nat) : List Int := l.map fun (a : Nat) => (a : Int)
theorem mems_lt {N grp a : Nat} (h : a ∈ mems N grp) : a < N := List.mem_range.1 (List.mem_filter.1 h).1
theorem mems_succ (N grp : Nat) : mems (N + 1) grp = if bitN grp N = true then mems N grp ++ [N] else mems N grp := by
  unfold mems
  rw [List.range_succ, List.filter_append]
  split
  · rename_i h; simp [h]
  · rename_i h; simp [h]
theorem mems_len (N grp : Nat) : (mems N grp).length ≤ N := by
  have := List.length_filter_le (bitN grp) (List.range N)
  rwa [List.length_range] at this

def szM (g : Gm) (M : List Nat) : List Nat := M.map (kl g)
def toldM (g : Gm) (M : List Nat) (n : Nat) : List Int := atR (szM g M).reverse n
def repM (g : Gm) (M : List Nat) : Nat := prodR (szM g M).reverse
theorem toldM_len (g : Gm) (M : List Nat) (n : Nat) : (toldM g M n).length = M.length := by unfold toldM; rw [atR_length]; simp [szM]

/-- A profile with the reports of members changed. -/
def setAll : List Int → List Nat → List Int → List Int
  | p, a :: M, t :: T => setAll (p.set a t) M T
  | p, _, _ => p
theorem setAll_len : ∀ (p : List Int) (M : List Nat) (T : List Int), (setAll p M T).length = p.length
  | p, [], _ => by cases ‹List Int› <;> rfl
  | p, _ :: _, [] => rfl
  | p, a :: M, t :: T => by rw [setAll, setAll_len]; simp
theorem setAll_snoc : ∀ (p : List Int) (M : List Nat) (T : List Int) (a : Nat) (t : Int), M.length = T.length → setAll p (M ++ [a]) (T ++ [t]) = (setAll p M T).set a t
  | p, [], [], a, t, _ => rfl
  | p, [], _ :: _, a, t, h => by simp at h
  | p, _ :: _, [], a, t, h => by simp at h
  | p, b :: M, u :: T, a, t, h => by
    rw [List.cons_append, List.cons_append, setAll, setAll, setAll_snoc _ M T a t (by simpa using h)]

theorem profTo_iff {g : Gm} {p : List Int} (h : p.length = g.agents.length) : isProf g p ↔ ∀ j x, p[j]? = some x → 0 ≤ x ∧ x < (kl g j : Int) := by
  constructor
  · intro hp j x hx
    have hj := (List.getElem?_eq_some_iff.1 hx).1
    obtain ⟨A, y, e1, e2, e3, e4⟩ := hp.2 j (by omega)
    rw [e2] at hx
    obtain rfl := Option.some.inj hx
    have hj' : j < g.agents.length := by omega
    rw [List.getElem?_eq_getElem hj'] at e1
    obtain rfl := Option.some.inj e1
    rw [kl_eq hj']
    exact ⟨e3, e4⟩
  · intro hp
    refine ⟨h, fun j hj => ⟨g.agents[j], p[j]'(by omega), List.getElem?_eq_getElem hj, List.getElem?_eq_getElem _, ?_⟩⟩
    have := hp j _ (List.getElem?_eq_getElem (show j < p.length by omega))
    rw [kl_eq hj] at this
    exact this
theorem set_isProf {g : Gm} {p : List Int} (hp : isProf g p) {a : Nat} {t : Int} (h0 : 0 ≤ t) (h1 : t < (kl g a : Int)) : isProf g (p.set a t) := by
  rw [profTo_iff (by simpa using hp.1)]
  intro j x hx
  rw [List.getElem?_set] at hx
  split at hx
  · rename_i e
    split at hx
    · obtain rfl := Option.some.inj hx; subst e; exact ⟨h0, h1⟩
    · cases hx
  · exact (profTo_iff hp.1).1 hp j x hx
theorem setAll_isProf {g : Gm} : ∀ {M : List Nat} {T : List Int} {p : List Int}, isProf g p → (∀ (i a : Nat) (t : Int), M[i]? = some a → T[i]? = some t → 0 ≤ t ∧ t < (kl g a : Int)) → isProf g (setAll p M T)
  | [], T, p, hp, _ => by cases T <;> exact hp
  | _ :: _, [], p, hp, _ => hp
  | a :: M, t :: T, p, hp, h => by
    rw [setAll]
    have h0 := h 0 a t rfl rfl
    exact setAll_isProf (set_isProf hp h0.1 h0.2) (fun i b u hi hu => h (i + 1) b u (by simpa using hi) (by simpa using hu))

theorem atR_digit : ∀ (r : List Nat) (i j : Nat) (x : Int), i < prodR r → (atR r i)[j]? = some x → ∃ k, r.reverse[j]? = some k ∧ 0 ≤ x ∧ x < (k : Int) := by
  intro r i j x hi hx
  have hj := (List.getElem?_eq_some_iff.1 hx).1
  rw [atR_length] at hj
  obtain ⟨y, h1, h2⟩ := atR_get r i j hi hj
  rw [h1] at hx
  obtain rfl := Option.some.inj hx
  exact ⟨_, List.getElem?_eq_getElem _, by omega, by omega⟩
theorem toldM_digit {g : Gm} {M : List Nat} {n : Nat} (hn : n < repM g M) (i a : Nat) (t : Int) (hi : M[i]? = some a) (ht : (toldM g M n)[i]? = some t) : 0 ≤ t ∧ t < (kl g a : Int) := by
  obtain ⟨k, h1, h2, h3⟩ := atR_digit _ n i t hn ht
  rw [List.reverse_reverse] at h1
  unfold szM at h1
  rw [List.getElem?_map, hi] at h1
  obtain rfl := Option.some.inj h1
  exact ⟨h2, h3⟩

def toM (g : Gm) (m : Nat) (M : List Nat) (T : List Int) : Nat := (whr g (setAll (atG g m) M T)).toNat
/-- A joint report is better for each member. -/
def BetterM (g : Gm) (r : List Ce) (M : List Nat) (m n : Nat) : Prop := ∀ a ∈ M, useQ g r m a < hasQ (ceAt r (toM g m M (toldM g M n))) (kdAt g a (kOf g m a)) a

theorem toM_lt {g : Gm} {r : List Ce} (h : Play g r) {M : List Nat} {m n : Nat} (hm : m < r.length) (hn : n < repM g M) : whr g (setAll (atG g m) M (toldM g M n)) = (toM g m M (toldM g M n) : Int) ∧ toM g m M (toldM g M n) < r.length ∧ isProf g (setAll (atG g m) M (toldM g M n)) := by
  have hrl := h.good.2.2.1
  have hp := setAll_isProf (p := atG g m) (at_isProf (by omega)) (toldM_digit hn)
  obtain ⟨k, h1, h2, h3⟩ : ∃ k : Nat, whr g (setAll (atG g m) M (toldM g M n)) = (k : Int) ∧ k < r.length ∧ True := by
    have hw := whrTo_le (g := g) (p := setAll (atG g m) M (toldM g M n)) g.agents.length (Nat.le_refl _) hp.2
    rw [List.take_length] at hw
    exact ⟨(whr g (setAll (atG g m) M (toldM g M n))).toNat, by unfold whr at *; omega, by unfold whr at *; omega, trivial⟩
  unfold toM
  rw [h1, Int.toNat_natCast]
  exact ⟨rfl, h2, hp⟩

section
variable (g : Gm) (r : List Ce)
def NoJm (grp m : Nat) : Prop := ∀ n, n < repM g (mems g.agents.length grp) → ¬ BetterM g r (mems g.agents.length grp) m n
def NoJ (grp : Nat) : Prop := 2 ≤ (mems g.agents.length grp).length → ∀ m, m < r.length → NoJm g r grp m
structure FirstJ (grp m n : Nat) : Prop where
  hg : grp < 2 ^ g.agents.length
  hl : 2 ≤ (mems g.agents.length grp).length
  hm : m < r.length
  hn : n < repM g (mems g.agents.length grp)
  yes : BetterM g r (mems g.agents.length grp) m n
  g0 : ∀ grp', grp' < grp → NoJ g r grp'
  m0 : ∀ m', m' < m → NoJm g r grp m'
  n0 : ∀ n', n' < n → ¬ BetterM g r (mems g.agents.length grp) m n'
end
theorem FirstJ.uniq {g : Gm} {r : List Ce} {a n t a' n' t' : Nat} (h : FirstJ g r a n t) (h' : FirstJ g r a' n' t') : a = a' ∧ n = n' ∧ t = t' := by
  have e1 : a = a' := by
    rcases Nat.lt_trichotomy a a' with c | c | c
    · exact absurd h.yes (h'.g0 a c h.hl n h.hm t h.hn)
    · exact c
    · exact absurd h'.yes (h.g0 a' c h'.hl n' h'.hm t' h'.hn)
  subst e1
  have e2 : n = n' := by
    rcases Nat.lt_trichotomy n n' with c | c | c
    · exact absurd h.yes (h'.m0 n c t h.hn)
    · exact c
    · exact absurd h'.yes (h.m0 n' c t' h'.hn)
  subst e2
  refine ⟨rfl, rfl, ?_⟩
  rcases Nat.lt_trichotomy t t' with c | c | c
  · exact absurd h.yes (h'.n0 t c)
  · exact c
  · exact absurd h'.yes (h.n0 t' c)

structure Jt where
  group : List Int
  told : List Int
  prof : List Int
@[simp] def jtS (j : Jt) : SV := .agg [intsS j.group, intsS j.told, intsS j.prof]
def jtAt (g : Gm) (grp m n : Nat) : Jt := ⟨intsN (mems g.agents.length grp), toldM g (mems g.agents.length grp) n, atG g m⟩
def isJt (g : Gm) (r : List Ce) (j : Jt) (ok : Bool) : Prop := (∃ grp m n, FirstJ g r grp m n ∧ j = jtAt g grp m n ∧ ok = true) ∨ ((∀ grp, grp < 2 ^ g.agents.length → NoJ g r grp) ∧ j = ⟨[], [], []⟩ ∧ ok = false)
theorem isJt.at {g : Gm} {r : List Ce} {j : Jt} {ok : Bool} (h : isJt g r j ok) {grp m n : Nat} (hf : FirstJ g r grp m n) : j = jtAt g grp m n ∧ ok = true := by
  rcases h with ⟨a', n', t', h1, h2, h3⟩ | ⟨h1, -, -⟩
  · obtain ⟨rfl, rfl, rfl⟩ := hf.uniq h1
    exact ⟨h2, h3⟩
  · exact absurd hf.yes (h1 grp hf.hg hf.hl m hf.hm n hf.hn)
theorem isJt.none {g : Gm} {r : List Ce} {j : Jt} {ok : Bool} (h : isJt g r j ok) (hn : ∀ grp, grp < 2 ^ g.agents.length → NoJ g r grp) : j = ⟨[], [], []⟩ ∧ ok = false := by
  rcases h with ⟨a', n', t', h1, h2, h3⟩ | ⟨-, h2, h3⟩
  · exact absurd h1.yes (hn a' h1.hg h1.hl n' h1.hm t' h1.hn)
  · exact ⟨h2, h3⟩
theorem least_of (p : Nat → Prop) (h : ∃ n, p n) : ∃ n, p n ∧ ∀ m, m < n → ¬ p m := by
  obtain ⟨n, hn⟩ := h
  induction n using Nat.strongRecOn with
  | _ n ih =>
    by_cases hm : ∃ m, m < n ∧ p m
    · obtain ⟨m, h1, h2⟩ := hm; exact ih m h1 h2
    · exact ⟨n, hn, fun m h1 h2 => hm ⟨m, h1, h2⟩⟩
theorem isJt_of (g : Gm) (r : List Ce) : ∃ j ok, isJt g r j ok := by
  by_cases h : ∀ grp, grp < 2 ^ g.agents.length → NoJ g r grp
  · exact ⟨_, _, .inr ⟨h, rfl, rfl⟩⟩
  · obtain ⟨a, ha, ha0⟩ := least_of (fun a => a < 2 ^ g.agents.length ∧ ¬ NoJ g r a) (Classical.byContradiction fun hc => h fun a ha => Classical.byContradiction fun hn => hc ⟨a, ha, hn⟩)
    have hl : 2 ≤ (mems g.agents.length a).length := Classical.byContradiction fun hc => ha.2 fun hh => absurd hh hc
    obtain ⟨n, hn, hn0⟩ := least_of (fun n => n < r.length ∧ ¬ NoJm g r a n) (Classical.byContradiction fun hc => ha.2 fun _ n hn => Classical.byContradiction fun hx => hc ⟨n, hn, hx⟩)
    obtain ⟨t, ht, ht0⟩ := least_of (fun t => t < repM g (mems g.agents.length a) ∧ BetterM g r (mems g.agents.length a) n t) (Classical.byContradiction fun hc => hn.2 fun t ht hx => hc ⟨t, ht, hx⟩)
    exact ⟨_, _, .inl ⟨a, n, t, ⟨ha.1, hl, hn.1, ht.1, ht.2, fun a' h1 => Classical.byContradiction fun hx => ha0 a' h1 ⟨by have := ha.1; omega, hx⟩, fun n' h1 => Classical.byContradiction fun hx => hn0 n' h1 ⟨by have := hn.1; omega, hx⟩, fun t' h1 hx => ht0 t' h1 ⟨by have := ht.1; omega, hx⟩⟩, rfl, rfl⟩⟩
theorem subV_refl' : ∀ (l : List SV), subV l l
  | [] => trivial
  | a :: l => ⟨by simp, subV_refl' l⟩
theorem st_self (x : ST) : x.sub x = True := by
  cases x with
  | v a => simp
  | tup l => exact eq_true (subV_refl' l)

theorem tfJ {b : Bool} {P : Prop} (h : b = true ↔ P) (hp : P) : b = true := h.2 hp
theorem boolJ (P : Prop) : ∃ b : Bool, b = true ↔ P := by
  by_cases h : P
  · exact ⟨true, by simp [h]⟩
  · exact ⟨false, by simp [h]⟩
end Go.Proofs.YtglhjjokijdagaaGreat.Sh

/- A game in which an agent's kinds stand the other way about: plain laws. No program in sight. -/
namespace Go.Proofs.YtglhjjokijdagaaGreat.Sh
open Go Go.RowKit

/-- Two kinds with the same numbers. -/
structure SameN (K L : Kd) : Prop where
  w : K.weight = L.weight
  al : K.alone = L.alone
  wo : K.worth = L.worth
def tk (g : Gm) (b i k : Nat) : Nat := if i = b then kl g i - 1 - k else k
/-- A game is another one, in which an agent's kinds stand the other way about, and all names are others. -/
structure Tn (g h : Gm) (b : Nat) : Prop where
  hb : b < g.agents.length
  la : h.agents.length = g.agents.length
  lo : h.outs.length = g.outs.length
  pay : h.pay = g.pay
  lots : h.lots = g.lots
  aim : h.aim = g.aim
  needs : h.needs = []
  kn : ∀ i (hi : i < g.agents.length), (h.agents[i]'(by omega)).kinds.length = g.agents[i].kinds.length
  kd : ∀ i k (hi : i < g.agents.length) (hk : k < g.agents[i].kinds.length), SameN ((h.agents[i]'(by omega)).kinds[k]'(by rw [kn i hi]; exact hk)) (kdAt g i (tk g b i k))
  on : NamesOk h.outs
  an : NamesOk (h.agents.map Ag.name)
  kdn : ∀ A ∈ h.agents, NamesOk (A.kinds.map Kd.name)
  so : ∀ s ∈ h.outs, s.size ≤ 2
  sa : ∀ A ∈ h.agents, A.name.size ≤ 2
  sk : ∀ A ∈ h.agents, ∀ K ∈ A.kinds, K.name.size ≤ 2

section
variable {g h : Gm} {b : Nat} (t : Tn g h b)
include t
theorem Tn.kl_eq (i : Nat) : kl h i = kl g i := by
  unfold kl
  by_cases hi : i < g.agents.length
  · rw [List.getElem?_eq_getElem hi, List.getElem?_eq_getElem (by have := t.la; omega)]
    simp [t.kn i hi]
  · rw [List.getElem?_eq_none (by have := t.la; omega), List.getElem?_eq_none (by have := t.la; omega)]
theorem Tn.szs : szs h = szs g := by
  unfold Sh.szs
  refine List.ext_getElem (by simp [t.la]) fun i h1 h2 => ?_
  simp only [List.getElem_map]
  exact t.kn i (by simpa using h2)
theorem Tn.prodK : prodK h.agents = prodK g.agents := by
  rw [prodK_eq, prodK_eq]
  have := t.szs
  unfold Sh.szs at this
  rw [this]
theorem Tn.at (n : Nat) : atG h n = atG g n := by unfold atG; rw [t.szs]
theorem Tn.whrTo (p : List Int) : ∀ i, whrTo h p i = whrTo g p i
  | 0 => rfl
  | i + 1 => by
    rw [Sh.whrTo, Sh.whrTo, Tn.whrTo p i]
    have := t.kl_eq i
    unfold kl at this
    rw [this]
theorem Tn.whr (p : List Int) : whr h p = whr g p := by unfold Sh.whr; rw [t.whrTo, t.la]
theorem Tn.kOf (n a : Nat) : kOf h n a = kOf g n a := by unfold Sh.kOf; rw [t.at]
theorem Tn.isProf {p : List Int} (hp : isProf g p) : isProf h p := by
  refine (profTo_iff (by rw [t.la]; exact hp.1)).2 fun j x hx => ?_
  rw [t.kl_eq]
  exact (profTo_iff hp.1).1 hp j x hx
theorem Tn.kdAt {i k : Nat} (hi : i < g.agents.length) (hk : k < kl g i) : SameN (kdAt h i k) (kdAt g i (tk g b i k)) := by
  have hk' : k < g.agents[i].kinds.length := by rw [← Sh.kl_eq hi]; exact hk
  have hi' : i < h.agents.length := by rw [t.la]; exact hi
  have := t.kd i k hi hk'
  rwa [kdAt_eq hi' (by rw [t.kn i hi]; exact hk')]
end
theorem tk_lt {g : Gm} {b i k : Nat} (h : k < kl g i) : tk g b i k < kl g i := by unfold tk; split <;> omega
theorem tk_tk {g : Gm} {b i k : Nat} (h : k < kl g i) : tk g b i (tk g b i k) = k := by unfold tk; split <;> omega

/-- A profile, in which the agent tells the other end of its kinds. -/
def tp (g : Gm) (b : Nat) (p : List Int) : List Int := putP p b ((kl g b : Int) - 1 - (p[b]?).getD 0)
def tn (g : Gm) (b n : Nat) : Nat := (whr g (tp g b (atG g n))).toNat

theorem putP_get {p : List Int} {a : Nat} (ha : a < p.length) (k : Int) (j : Nat) : (putP p a k)[j]? = if j = a then some k else p[j]? := by
  unfold putP
  rw [if_pos ⟨by omega, by omega⟩, Int.toNat_natCast, List.getElem?_set]
  by_cases c : j = a
  · subst c; simp [ha]
  · rw [if_neg (fun e => c e.symm), if_neg c]

section
variable {g : Gm} {r : List Ce} (hp : Play g r) {b : Nat} (hb : b < g.agents.length)
include hp hb
theorem klb : 0 < kl g b := by rw [kl_eq hb]; exact List.length_pos_iff.2 (hp.good.2.1.all _ (List.getElem_mem hb)).1
theorem tp_ok {p : List Int} (h : isProf g p) : isProf g (tp g b p) := by
  have hl : b < p.length := by rw [h.1]; exact hb
  have h1 := (profTo_iff h.1).1 h b _ (List.getElem?_eq_getElem hl)
  unfold tp
  rw [List.getElem?_eq_getElem hl]
  simp only [Option.getD_some]
  exact put_isProf h (List.getElem?_eq_getElem hb) (by omega) (by rw [← kl_eq hb]; omega)
theorem tp_get {p : List Int} (h : isProf g p) (j : Nat) : (tp g b p)[j]? = if j = b then some ((kl g b : Int) - 1 - (p[b]?).getD 0) else p[j]? := by
  have hl : b < p.length := by rw [h.1]; exact hb
  exact putP_get hl _ j
theorem tp_tp {p : List Int} (h : isProf g p) : tp g b (tp g b p) = p := by
  have hl : b < p.length := by rw [h.1]; exact hb
  refine List.ext_getElem? fun j => ?_
  rw [tp_get hp hb (tp_ok hp hb h), tp_get hp hb h, tp_get hp hb h, if_pos rfl, Option.getD_some]
  by_cases c : j = b
  · subst c
    rw [if_pos rfl, List.getElem?_eq_getElem hl]
    simp only [Option.getD_some, Option.some.injEq]
    omega
  · rw [if_neg c, if_neg c]
theorem tn_lt {n : Nat} (hn : n < r.length) : tn g b n < r.length ∧ atG g (tn g b n) = tp g b (atG g n) ∧ (tn g b n : Int) = whr g (tp g b (atG g n)) := by
  have hrl := hp.good.2.2.1
  have h1 := tp_ok hp hb (at_isProf (g := g) (i := n) (by omega))
  obtain ⟨w1, w2⟩ := whrTo_le (g := g) (p := tp g b (atG g n)) g.agents.length (Nat.le_refl _) h1.2
  rw [List.take_length] at w2
  refine ⟨?_, at_whr h1, ?_⟩
  · unfold tn whr; omega
  · unfold tn whr; omega
theorem tn_tn {n : Nat} (hn : n < r.length) : tn g b (tn g b n) = n := by
  have hrl := hp.good.2.2.1
  obtain ⟨h1, h2, h3⟩ := tn_lt hp hb hn
  have : tn g b (tn g b n) = (whr g (tp g b (atG g (tn g b n)))).toNat := rfl
  rw [this, h2, tp_tp hp hb (at_isProf (by omega)), whr_at (by omega), Int.toNat_natCast]
theorem kOf_tn {n : Nat} (hn : n < r.length) {a : Nat} (ha : a < g.agents.length) : kOf g (tn g b n) a = tk g b a (kOf g n a) := by
  have hrl := hp.good.2.2.1
  obtain ⟨h1, h2, h3⟩ := tn_lt hp hb hn
  have hs : Spot g r a n := ⟨hp, ha, hn⟩
  obtain ⟨k1, k2⟩ := hs.kof
  rw [← kl_eq ha] at k2
  show (((atG g (tn g b n))[a]?).getD 0).toNat = _
  rw [h2, tp_get hp hb (at_isProf (by omega))]
  unfold tk
  by_cases c : a = b
  · subst c
    rw [if_pos rfl, if_pos rfl, k1]
    simp only [Option.getD_some]
    omega
  · rw [if_neg c, if_neg c, k1]
    simp only [Option.getD_some]
    omega
end
end Go.Proofs.YtglhjjokijdagaaGreat.Sh

/- A crowd: what a report brings; nothing of it is too great to be told. No program in sight. -/
namespace Go.Proofs.YtglhjjokijdagaaGreat.Sh
open Go Go.RowKit

/-- What an agent of a kind has at what is said, with a report of its own. -/
def useP (g : Gm) (r : List Ce) (a k : Nat) (p : List Int) (t : Int) : Rat := hasQ (ceAt r (whr g (putP p a t)).toNat) (kdAt g a k) a
def UD (g : Gm) (r : List Ce) : Nat := LR r * VG g * PR r
theorem UD_ne (g : Gm) (r : List Ce) : UD g r ≠ 0 := Nat.mul_ne_zero (Nat.mul_ne_zero (LR_ne r) (VG_ne g)) (PR_ne r)
theorem UD_wl {g : Gm} {r : List Ce} (h : Play g r) (six : ∀ c ∈ r, CeSix c) : wl (UD g r) ≤ 1303 := by
  have h1 := LR_wl h six
  have h2 := VG_wl h
  have h3 := PR_wl h six
  have h4 := wl_mul (LR r) (VG g)
  have h5 := wl_mul (LR r * VG g) (PR r)
  unfold UD; omega
theorem Over.neg {D M : Nat} {q : Rat} (h : Over D M q) : Over D M (-q) := by
  obtain ⟨z, rfl, hz⟩ := h
  exact ⟨-z, Rat.neg_mkRat _ _, by rw [Int.natAbs_neg]; exact hz⟩
theorem Over.sub {D M M' : Nat} {p q : Rat} (hD : D ≠ 0) (h : Over D M p) (h' : Over D M' q) : Over D (M + M') (p - q) := by
  rw [Rat.sub_eq_add_neg]; exact h.add hD h'.neg
theorem pay_over {g : Gm} {r : List Ce} (six : ∀ c ∈ r, CeSix c) {a n : Nat} (hn : n < r.length) : Over (PR r) (W ^ 6) (payQ (ceAt r n) a) := by
  rw [ceAt_eq hn]
  unfold payQ
  by_cases h : a < r[n].pay.length
  · rw [List.getElem?_eq_getElem h]
    exact fix_over ((six _ (List.getElem_mem hn)).pay _ (List.getElem_mem h)) (Nat.dvd_trans (dens_dvd (List.getElem_mem h)) (pr_dvd (List.mem_map.2 ⟨_, List.getElem_mem hn, rfl⟩))) (PR_ne r)
  · rw [List.getElem?_eq_none (by omega)]
    exact Over.zero _ _
theorem has_over {g : Gm} {r : List Ce} (h : Play g r) (six : ∀ c ∈ r, CeSix c) {a k n : Nat} (ha : a < g.agents.length) (hk : k < kl g a) (hn : n < r.length) : Over (UD g r) (W ^ 10) (hasQ (ceAt r n) (kdAt g a k) a) := by
  have hk : k < g.agents[a].kinds.length := by rw [← kl_eq ha]; exact hk
  have hP : Pair r[n] g.agents[a].kinds[k] a := Spot.pair ⟨h, ha, hn⟩ hn hk
  have hV : ∀ f ∈ (g.agents[a].kinds[k]).worth, f.fix.den ∣ VG g := fun f hf =>
    Nat.dvd_trans (dens_dvd hf) (Nat.dvd_trans (pr_dvd (List.mem_map.2 ⟨_, List.getElem_mem hk, rfl⟩)) (pr_dvd (List.mem_map.2 ⟨_, List.getElem_mem ha, rfl⟩)))
  have hL : dens r[n].lot ∣ LR r := pr_dvd (List.mem_map.2 ⟨_, List.getElem_mem hn, rfl⟩)
  have hne : LR r * VG g ≠ 0 := Nat.mul_ne_zero (LR_ne r) (VG_ne g)
  have h1 := Over.sum hne (M := W ^ 6 * W ^ 3) (l := dotL r[n].lot (g.agents[a].kinds[k]).worth) fun q hq => by
    unfold dotL at hq
    obtain ⟨i, hi, rfl⟩ := List.getElem_of_mem hq
    rw [List.getElem_zipWith]
    have i1 : i < r[n].lot.length := by simp at hi; omega
    have i2 : i < (g.agents[a].kinds[k]).worth.length := by simp at hi; omega
    have e1 := (six _ (List.getElem_mem hn)).lot _ (List.getElem_mem i1)
    have e2 := hP.kf.wo _ (List.getElem_mem i2)
    exact (fix_over e1 (Nat.dvd_trans (dens_dvd (List.getElem_mem i1)) hL) (LR_ne r)).mul (fix_over e2 (hV _ (List.getElem_mem i2)) (VG_ne g))
  have h2 := h1.up (E := UD g r) (M' := 6 * (W ^ 6 * W ^ 3)) (Nat.dvd_mul_right _ _) (UD_ne g r) (Nat.mul_le_mul_right _ hP.dot.2.1)
  have h3 := (pay_over (g := g) six (a := a) hn).up (E := UD g r) (Nat.dvd_mul_left _ _) (UD_ne g r) (Nat.le_refl _)
  have h4 := h2.sub (UD_ne g r) h3
  rw [kdAt_eq ha hk]
  unfold hasQ
  rw [show (ceAt r n).lot = r[n].lot by rw [ceAt_eq hn]]
  exact h4.up (Nat.dvd_refl _) (UD_ne g r) (show 6 * (W ^ 6 * W ^ 3) + W ^ 6 ≤ W ^ 10 by decide)
theorem u_sz {g : Gm} {r : List Ce} (h : Play g r) (six : ∀ c ∈ r, CeSix c) {q : Rat} (ho : Over (UD g r) (W ^ 13) q) : Sh.sz q ≤ 4096 := by
  have h1 := ho.sz (UD_ne g r)
  have h2 := UD_wl h six
  have h3 : wl (W ^ 13) ≤ 20 := toW_len_lt (k := 20) (by decide)
  omega
theorem Over.le {D M M' : Nat} {q : Rat} (h : Over D M q) (hD : D ≠ 0) (hm : M ≤ M') : Over D M' q := h.up (Nat.dvd_refl _) hD hm
theorem Over.many {D M : Nat} (hD : D ≠ 0) {l : List Rat} (hl : l.length ≤ 1024) {i : Nat} (hM : M = W ^ i) (h : ∀ q ∈ l, Over D M q) : Over D (W ^ (i + 1)) (sumQ l) := by
  refine (Over.sum hD h).up (Nat.dvd_refl _) hD ?_
  rw [hM, Nat.pow_succ, Nat.mul_comm]
  exact Nat.mul_le_mul_left _ (Nat.le_trans hl (by decide))

/-- A place in a crowd: a rule that is played, numbers that are not too great, an agent, a kind of it. -/
structure Sit (g : Gm) (r : List Ce) (a : Nat) : Prop where
  play : Play g r
  six : ∀ c ∈ r, CeSix c
  ha : a < g.agents.length

section
variable {g : Gm} {r : List Ce} {a : Nat} (h : Sit g r a)
include h
theorem Sit.get : g.agents[a]? = some (g.agents[a]'h.ha) := List.getElem?_eq_getElem h.ha
theorem Sit.kl : kl g a = (g.agents[a]'h.ha).kinds.length := kl_eq h.ha
theorem Sit.put {p : List Int} (hp : isProf g p) {t : Int} (h0 : 0 ≤ t) (h1 : t < (Sh.kl g a : Int)) : isProf g (putP p a t) :=
  put_isProf hp h.get h0 (by rw [← h.kl]; exact h1)
theorem Sit.whr {p : List Int} (hp : isProf g p) {t : Int} (h0 : 0 ≤ t) (h1 : t < (Sh.kl g a : Int)) : ∃ n : Nat, whr g (putP p a t) = (n : Int) ∧ n < r.length ∧ atG g n = putP p a t := whr_lt h.play (h.put hp h0 h1)
theorem Sit.over {p : List Int} (hp : isProf g p) {t : Int} (h0 : 0 ≤ t) (h1 : t < (Sh.kl g a : Int)) {k : Nat} (hk : k < Sh.kl g a) : Over (UD g r) (W ^ 10) (useP g r a k p t) := by
  obtain ⟨n, e1, e2, -⟩ := h.whr hp h0 h1
  unfold useP
  rw [e1, Int.toNat_natCast]
  exact has_over h.play h.six h.ha hk e2
theorem Sit.self {p : List Int} (hp : isProf g p) : putP p a ((p[a]?).getD 0) = p := by
  have : a < p.length := by have := hp.1; have := h.ha; omega
  unfold putP
  rw [if_pos ⟨by omega, by omega⟩, Int.toNat_natCast, List.getElem?_eq_getElem this, Option.getD_some, List.set_getElem_self]
theorem Sit.report {p : List Int} (hp : isProf g p) : ∃ k : Nat, p[a]? = some (k : Int) ∧ k < Sh.kl g a := by
  obtain ⟨A, x, e1, e2, e3, e4⟩ := hp.2 a h.ha
  rw [h.get] at e1
  obtain rfl := Option.some.inj e1
  exact ⟨x.toNat, by rw [e2, Int.toNat_of_nonneg e3], by rw [h.kl]; omega⟩
theorem Sit.putput (p : List Int) (s t : Int) : putP (putP p a s) a t = putP p a t := by
  by_cases c : a < p.length
  · have e : ∀ (q : List Int) (k : Int), a < q.length → putP q a k = q.set a k := fun q k hq => by unfold putP; rw [if_pos ⟨by omega, by omega⟩, Int.toNat_natCast]
    rw [e p s c, e p t c, e _ t (by rw [List.length_set]; exact c), List.set_set]
  · have e : ∀ (q : List Int) (k : Int), ¬ a < q.length → putP q a k = q := fun q k hq => by unfold putP; rw [if_neg (by omega)]
    rw [e p s c, e p t c]
theorem Sit.gain {p : List Int} (hp : isProf g p) {k : Nat} (hk : k < Sh.kl g a) {t : Nat} (_ht : t < Sh.kl g a) : ∃ n, n < r.length ∧ atG g n = putP p a k ∧ gainQ g r a n t = useP g r a k p t - useP g r a k p k := by
  obtain ⟨n, e1, e2, e3⟩ := h.whr hp (Int.natCast_nonneg k) (by omega)
  have hpl : a < p.length := by have := hp.1; have := h.ha; omega
  have e4 : kOf g n a = k := by
    unfold kOf
    rw [e3, putP_get hpl, if_pos rfl, Option.getD_some, Int.toNat_natCast]
  refine ⟨n, e2, e3, ?_⟩
  unfold gainQ Sh.toAt
  rw [e4, e3, h.putput]
  unfold useP
  rw [e1, Int.toNat_natCast]
theorem Sit.truth (hno : NoA g r a) {p : List Int} (hp : isProf g p) {k : Nat} (hk : k < Sh.kl g a) {t : Nat} (ht : t < Sh.kl g a) : useP g r a k p t ≤ useP g r a k p k := by
  obtain ⟨n, e1, -, e2⟩ := h.gain hp hk ht
  have := hno n e1 t ht
  grind
end
end Go.Proofs.YtglhjjokijdagaaGreat.Sh

/- A crowd: the best report, the best table. No program in sight. -/
namespace Go.Proofs.YtglhjjokijdagaaGreat.Sh
open Go Go.RowKit

/-- The best of N, a given one first. -/
def ansTo (b : Nat → Rat) (k : Nat) : Nat → Nat
  | 0 => k
  | n + 1 => if b (ansTo b k n) < b n then n else ansTo b k n
structure IsAns (b : Nat → Rat) (N k m : Nat) : Prop where
  lt : m < N
  top : ∀ j, j < N → b j ≤ b m
  own : m ≠ k → b k < b m
  first : m ≠ k → ∀ j, j < m → b j < b m
theorem ansTo_all (b : Nat → Rat) (k : Nat) : ∀ n, (ansTo b k n = k ∨ ansTo b k n < n) ∧ (∀ j, j < n → b j ≤ b (ansTo b k n)) ∧ b k ≤ b (ansTo b k n) ∧ (ansTo b k n ≠ k → b k < b (ansTo b k n)) ∧ (ansTo b k n ≠ k → ∀ j, j < ansTo b k n → b j < b (ansTo b k n))
  | 0 => ⟨.inl rfl, fun j hj => absurd hj (by omega), Rat.le_refl, fun h => absurd rfl h, fun h => absurd rfl h⟩
  | n + 1 => by
    obtain ⟨i1, i2, i3, i4, i5⟩ := ansTo_all b k n
    unfold ansTo
    split
    · next hl =>
      refine ⟨.inr (by omega), fun j hj => ?_, by grind, fun _ => by grind, fun _ j hj => ?_⟩
      · by_cases e : j = n
        · rw [e]; exact Rat.le_refl
        · have := i2 j (by omega); grind
      · have := i2 j (by omega); grind
    · next hl =>
      refine ⟨i1.imp_right (by omega), fun j hj => ?_, i3, i4, i5⟩
      by_cases e : j = n
      · rw [e]; grind
      · exact i2 j (by omega)
theorem ans_is (b : Nat → Rat) {N k : Nat} (hk : k < N) : IsAns b N k (ansTo b k N) := by
  obtain ⟨i1, i2, i3, i4, i5⟩ := ansTo_all b k N
  exact ⟨by rcases i1 with h | h <;> omega, i2, i4, i5⟩
theorem IsAns.unique {b : Nat → Rat} {N k m m' : Nat} (hk : k < N) (h : IsAns b N k m) (h' : IsAns b N k m') : m = m' := by
  have h1 := h.top _ h'.lt
  have h2 := h'.top _ h.lt
  by_cases c : m = k
  · by_cases c' : m' = k
    · omega
    · have := h'.own c'; rw [c] at h1; grind
  · by_cases c' : m' = k
    · have := h.own c; rw [c'] at h2; grind
    · rcases Nat.lt_trichotomy m m' with c2 | c2 | c2
      · have := h'.first c' _ c2; grind
      · exact c2
      · have := h.first c _ c2; grind

/-- What a report would have brought over some rounds. -/
def bringQ (g : Gm) (r : List Ce) (a k : Nat) (l : List (List Int)) (t : Nat) : Rat := sumQ (l.map fun p => useP g r a k p t)
def ansQ (g : Gm) (r : List Ce) (a k : Nat) (l : List (List Int)) : Nat := ansTo (bringQ g r a k l) k (kl g a)

/-- A log: what agents truly are and what they say. -/
abbrev Log := List (List Int × List Int)
def knd (a : Nat) (x : List Int × List Int) : Nat := ((x.1[a]?).getD 0).toNat
def toldA (a : Nat) (x : List Int × List Int) : Int := (x.2[a]?).getD 0
def rnds (a k : Nat) (L : Log) : List (List Int) := (L.filter fun x => knd a x = k).map Prod.snd
def hadQ (g : Gm) (r : List Ce) (a : Nat) (L : Log) : Rat := sumQ (L.map fun x => useP g r a (knd a x) x.2 (toldA a x))
def byQ (g : Gm) (r : List Ce) (a : Nat) (tb : Nat → Nat) (L : Log) : Rat := sumQ (L.map fun x => useP g r a (knd a x) x.2 (tb (knd a x)))
def tabQ (g : Gm) (r : List Ce) (a : Nat) (L : Log) (k : Nat) : Nat := ansQ g r a k (rnds a k L)
/-- All of a log are profiles. -/
def LogP (g : Gm) (L : Log) : Prop := ∀ x ∈ L, isProf g x.1 ∧ isProf g x.2

theorem sumQ_append (l m : List Rat) : sumQ (l ++ m) = sumQ l + sumQ m := by
  induction l with
  | nil => rw [List.nil_append, sumQ, Rat.zero_add]
  | cons x l ih => rw [List.cons_append, sumQ, sumQ, ih, Rat.add_assoc]
theorem sumQ_le {α : Type} {f h : α → Rat} : ∀ {l : List α}, (∀ x ∈ l, f x ≤ h x) → sumQ (l.map f) ≤ sumQ (l.map h)
  | [], _ => Rat.le_refl
  | x :: l, hx => by
    have h1 := hx x (List.mem_cons_self ..)
    have h2 := sumQ_le (l := l) fun y hy => hx y (List.mem_cons_of_mem _ hy)
    rw [List.map_cons, List.map_cons, sumQ, sumQ]; grind
theorem sumQ_zero {α : Type} {f : α → Rat} : ∀ {l : List α}, (∀ x ∈ l, f x = 0) → sumQ (l.map f) = 0
  | [], _ => rfl
  | x :: l, hx => by rw [List.map_cons, sumQ, hx x (List.mem_cons_self ..), sumQ_zero (l := l) fun y hy => hx y (List.mem_cons_of_mem _ hy), Rat.add_zero]
theorem sumQ_one (N j : Nat) (q : Rat) (hj : j < N) : sumQ ((List.range N).map fun k => if j = k then q else 0) = q := by
  induction N with
  | zero => exact absurd hj (by omega)
  | succ N ih =>
    rw [List.range_succ, List.map_append, List.map_cons, List.map_nil, sumQ_snoc]
    by_cases c : j = N
    · rw [if_pos c, sumQ_zero (fun x hx => if_neg (by have := List.mem_range.1 hx; omega)), Rat.zero_add]
    · rw [if_neg c, ih (by omega), Rat.add_zero]
/-- A sum over a log is the sum over kinds of the sums over their rounds. -/
theorem by_kinds (a : Nat) (f : Nat → List Int × List Int → Rat) (N : Nat) : ∀ L : Log, (∀ x ∈ L, knd a x < N) →
    sumQ ((List.range N).map fun k => sumQ ((L.filter fun x => knd a x = k).map (f k))) = sumQ (L.map fun x => f (knd a x) x)
  | [], _ => by
    rw [List.map_nil, sumQ]
    exact sumQ_zero fun k _ => rfl
  | x :: L, hL => by
    have ih := by_kinds a f N L fun y hy => hL y (List.mem_cons_of_mem _ hy)
    rw [List.map_cons, sumQ, ← ih]
    have e : ∀ k, sumQ (((x :: L).filter fun x => knd a x = k).map (f k)) = (if knd a x = k then f (knd a x) x else 0) + sumQ ((L.filter fun x => knd a x = k).map (f k)) := by
      intro k
      rw [List.filter_cons]
      by_cases c : knd a x = k
      · rw [if_pos (by simpa using c), if_pos c, List.map_cons, sumQ, c]
      · rw [if_neg (by simpa using c), if_neg c, Rat.zero_add]
    have e2 : ∀ (l : List Nat), sumQ (l.map fun k => sumQ (((x :: L).filter fun x => knd a x = k).map (f k))) = sumQ (l.map fun k => if knd a x = k then f (knd a x) x else 0) + sumQ (l.map fun k => sumQ ((L.filter fun x => knd a x = k).map (f k))) := by
      intro l
      induction l with
      | nil => simp only [List.map_nil, sumQ]; rw [Rat.add_zero]
      | cons k l il => rw [List.map_cons, List.map_cons, List.map_cons, sumQ, sumQ, sumQ, il, e k]; grind
    rw [e2, sumQ_one N (knd a x) _ (hL x (List.mem_cons_self ..))]
theorem bring_rnds (g : Gm) (r : List Ce) (a k : Nat) (L : Log) (t : Nat) : bringQ g r a k (rnds a k L) t = sumQ ((L.filter fun x => knd a x = k).map fun x => useP g r a k x.2 t) := by
  unfold bringQ rnds; rw [List.map_map]; rfl
theorem best_sum (g : Gm) (r : List Ce) (a : Nat) (tb : Nat → Nat) {L : Log} {N : Nat} (h : ∀ x ∈ L, knd a x < N) : sumQ ((List.range N).map fun k => bringQ g r a k (rnds a k L) (tb k)) = byQ g r a tb L := by
  simp only [bring_rnds]
  exact by_kinds a (fun k x => useP g r a k x.2 (tb k)) N L h

section
variable {g : Gm} {r : List Ce} {a : Nat} (h : Sit g r a)
include h
theorem Sit.knd {L : Log} (hL : LogP g L) : ∀ x ∈ L, Sh.knd a x < Sh.kl g a ∧ x.1[a]? = some (Sh.knd a x : Int) := fun x hx => by
  obtain ⟨k, e1, e2⟩ := h.report (hL x hx).1
  have e : Sh.knd a x = k := by unfold Sh.knd; rw [e1, Option.getD_some, Int.toNat_natCast]
  rw [e]; exact ⟨e2, e1⟩
theorem Sit.own {L : Log} (hL : LogP g L) : ∀ x ∈ L, ∃ t : Nat, toldA a x = (t : Int) ∧ t < Sh.kl g a ∧ x.2[a]? = some (t : Int) := fun x hx => by
  obtain ⟨k, e1, e2⟩ := h.report (hL x hx).2
  exact ⟨k, by unfold toldA; rw [e1, Option.getD_some], e2, e1⟩
theorem Sit.tab {L : Log} {k : Nat} (hk : k < Sh.kl g a) : IsAns (bringQ g r a k (rnds a k L)) (Sh.kl g a) k (tabQ g r a L k) := ans_is _ hk
theorem Sit.best {L : Log} (hL : LogP g L) (tb : Nat → Nat) (ht : ∀ k, k < Sh.kl g a → tb k < Sh.kl g a) : byQ g r a tb L ≤ byQ g r a (tabQ g r a L) L := by
  rw [← best_sum g r a tb fun x hx => (h.knd hL x hx).1, ← best_sum g r a _ fun x hx => (h.knd hL x hx).1]
  exact sumQ_le fun k hk => (h.tab (List.mem_range.1 hk)).top _ (ht k (List.mem_range.1 hk))
theorem Sit.byTruth (hno : NoA g r a) {L : Log} (hL : LogP g L) (tb : Nat → Nat) (ht : ∀ k, k < Sh.kl g a → tb k < Sh.kl g a) : byQ g r a tb L ≤ byQ g r a id L :=
  sumQ_le fun x hx => by
    have := (h.knd hL x hx).1
    exact h.truth hno (hL x hx).2 this (ht _ this)
theorem Sit.hadTruth (hno : NoA g r a) {L : Log} (hL : LogP g L) : hadQ g r a L ≤ byQ g r a id L :=
  sumQ_le fun x hx => by
    obtain ⟨t, e1, e2, -⟩ := h.own hL x hx
    rw [e1]
    exact h.truth hno (hL x hx).2 (h.knd hL x hx).1 e2
theorem Sit.tabTruth (hno : NoA g r a) {L : Log} (hL : LogP g L) {k : Nat} (hk : k < Sh.kl g a) : tabQ g r a L k = k := by
  have hA := h.tab (L := L) hk
  refine Classical.byContradiction fun c => ?_
  have h1 := hA.own c
  have h2 : bringQ g r a k (rnds a k L) (tabQ g r a L k) ≤ bringQ g r a k (rnds a k L) k := sumQ_le fun p hp => by
    unfold rnds at hp
    obtain ⟨x, hx, rfl⟩ := List.mem_map.1 hp
    exact h.truth hno (hL x ((List.mem_filter.1 hx).1)).2 hk hA.lt
  grind

/-- Sums over logs are told as they are. -/
theorem Sit.bring_over {l : List (List Int)} (hl : l.length ≤ 1024) (hp : ∀ p ∈ l, isProf g p) {k t : Nat} (hk : k < Sh.kl g a) (ht : t < Sh.kl g a) : Over (UD g r) (W ^ 11) (bringQ g r a k l t) :=
  Over.many (i := 10) (UD_ne g r) (by rw [List.length_map]; exact hl) rfl fun q hq => by
    obtain ⟨p, hp', rfl⟩ := List.mem_map.1 hq
    exact h.over (hp p hp') (by omega) (by omega) hk
theorem Sit.had_over {L : Log} (hL : LogP g L) (hl : L.length ≤ 1024) : Over (UD g r) (W ^ 11) (hadQ g r a L) :=
  Over.many (i := 10) (UD_ne g r) (by rw [List.length_map]; exact hl) rfl fun q hq => by
    obtain ⟨x, hx, rfl⟩ := List.mem_map.1 hq
    obtain ⟨t, e1, e2, -⟩ := h.own hL x hx
    rw [e1]
    exact h.over (hL x hx).2 (by omega) (by omega) (h.knd hL x hx).1
theorem Sit.by_over {L : Log} (hL : LogP g L) (hl : L.length ≤ 1024) (tb : Nat → Nat) (ht : ∀ k, k < Sh.kl g a → tb k < Sh.kl g a) : Over (UD g r) (W ^ 11) (byQ g r a tb L) :=
  Over.many (i := 10) (UD_ne g r) (by rw [List.length_map]; exact hl) rfl fun q hq => by
    obtain ⟨x, hx, rfl⟩ := List.mem_map.1 hq
    have := (h.knd hL x hx).1
    exact h.over (hL x hx).2 (by omega) (by have := ht _ this; omega) this
theorem Sit.sz {q : Rat} {i : Nat} (hi : i ≤ 13) (ho : Over (UD g r) (W ^ i) q) : Sh.sz q ≤ 4096 :=
  u_sz h.play h.six (ho.le (UD_ne g r) (Nat.pow_le_pow_right (by decide) hi))
theorem Sit.add {p q : Rat} (h1 : Over (UD g r) (W ^ 11) p) (h2 : Over (UD g r) (W ^ 11) q) : Over (UD g r) (W ^ 12) (p + q) :=
  (h1.add (UD_ne g r) h2).le (UD_ne g r) (by decide)
theorem Sit.sub {p q : Rat} (h1 : Over (UD g r) (W ^ 11) p) (h2 : Over (UD g r) (W ^ 11) q) : Over (UD g r) (W ^ 12) (p - q) :=
  (h1.sub (UD_ne g r) h2).le (UD_ne g r) (by decide)
end
end Go.Proofs.YtglhjjokijdagaaGreat.Sh

/- A crowd: the reference's Has, brings, Answer, Table, Had, By. -/
namespace Go.Proofs.YtglhjjokijdagaaGreat.Sh
open Go Go.RowKit

theorem boolOf (P : Prop) : ∃ b : Bool, b = true ↔ P := by
  by_cases h : P
  · exact ⟨true, by simp [h]⟩
  · exact ⟨false, by simp [h]⟩
theorem take_snoc_map {α β : Type} (f : α → β) (l : List α) (i : Nat) (h : i < l.length) : (l.take (i + 1)).map f = (l.take i).map f ++ [f l[i]] := by
  rw [takeSnoc l i h, List.map_append]; rfl
theorem mem_take {α : Type} {l : List α} {i : Nat} {x : α} (h : x ∈ l.take i) : x ∈ l := List.mem_of_mem_take h

set_option maxRecDepth 20000 in
theorem has14_s {g : Gm} {r : List Ce} {a : Nat} (h : Sit g r a) {p : List Int} (hp : isProf g p) {k t : Nat} (hk : k < kl g a) (ht : t < kl g a) :
    CallsS Tryz.prog 20 [gmS g, ruS r, .one (.int .i64 (a : Int)), .one (.int .i64 (k : Int)), .one (intsS p), .one (.int .i64 (t : Int))] (.v (fS (useP g r a k p t))) := by
  have hf := h.play.fine
  have hpl : p.length ≤ 1048576 := by have := hp.1; have := (sizeOk_all hf.sz).1; omega
  have hpr := h.put hp (t := (t : Int)) (by omega) (by omega)
  obtain ⟨n, e1, e2, -⟩ := h.whr hp (t := (t : Int)) (by omega) (by omega)
  have ha := h.ha
  have hk' : k < g.agents[a].kinds.length := by rw [← h.kl]; exact hk
  have hwh := where_s g hf _ hpr
  have hc := hasC_s g r[n] a k h.ha hk' (Spot.pair ⟨h.play, h.ha, e2⟩ e2 hk')
  have he : useP g r a k p t = hasQ r[n] (g.agents[a]'h.ha).kinds[k] a := by
    unfold useP; rw [e1, Int.toNat_natCast, ceAt_eq e2, kdAt_eq h.ha hk']
  rw [e1] at hwh
  rw [← he] at hc
  refine calls Tryz.func20 rfl (by rfl) (by rfl) (by kernel_rfl) ?_
  simp -dsimp -implicitDefEqProofs [Tryz.f20]
  refine eCall.of (putR_s p a t hpl) (by simp) ?_
  simp -dsimp -implicitDefEqProofs
  refine eCall.of hwh (by simp) ?_
  simp -dsimp -implicitDefEqProofs [e2]
  refine eCall.of hc (by simp) ?_
  simp -dsimp -implicitDefEqProofs [frQ, ng]

set_option maxRecDepth 20000 in
theorem brings_s {g : Gm} {r : List Ce} {a : Nat} (h : Sit g r a) {l : List (List Int)} (hl : l.length ≤ 1024) (hp : ∀ p ∈ l, isProf g p) {k t : Nat} (hk : k < kl g a) (ht : t < kl g a) :
    CallsS Tryz.prog 105 [gmS g, ruS r, .one (.int .i64 (a : Int)), .one (.int .i64 (k : Int)), .one (.int .i64 (t : Int)), .one (profsS l)] (.v (fS (bringQ g r a k l t))) := by
  have i0 := intR_s 0 (by decide) (by decide)
  refine calls Tryz.func105 rfl (by rfl) (by rfl) (by kernel_rfl) ?_
  simp -dsimp -implicitDefEqProofs [Tryz.f105]
  refine eCall.of i0 (by simp) ?_
  simp -dsimp -implicitDefEqProofs
  refine sw_loop_e (fun q : {q : Nat // q ≤ l.length} => SS.of [(2, I .i64 a), (3, I .i64 k), (4, I .i64 t), (5, .v (.one (profsS l))), (6, .v (.one (.mp 0 0))), (7, .v (.one (.mp 1 0))), (12, .v (.one (.mp 2 0))), (13, .v (.one (.mp 3 0))), (14, I .i64 q.1)] [(0, ⟨26, rowGm g⟩), (1, ⟨29, [cesS r]⟩), (2, ⟨40, [.bool false, .nils, .nils]⟩), (3, ⟨40, rowFr (frQ (bringQ g r a k (l.take q.1) t))⟩)] 4)
    (fun q => l.length - q.1) ⟨0, Nat.zero_le _⟩ (by kernel_rfl) (Le.to (by simp) (by simp [bringQ, sumQ, frQ, ng]) (by simp)) ?_
  rintro ⟨i, hi⟩
  by_cases a1 : i < l.length
  · have wi : IntKind.i64.wrap ((i : Int) + 1) = ((i + 1 : Nat) : Int) := by rw [wrap_i64 _ (by omega) (by omega)]; rfl
    have hpi := hp _ (List.getElem_mem a1)
    have o1 := h.sz (i := 11) (by omega) (h.bring_over (l := l.take i) (by rw [List.length_take]; omega) (fun p hp' => hp p (mem_take hp')) hk ht)
    have o2 := h.sz (i := 10) (by omega) (h.over hpi (t := (t : Int)) (by omega) (by omega) hk)
    have o3 := h.sz (i := 11) (by omega) (h.bring_over (l := l.take (i + 1)) (by rw [List.length_take]; omega) (fun p hp' => hp p (mem_take hp')) hk ht)
    have hs : bringQ g r a k (l.take (i + 1)) t = bringQ g r a k (l.take i) t + useP g r a k l[i] t := by
      unfold bringQ; rw [take_snoc_map _ _ _ a1, sumQ_snoc]
    have ha := addR_s (frQ (bringQ g r a k (l.take i) t)) (frQ (useP g r a k l[i] t)) (frQ_ok (by omega)) (frQ_ok (by omega))
    rw [fix_frQ o1, fix_frQ o2, ← hs, cap_of o3] at ha
    simp -dsimp -implicitDefEqProofs [a1]
    refine eCall.of (has14_s h hpi hk ht) (by simp) ?_
    simp -dsimp -implicitDefEqProofs
    refine eCall.of ha (by simp [frQ, ng]) ?_
    simp -dsimp -implicitDefEqProofs
    exact Again.by ⟨i + 1, a1⟩ (Le.to (by simp [wi]) (by simp [frQ, ng]) (by simp)) (by simp; omega)
  have hi2 : i = l.length := by omega
  subst hi2
  simp -dsimp -implicitDefEqProofs [frQ, ng]
  try rfl

set_option maxRecDepth 20000 in
theorem answer_s {g : Gm} {r : List Ce} {a : Nat} (h : Sit g r a) {l : List (List Int)} (hl : l.length ≤ 1024) (hp : ∀ p ∈ l, isProf g p) {k : Nat} (hk : k < kl g a) :
    CallsS Tryz.prog 75 [gmS g, ruS r, .one (.int .i64 (a : Int)), .one (.int .i64 (k : Int)), .one (profsS l)] (.v (.one (.int .i64 (ansQ g r a k l : Int)))) := by
  have ha := h.ha
  have hkl := h.kl
  have h4 := (sizeOk_all h.play.fine.sz).2.2.2.1 _ (List.getElem_mem ha)
  refine calls Tryz.func75 rfl (by rfl) (by rfl) (by kernel_rfl) ?_
  simp -dsimp -implicitDefEqProofs [Tryz.f75]
  refine sw_loop_e (fun q : {q : Nat // q ≤ kl g a} => SS.of [(2, I .i64 a), (3, I .i64 k), (4, .v (.one (profsS l))), (5, .v (.one (.mp 0 0))), (6, .v (.one (.mp 1 0))), (11, I .i64 (ansTo (bringQ g r a k l) k q.1 : Int)), (12, I .i64 q.1)] [(0, ⟨26, rowGm g⟩), (1, ⟨29, [cesS r]⟩)] 2)
    (fun q => kl g a - q.1) ⟨0, Nat.zero_le _⟩ (by kernel_rfl) (Le.to (by simp [ansTo]) (by simp) (by simp)) ?_
  rintro ⟨i, hi⟩
  have b1 : (i : Int) < (g.agents[a].kinds.length : Int) ↔ i < kl g a := by omega
  by_cases a1 : i < kl g a
  · have a2 : i < g.agents[a].kinds.length := by omega
    have wi : IntKind.i64.wrap ((i : Int) + 1) = ((i + 1 : Nat) : Int) := by rw [wrap_i64 _ (by omega) (by omega)]; rfl
    have hm : ansTo (bringQ g r a k l) k i < kl g a := by
      rcases (ansTo_all (bringQ g r a k l) k i).1 with e | e <;> omega
    have o1 := h.sz (i := 11) (by omega) (h.bring_over hl hp hk a1)
    have o2 := h.sz (i := 11) (by omega) (h.bring_over hl hp hk hm)
    have hc := cmpR_s (frQ (bringQ g r a k l i)) (frQ (bringQ g r a k l (ansTo (bringQ g r a k l) k i))) (frQ_ok (by omega)) (frQ_ok (by omega))
    rw [fix_frQ o1, fix_frQ o2] at hc
    have hst : ansTo (bringQ g r a k l) k (i + 1) = if bringQ g r a k l (ansTo (bringQ g r a k l) k i) < bringQ g r a k l i then i else ansTo (bringQ g r a k l) k i := rfl
    simp -dsimp -implicitDefEqProofs [ha, a2]
    refine eCall.of (brings_s h hl hp hk a1) (by simp) ?_
    simp -dsimp -implicitDefEqProofs
    refine eCall.of (brings_s h hl hp hk hm) (by simp) ?_
    simp -dsimp -implicitDefEqProofs
    refine eCall.of hc (by simp [frQ, ng]) ?_
    by_cases c1 : bringQ g r a k l (ansTo (bringQ g r a k l) k i) < bringQ g r a k l i
    · rw [if_pos c1] at hst
      simp -dsimp -implicitDefEqProofs [cmpQ_pos.2 c1]
      exact Again.by ⟨i + 1, a1⟩ (Le.to (by simp [wi, hst]) (by simp) (by simp)) (by simp; omega)
    · rw [if_neg c1] at hst
      simp -dsimp -implicitDefEqProofs [mt cmpQ_pos.1 c1]
      exact Again.by ⟨i + 1, a1⟩ (Le.to (by simp [wi, hst]) (by simp) (by simp)) (by simp; omega)
  have hi2 : i = kl g a := by omega
  subst hi2
  have a2 : ¬ kl g a < g.agents[a].kinds.length := by omega
  simp -dsimp -implicitDefEqProofs [ha, a2, ansQ]

/-- A table of an agent. -/
def TabOk (g : Gm) (a : Nat) (l : List Int) : Prop := l.length = kl g a ∧ ∀ i, i < kl g a → ∃ t : Nat, l[i]? = some (t : Int) ∧ t < kl g a

set_option maxRecDepth 20000 in
theorem table14_s {g : Gm} {r : List Ce} {a : Nat} (h : Sit g r a) (l : List Int) (hl : l.length ≤ 1048576) (b : Bool) (hb : b = true ↔ TabOk g a l) :
    CallsS Tryz.prog 11 [gmS g, .one (.int .i64 (a : Int)), .one (intsS l)] (B b) := by
  have ha := h.ha
  have hkl := h.kl
  have h4 := (sizeOk_all h.play.fine.sz).2.2.2.1 _ (List.getElem_mem ha)
  refine calls Tryz.func11 rfl (by rfl) (by rfl) (by kernel_rfl) ?_
  simp -dsimp -implicitDefEqProofs [Tryz.f11, ha]
  by_cases c1 : l.length = g.agents[a].kinds.length
  case neg =>
    have hb' := nf hb (fun hh => c1 (by rw [hh.1, hkl]))
    simp -dsimp -implicitDefEqProofs [c1, hb']
  simp -dsimp -implicitDefEqProofs [c1]
  refine sw_loop_e (fun q : {q : Nat // q ≤ l.length ∧ ∀ i, i < q → ∃ t : Nat, l[i]? = some (t : Int) ∧ t < kl g a} => SS.of [(2, .v (.one (intsS l))), (7, I .i64 l.length), (8, I .i64 q.1)] [] 1)
    (fun q => l.length - q.1) ⟨0, Nat.zero_le _, fun i hi => absurd hi (by omega)⟩ (by kernel_rfl) (Le.to (by simp [c1]) (by simp) (by simp)) ?_
  rintro ⟨i, hi, hq⟩
  by_cases a1 : i < l.length
  · have wi : IntKind.i64.wrap ((i : Int) + 1) = ((i + 1 : Nat) : Int) := by rw [wrap_i64 _ (by omega) (by omega)]; rfl
    have hno : ¬ (0 ≤ l[i] ∧ l[i] < (l.length : Int)) → ¬ TabOk g a l := fun hn hh => hn (by
      obtain ⟨t, e1, e2⟩ := hh.2 i (by omega)
      rw [List.getElem?_eq_getElem a1] at e1
      have := Option.some.inj e1
      omega)
    by_cases c2 : l[i] < 0
    · have hb' := nf hb (hno (by omega))
      simp -dsimp -implicitDefEqProofs [a1, c2, hb']
    by_cases c3 : (l.length : Int) ≤ l[i]
    · have hb' := nf hb (hno (by omega))
      simp -dsimp -implicitDefEqProofs [a1, c2, c3, hb']
    · simp -dsimp -implicitDefEqProofs [a1, c2, c3]
      refine Again.by ⟨i + 1, a1, fun j hj => ?_⟩ (Le.to (by simp [wi]) (by simp) (by simp)) (by simp; omega)
      by_cases e : j = i
      · subst e
        exact ⟨l[j].toNat, by rw [List.getElem?_eq_getElem a1]; congr 1; omega, by omega⟩
      · exact hq j (by omega)
  have hi2 : i = l.length := by omega
  subst hi2
  have hb' := hb.2 ⟨by omega, fun i hi => hq i (by omega)⟩
  simp -dsimp -implicitDefEqProofs [hb']
end Go.Proofs.YtglhjjokijdagaaGreat.Sh

