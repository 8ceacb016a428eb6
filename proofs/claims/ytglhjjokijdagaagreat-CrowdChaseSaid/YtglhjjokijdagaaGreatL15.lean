/- A part of the proof: R11, R12, R15, R16, R30, RowG, RowH, R31, R32 -/
import Derived.Test.YtglhjjokijdagaaGreatL14
import Derived.Lib.SlicesS
set_option linter.unusedSimpArgs false
set_option linter.unusedVariables false
set_option linter.unusedSectionVars false
/- A lottery is drawn: rule.Draw. -/
namespace Go.Proofs.YtglhjjokijdagaaGreat.Sh
open Go Go.RowKit

theorem one_div_one : (((1 : Int) : Rat) / ((1 : Int) : Rat)) = 1 := by decide +kernel

set_option maxRecDepth 20000 in
theorem rzero_s : CallsS Tryz.prog 45 [] (.v (fS 0)) := by
  have hs := fsum_s [] (by simp) (by simp)
  have e : cap (sumQ (List.map FR.fix [])) = 0 := cap_of (by show sz 0 ≤ _; rw [sz_zero]; omega)
  rw [e] at hs
  refine calls Tryz.func45 rfl (by rfl) (by rfl) (by kernel_rfl) ?_
  simp -dsimp -implicitDefEqProofs [Tryz.f45]
  refine eCall.of hs (by simp) ?_
  simp -dsimp -implicitDefEqProofs

theorem sgnQ_neg {q : Rat} : sgnQ q < 0 ↔ q < 0 := by
  unfold sgnQ
  split
  · rename_i h; subst h; exact ⟨fun h => by omega, fun h => absurd h Rat.lt_irrefl⟩
  · split
    · exact ⟨fun _ => ‹_›, fun _ => by omega⟩
    · exact ⟨fun h => by omega, fun h => absurd h ‹_›⟩

/-- Are they chances? -/
def isLot (l : List FR) : Prop := (∀ f ∈ l, 0 ≤ f.fix) ∧ cap (sumQ (l.map FR.fix)) = 1

theorem fix_one : (frQ 1).fix = 1 ∧ (frQ 1).ok ∧ sz 1 ≤ 4096 := by
  have : sz 1 ≤ 4096 := by have : sz 1 = 2 := by decide +kernel
                           omega
  exact ⟨fix_frQ this, frQ_ok (by omega), this⟩

set_option maxRecDepth 20000 in
theorem chances_s (l : List FR) (hl : ∀ f ∈ l, f.ok) (h1 : l.length ≤ 1048576) : ∀ b, (b = true ↔ isLot l) → CallsS Tryz.prog 143 [.one (frsS l)] (B b) := by
  intro b hb
  have mk := fmake_s 1 1 (by decide) (by decide) (by decide) (by decide) (by decide)
  rw [one_div_one] at mk
  obtain ⟨o1, o2, o3⟩ := fix_one
  refine calls Tryz.func143 rfl (by rfl) (by rfl) (by kernel_rfl) ?_
  simp -dsimp -implicitDefEqProofs [Tryz.f143]
  refine sw_loop_e (fun p : {p : Nat × Nat // p.1 ≤ l.length ∧ ∀ f ∈ l.take p.1, 0 ≤ f.fix} => SS.of [(0, .v (.one (frsS l))), (7, .v (.one (frsS l))), (8, I .i64 l.length), (9, I .i64 p.1.1)] [] p.1.2)
    (fun p => l.length - p.1.1) ⟨(0, 0), Nat.zero_le _, by simp⟩ (by kernel_rfl) (Le.to (by simp) (by simp) (by simp)) ?_
  rintro ⟨⟨i, c⟩, hi, hp⟩
  simp only at hi hp
  by_cases a1 : i < l.length
  · have wi : IntKind.i64.wrap ((i : Int) + 1) = ((i + 1 : Nat) : Int) := by rw [wrap_i64 _ (by omega) (by omega)]; rfl
    have hok : l[i].ok := hl _ (List.getElem_mem a1)
    simp -dsimp -implicitDefEqProofs [a1, wi]
    refine eCall.of (fsign_s l[i] hok) (by simp) ?_
    by_cases hn : l[i].fix < 0
    · have hs : sgnQ l[i].fix < 0 := sgnQ_neg.2 hn
      have : ¬ isLot l := fun h => absurd (h.1 _ (List.getElem_mem a1)) (Rat.not_le.2 hn)
      have hb' : b = false := by cases b; rfl; exact absurd (hb.1 rfl) this
      simp -dsimp -implicitDefEqProofs [hs, hb']
    · have hs : ¬ sgnQ l[i].fix < 0 := mt sgnQ_neg.1 hn
      simp -dsimp -implicitDefEqProofs [hs]
      refine Again.by ⟨(i + 1, c + 1), a1, ?_⟩ (Le.to (by simp [wi]) (by simp) (by simp)) (by simp; omega)
      intro f hf
      rw [List.take_add_one, List.getElem?_eq_getElem a1] at hf
      rcases List.mem_append.1 hf with hf | hf
      · exact hp f hf
      · simp at hf; subst hf; exact Rat.not_lt.1 hn
  · have hi2 : i = l.length := by omega
    subst hi2
    rw [List.take_length] at hp
    simp -dsimp -implicitDefEqProofs
    refine eCall.of mk (by simp) ?_
    simp -dsimp -implicitDefEqProofs
    have hcap := sz_cap (sumQ (l.map FR.fix))
    have hs := fsum_s l hl h1
    have hf := fix_frQ hcap
    have hc := fcmp_s (frQ (cap (sumQ (l.map FR.fix)))) (frQ 1) (frQ_ok (by omega)) o2
    rw [hf, o1, frS_frQ, frS_frQ] at hc
    have hb2 : b = true ↔ cap (sumQ (l.map FR.fix)) = 1 := ⟨fun h => (hb.1 h).2, fun h => hb.2 ⟨hp, h⟩⟩
    generalize cap (sumQ (l.map FR.fix)) = S at *
    refine eCall.of hs (by simp) ?_
    simp -dsimp -implicitDefEqProofs
    refine eCall.of hc (by simp) ?_
    by_cases he : S = 1
    · have hb' : b = true := hb2.2 he
      simp -dsimp -implicitDefEqProofs [cmpQ_zero.2 he, hb']
    · have hb' : b = false := by cases b; rfl; exact absurd (hb2.1 rfl) he
      have : ¬ cmpQ S 1 = 0 := mt cmpQ_zero.1 he
      simp -dsimp -implicitDefEqProofs [this, hb']

/-- The first outcome whose chances up to it are above the ticket. -/
def drawQ (t : Rat) : Rat → Nat → List Rat → Option Nat
  | _, _, [] => none
  | s, i, q :: l => if t < cap (s + q) then some i else drawQ t (cap (s + q)) (i + 1) l

theorem drawQ_cons (t s : Rat) (i : Nat) (q : Rat) (l : List Rat) : drawQ t s i (q :: l) = if t < cap (s + q) then some i else drawQ t (cap (s + q)) (i + 1) l := rfl

def drawR : Option Nat → Int × Int
  | some i => (i, 0)
  | none => (0, 41)

/-- What a draw comes to. -/
def isDraw (l : List FR) (t : Rat) (r : Int × Int) : Prop :=
  (¬ isLot l ∧ r = (0, 41)) ∨ (isLot l ∧ (t < 0 ∨ 1 ≤ t) ∧ r = (0, 40)) ∨ (isLot l ∧ 0 ≤ t ∧ t < 1 ∧ r = drawR (drawQ t 0 0 (l.map FR.fix)))

theorem sz_zero' : sz 0 ≤ 4096 := by rw [sz_zero]; omega

end Go.Proofs.YtglhjjokijdagaaGreat.Sh

/- The statement RuleDrawn: what it comes to. -/
namespace Go.Proofs.YtglhjjokijdagaaGreat.Sh
open Go Go.RowKit

/-- Whole numbers in a slice. -/
@[simp] def intsS (l : List Int) : S1 := .sl true 1 (l.map fun x => [.int .i64 x])
@[simp] def oI (l : List Int) : SObj := ⟨3, l.map fun x => .int .i64 x⟩
def InI (l : List Int) : Prop := ∀ x ∈ l, -9223372036854775808 ≤ x ∧ x < 9223372036854775808

set_option maxRecDepth 20000 in
theorem sameInts_s (a b : List Int) (ha : a.length ≤ 140737488355328) (hb : b.length ≤ 140737488355328) : CallsS Tryz.prog 21 [.one (intsS a), .one (intsS b)] (B (decide (a = b))) := by
  refine calls Tryz.func21 rfl (by rfl) (by rfl) (by kernel_rfl) ?_
  by_cases hl : a.length = b.length
  · have hl' : (a.length : Int) = b.length := by omega
    simp -dsimp -implicitDefEqProofs [Tryz.f21, hl]
    refine sw_loop_e (fun p : {p : Nat // p ≤ b.length ∧ a.take p = b.take p} => SS.of [(0, .v (.one (intsS a))), (1, .v (.one (intsS b))), (5, I .i64 p.1)] [] 0)
      (fun p => b.length - p.1) ⟨0, Nat.zero_le _, by simp⟩ (by kernel_rfl) (Le.to (by simp) (by simp) (by simp)) ?_
    rintro ⟨i, hi, ht⟩
    by_cases a1 : i < b.length
    · have a2 : i < a.length := by omega
      have wi : IntKind.i64.wrap ((i : Int) + 1) = ((i + 1 : Nat) : Int) := by rw [wrap_i64 _ (by omega) (by omega)]; rfl
      simp -dsimp -implicitDefEqProofs [a1, a2, hl, wi]
      refine ⟨fun he => ?_, fun he => ?_⟩
      · refine Again.by ⟨i + 1, a1, ?_⟩ (Le.to (by simp [wi]) (by simp) (by simp)) (by simp; omega)
        rw [List.take_add_one, List.take_add_one, ht, List.getElem?_eq_getElem a1, List.getElem?_eq_getElem a2, he]
      · intro hab; subst hab; exact he rfl
    · have hi2 : i = b.length := by omega
      subst hi2
      rw [List.take_length, ← hl, List.take_length] at ht
      subst ht
      simp -dsimp -implicitDefEqProofs
  · have hab : a ≠ b := fun h => hl (by rw [h])
    have hl' : ¬ (a.length : Int) = b.length := by omega
    simp -dsimp -implicitDefEqProofs [Tryz.f21, hl, hl', hab]
end Go.Proofs.YtglhjjokijdagaaGreat.Sh

/- Lists of fractions, further: Big, Wide, the greatest, sums and products of the reference, SameNumbers, Chances. -/
namespace Go.Proofs.YtglhjjokijdagaaGreat.Sh
open Go Go.RowKit

/-- How many words a fraction has. -/
def FR.big (f : FR) : Nat := f.num.length + f.den.length
def wideF (m : Int) (l : List FR) : Bool := l.any fun f => decide (m < (f.big : Int))

set_option maxRecDepth 20000 in
theorem big_s (f : FR) (hf : f.ok) : CallsS Tryz.prog 79 [frS f] (I .i64 (f.big : Int)) := by
  obtain ⟨h1, h2, h3, h4⟩ := hf
  have wi : IntKind.i64.wrap ((f.num.length : Int) + (f.den.length : Int)) = ((f.num.length + f.den.length : Nat) : Int) := by rw [wrap_i64 _ (by omega) (by omega)]; omega
  refine calls Tryz.func79 rfl (by rfl) (by rfl) (by kernel_rfl) ?_
  simp -dsimp -implicitDefEqProofs [Tryz.f79, FR.big, wi]

set_option maxRecDepth 20000 in
theorem wideF_s (l : List FR) (m : Int) (hl : ∀ f ∈ l, f.ok) (h1 : l.length ≤ 140737488355328) : ∀ b, b = wideF m l → CallsS Tryz.prog 80 [.one (frsS l), .one (.int .i64 m)] (B b) := by
  intro b hb
  refine calls Tryz.func80 rfl (by rfl) (by rfl) (by kernel_rfl) ?_
  simp -dsimp -implicitDefEqProofs [Tryz.f80]
  refine sw_loop_e (fun p : {p : Nat × Nat // p.1 ≤ l.length ∧ wideF m (l.take p.1) = false} => SS.of [(0, .v (.one (frsS l))), (1, I .i64 m), (5, I .i64 p.1.1)] [] p.1.2)
    (fun p => l.length - p.1.1) ⟨(0, 0), Nat.zero_le _, rfl⟩ (by kernel_rfl) (Le.to (by simp) (by simp) (by simp)) ?_
  rintro ⟨⟨i, c⟩, hi, hp⟩
  simp only at hi hp
  by_cases a1 : i < l.length
  · have wi : IntKind.i64.wrap ((i : Int) + 1) = ((i + 1 : Nat) : Int) := by rw [wrap_i64 _ (by omega) (by omega)]; rfl
    have hok : l[i].ok := hl _ (List.getElem_mem a1)
    simp -dsimp -implicitDefEqProofs [a1, wi]
    refine eCall.of (big_s l[i] hok) (by simp) ?_
    by_cases c1 : m < (l[i].big : Int)
    · have hb' : b = true := by rw [hb]; exact List.any_eq_true.2 ⟨l[i], List.getElem_mem a1, by simpa using c1⟩
      simp -dsimp -implicitDefEqProofs [c1, hb']
    · simp -dsimp -implicitDefEqProofs [c1]
      refine Again.by ⟨(i + 1, c), a1, ?_⟩ (Le.to (by simp [wi]) (by simp) (by simp)) (by simp; omega)
      unfold wideF at hp ⊢
      rw [List.take_add_one, List.getElem?_eq_getElem a1, List.any_append, hp]
      simpa using c1
  · have hi2 : i = l.length := by omega
    subst hi2
    rw [List.take_length] at hp
    simp -dsimp -implicitDefEqProofs [hb, hp]

/-- The first greatest place among the first ones. -/
def mostF (l : List Rat) : Nat → Int
  | 0 => -1
  | i + 1 => if mostF l i < 0 then i else if l.getD (mostF l i).toNat 0 < l.getD i 0 then i else mostF l i

theorem mostF_spec (l : List Rat) : ∀ i, i ≤ l.length → (i = 0 ∧ mostF l i = -1) ∨ ∃ k, mostF l i = (k : Nat) ∧ k < i ∧ (∀ j, j < i → l.getD j 0 ≤ l.getD k 0) ∧ (∀ j, j < k → l.getD j 0 < l.getD k 0)
  | 0, _ => Or.inl ⟨rfl, rfl⟩
  | i + 1, h => by
    right
    rcases mostF_spec l i (by omega) with ⟨rfl, h1⟩ | ⟨k, h1, h2, h3, h4⟩
    · refine ⟨0, by simp [mostF], by omega, fun j hj => ?_, fun j hj => by omega⟩
      rw [show j = 0 by omega]; exact Rat.le_refl
    · have hk : ¬ (mostF l i < 0) := by omega
      simp only [mostF, if_neg hk]
      rw [h1, Int.toNat_natCast]
      by_cases c : l.getD k 0 < l.getD i 0
      · rw [if_pos c]
        refine ⟨i, rfl, by omega, fun j hj => ?_, fun j hj => ?_⟩
        · by_cases e : j = i
          · subst e; exact Rat.le_refl
          · have := h3 j (by omega); grind
        · have := h3 j hj; grind
      · rw [if_neg c]
        refine ⟨k, rfl, by omega, fun j hj => ?_, h4⟩
        by_cases e : j = i
        · subst e; exact Rat.not_lt.1 c
        · exact h3 j (by omega)

theorem getD_of {α : Type} {l : List α} {i : Nat} (d : α) (h : i < l.length) : l.getD i d = l[i] := by
  rw [List.getD_eq_getElem?_getD, List.getElem?_eq_getElem h]; rfl

set_option maxRecDepth 20000 in
theorem pick_s (l : List FR) (hl : ∀ f ∈ l, f.ok) (h1 : l.length ≤ 1048576) : CallsS Tryz.prog 128 [.one (frsS l), .one (.int .i64 1)] (I .i64 (mostF (l.map FR.fix) l.length)) := by
  have hz : ∀ q ∈ l.map FR.fix, mz q ≤ 4096 := by
    intro q hq
    obtain ⟨f, hf, rfl⟩ := List.mem_map.1 hq
    have := sz_fix (hl f hf)
    have := sz_mz f.fix
    omega
  refine calls Tryz.func128 rfl (by rfl) (by rfl) (by kernel_rfl) ?_
  simp -dsimp -implicitDefEqProofs [Tryz.f128]
  refine eCall.of (all_s l hl (by omega)) (by simp) ?_
  rw [show l.length = (l.map FR.fix).length by simp] at *
  generalize l.map FR.fix = L at *
  simp -dsimp -implicitDefEqProofs
  refine sw_loop_e (fun p : {p : Nat × Nat // p.1 ≤ L.length} => SS.of [(1, I .i64 1), (5, I .i64 (mostF L p.1.1)), (6, .v (.one (ratsS L))), (11, I .i64 L.length), (12, I .i64 p.1.1)] [] p.1.2)
    (fun p => L.length - p.1.1) ⟨(0, 0), Nat.zero_le _⟩ (by kernel_rfl) (Le.to (by simp [mostF]) (by simp) (by simp)) ?_
  rintro ⟨⟨i, c⟩, hi⟩
  simp only at hi
  by_cases a1 : i < L.length
  · have wi : IntKind.i64.wrap ((i : Int) + 1) = ((i + 1 : Nat) : Int) := by rw [wrap_i64 _ (by omega) (by omega)]; rfl
    rcases mostF_spec L i hi with ⟨rfl, h2⟩ | ⟨k, h2, h3, -, -⟩
    · simp -dsimp -implicitDefEqProofs [a1, h2]
      exact Again.by ⟨(1, c), a1⟩ (Le.to (by simp [mostF, show IntKind.i64.wrap 1 = 1 by decide]) (by simp) (by simp)) (by simp; omega)
    · have hk : k < L.length := by omega
      have ho := rorder_s L[i] L[k] (by have := sz_mz L[i]; have := hz _ (List.getElem_mem a1); have := sz_mz L[k]; have := hz _ (List.getElem_mem hk); omega)
      simp -dsimp -implicitDefEqProofs [a1, h2, hk, show ¬ ((k : Int) < 0) by omega]
      refine eCall.of ho (by simp) ?_
      by_cases c1 : L[k] < L[i]
      · have c2 : cmpQ L[i] L[k] = 1 := by
          unfold cmpQ
          rw [if_neg (by grind), if_neg (by grind)]
        have hm : mostF L (i + 1) = (i : Int) := by
          simp only [mostF]
          rw [if_neg (by omega), h2, Int.toNat_natCast, getD_of 0 hk, getD_of 0 a1, if_pos c1]
        simp -dsimp -implicitDefEqProofs [c2]
        exact Again.by ⟨(i + 1, c), a1⟩ (Le.to (by simp [wi, hm]) (by simp) (by simp)) (by simp; omega)
      · have c2 : ¬ cmpQ L[i] L[k] = 1 := by
          unfold cmpQ
          split
          · decide
          · split
            · decide
            · rename_i h h'
              grind
        have hm : mostF L (i + 1) = (k : Int) := by
          simp only [mostF]
          rw [if_neg (by omega), h2, Int.toNat_natCast, getD_of 0 hk, getD_of 0 a1, if_neg c1]
        simp -dsimp -implicitDefEqProofs [c2]
        exact Again.by ⟨(i + 1, c), a1⟩ (Le.to (by simp [wi, hm]) (by simp) (by simp)) (by simp; omega)
  · have hi2 : i = L.length := by omega
    subst hi2
    simp -dsimp -implicitDefEqProofs

set_option maxRecDepth 20000 in
theorem most_s (l : List FR) (hl : ∀ f ∈ l, f.ok) (h1 : l.length ≤ 1048576) : CallsS Tryz.prog 83 [.one (frsS l)] (I .i64 (mostF (l.map FR.fix) l.length)) := by
  refine calls Tryz.func83 rfl (by rfl) (by rfl) (by kernel_rfl) ?_
  simp -dsimp -implicitDefEqProofs [Tryz.f83]
  refine eCall.of (pick_s l hl h1) (by simp) ?_
  simp -dsimp -implicitDefEqProofs
end Go.Proofs.YtglhjjokijdagaaGreat.Sh

/- Sums and products of lists in the reference; SameNumbers, Chances. -/
namespace Go.Proofs.YtglhjjokijdagaaGreat.Sh
open Go Go.RowKit

theorem mz_take {l : List Rat} {B : Nat} (h : ∀ q ∈ l, mz q ≤ B) (hB : l.length * (B + 1) + 1 ≤ 2048) (i : Nat) : sz (sumQ (l.take i)) ≤ 4096 := by
  have h1 := mz_sum (l.take i) B (fun q hq => h q (List.mem_of_mem_take hq))
  have h2 : (l.take i).length ≤ l.length := by rw [List.length_take]; omega
  have h3 := Nat.mul_le_mul_right (B + 1) h2
  have := sz_mz (sumQ (l.take i))
  omega

/-- Numbers that are small enough to be added up. -/
structure Small (l : List FR) (B : Nat) : Prop where
  ok : ∀ f ∈ l, f.ok
  mz : ∀ q ∈ l.map FR.fix, mz q ≤ B
  all : l.length * (B + 1) + 1 ≤ 2048

theorem Small.len {l : List FR} {B : Nat} (h : Small l B) : l.length ≤ 2048 := by
  have := h.all
  have := Nat.le_mul_of_pos_right l.length (show 0 < B + 1 by omega)
  omega



/-- The sum of products. -/
def dotQ : List Rat → List Rat → Rat
  | p :: l, q :: m => p * q + dotQ l m
  | _, _ => 0
def dotL (a b : List FR) : List Rat := List.zipWith (fun f g => f.fix * g.fix) a b

theorem fix_nil {f : FR} (h : ¬ 0 < f.num.length) : f.fix = 0 := by
  unfold FR.fix
  split
  · have e : f.num = [] := List.length_eq_zero_iff.1 (by omega)
    rw [e, show val [] = 0 from rfl]
    show mkRat (sg _ 0) _ = 0
    rw [show sg f.neg 0 = 0 by unfold sg; cases f.neg <;> rfl]
    exact Rat.zero_mkRat _
  · rfl

set_option maxRecDepth 20000 in
theorem dotF_s (a b : List FR) (B : Nat) (ha : ∀ f ∈ a, f.ok) (hb : ∀ f ∈ b, f.ok) (hab : a.length = b.length) (hB : ∀ q ∈ dotL a b, mz q ≤ B) (hal : (dotL a b).length * (B + 1) + 1 ≤ 2048) :
    CallsS Tryz.prog 110 [.one (frsS a), .one (frsS b)] (.v (fS (sumQ (dotL a b)))) := by
  have hsz := mz_take hB hal
  have dl : (dotL a b).length = a.length := by simp [dotL, hab]
  have h1 : a.length ≤ 2048 := by
    have := Nat.le_mul_of_pos_right a.length (show 0 < B + 1 by omega)
    rw [dl] at hal; omega
  refine calls Tryz.func110 rfl (by rfl) (by rfl) (by kernel_rfl) ?_
  simp -dsimp -implicitDefEqProofs [Tryz.f110]
  refine eCall.of zeroR_s (by simp) ?_
  simp -dsimp -implicitDefEqProofs
  refine sw_loop_e (fun p : {p : Nat // p ≤ a.length} => SS.of [(0, .v (.one (frsS a))), (1, .v (.one (frsS b))), (4, .v (.one (.mp 0 0))), (5, .v (.one (.mp 1 0))), (6, I .i64 p.1)] [(0, ⟨40, [.bool false, .nils, .nils]⟩), (1, ⟨40, rowFr (frQ (sumQ ((dotL a b).take p.1)))⟩)] 2)
    (fun p => a.length - p.1) ⟨0, Nat.zero_le _⟩ (by kernel_rfl) (Le.to (by simp) (by simp [sumQ, frQ, ng]) (by simp)) ?_
  rintro ⟨i, hi⟩
  by_cases a1 : i < a.length
  · have wi : IntKind.i64.wrap ((i : Int) + 1) = ((i + 1 : Nat) : Int) := by rw [wrap_i64 _ (by omega) (by omega)]; rfl
    have a2 : i < b.length := by omega
    have oka : a[i].ok := ha _ (List.getElem_mem a1)
    have okb : b[i].ok := hb _ (List.getElem_mem a2)
    have ht := sumQ_take (dotL a b) i (by omega)
    have hm : (dotL a b)[i] = a[i].fix * b[i].fix := by simp [dotL]
    rw [hm] at ht
    have z0 := hsz i
    have z1 := hsz (i + 1)
    by_cases c1 : 0 < a[i].num.length
    · by_cases c2 : 0 < b[i].num.length
      · have hmz : mz (a[i].fix * b[i].fix) ≤ B := by rw [← hm]; exact hB _ (List.getElem_mem _)
        have hBs : B ≤ 2048 := by
          have := Nat.le_mul_of_pos_left (B + 1) (show 0 < (dotL a b).length by omega)
          omega
        have z2 := sz_mz (a[i].fix * b[i].fix)
        have hmu := mulR_s a[i] b[i] oka okb
        rw [cap_of (by omega)] at hmu
        have had := addR_s (frQ (sumQ ((dotL a b).take i))) (frQ (a[i].fix * b[i].fix)) (frQ_ok (by omega)) (frQ_ok (by omega))
        rw [fix_frQ z0, fix_frQ (by omega), ← ht, cap_of z1] at had
        simp -dsimp -implicitDefEqProofs [a1, a2, wi, c1, c2]
        refine eCall.of hmu (by simp) ?_
        simp -dsimp -implicitDefEqProofs
        refine eCall.of had (by simp [frQ, ng]) ?_
        simp -dsimp -implicitDefEqProofs
        exact Again.by ⟨i + 1, a1⟩ (Le.to (by simp [wi]) (by simp [frQ, ng]) (by simp)) (by simp; omega)
      · rw [fix_nil c2, Rat.mul_zero, Rat.add_zero] at ht
        simp -dsimp -implicitDefEqProofs [a1, a2, wi, c1, c2]
        exact Again.by ⟨i + 1, a1⟩ (Le.to (by simp [wi]) (by simp [ht]) (by simp)) (by simp; omega)
    · rw [fix_nil c1, Rat.zero_mul, Rat.add_zero] at ht
      simp -dsimp -implicitDefEqProofs [a1, a2, wi, c1]
      exact Again.by ⟨i + 1, a1⟩ (Le.to (by simp [wi]) (by simp [ht]) (by simp)) (by simp; omega)
  · have hi2 : i = a.length := by omega
    subst hi2
    have e : (dotL a b).take a.length = dotL a b := List.take_of_length_le (by omega)
    simp -dsimp -implicitDefEqProofs [e, frQ, ng]

set_option maxRecDepth 20000 in
theorem sameNumbers_s (a b : List FR) (ha : ∀ f ∈ a, f.ok) (hb : ∀ f ∈ b, f.ok) (h1 : a.length ≤ 1048576) (h : a.map FR.fix = b.map FR.fix) :
    CallsS Tryz.prog 31 [.one (frsS a), .one (frsS b)] (B true) := by
  have hab : a.length = b.length := by have := congrArg List.length h; simpa using this
  refine calls Tryz.func31 rfl (by rfl) (by rfl) (by kernel_rfl) ?_
  simp -dsimp -implicitDefEqProofs [Tryz.f31, hab]
  refine sw_loop_e (fun p : {p : Nat // p ≤ a.length} => SS.of [(0, .v (.one (frsS a))), (1, .v (.one (frsS b))), (5, I .i64 p.1)] [] 0)
    (fun p => a.length - p.1) ⟨0, Nat.zero_le _⟩ (by kernel_rfl) (Le.to (by simp) (by simp) (by simp)) ?_
  rintro ⟨i, hi⟩
  by_cases a1 : i < a.length
  · have wi : IntKind.i64.wrap ((i : Int) + 1) = ((i + 1 : Nat) : Int) := by rw [wrap_i64 _ (by omega) (by omega)]; rfl
    have a2 : i < b.length := by omega
    have hs := sameR_s a[i] b[i] (ha _ (List.getElem_mem a1)) (hb _ (List.getElem_mem a2))
    have he : a[i].fix = b[i].fix := by
      have h2 : (a.map FR.fix)[i]'(by simpa using a1) = (b.map FR.fix)[i]'(by simpa using a2) := by simp only [h]
      simpa using h2
    rw [decide_eq_true he] at hs
    simp -dsimp -implicitDefEqProofs [a1, a2, wi]
    refine eCall.of hs (by simp) ?_
    simp -dsimp -implicitDefEqProofs
    exact Again.by ⟨i + 1, a1⟩ (Le.to (by simp [wi]) (by simp) (by simp)) (by simp; omega)
  · have hi2 : i = a.length := by omega
    simp -dsimp -implicitDefEqProofs [hi2, hab]

theorem sgnQ_nn {q : Rat} (h : 0 ≤ q) : ¬ sgnQ q < 0 := mt sgnQ_neg.1 (Rat.not_lt.2 h)

set_option maxRecDepth 20000 in
theorem chancesR_s (l : List FR) (B' : Nat) (hs : Small l B') (hp : ∀ f ∈ l, 0 ≤ f.fix) (h : sumQ (l.map FR.fix) = 1) : CallsS Tryz.prog 152 [.one (frsS l)] (B true) := by
  have h1 := hs.len
  have hsz := mz_take hs.mz (by have := hs.all; simpa using this)
  have hl := hs.ok
  have i0 := intR_s 0 (by decide) (by decide)
  have i1 := intR_s 1 (by decide) (by decide)
  obtain ⟨o1, o2, o3⟩ := fix_one
  refine calls Tryz.func152 rfl (by rfl) (by rfl) (by kernel_rfl) ?_
  simp -dsimp -implicitDefEqProofs [Tryz.f152]
  refine eCall.of i0 (by simp) ?_
  simp -dsimp -implicitDefEqProofs
  refine sw_loop_e (fun p : {p : Nat // p ≤ l.length} => SS.of [(0, .v (.one (frsS l))), (3, .v (.one (.mp 0 0))), (4, I .i64 p.1)] [(0, ⟨40, rowFr (frQ (sumQ ((l.map FR.fix).take p.1)))⟩)] 1)
    (fun p => l.length - p.1) ⟨0, Nat.zero_le _⟩ (by kernel_rfl) (Le.to (by simp) (by simp [sumQ, frQ, ng]) (by simp)) ?_
  rintro ⟨i, hi⟩
  by_cases a1 : i < l.length
  · have wi : IntKind.i64.wrap ((i : Int) + 1) = ((i + 1 : Nat) : Int) := by rw [wrap_i64 _ (by omega) (by omega)]; rfl
    have hok : l[i].ok := hl _ (List.getElem_mem a1)
    have ht := sumQ_take (l.map FR.fix) i (by simpa using a1)
    rw [List.getElem_map] at ht
    have z0 := hsz i
    have z1 := hsz (i + 1)
    have ha := addR_s (frQ (sumQ ((l.map FR.fix).take i))) l[i] (frQ_ok (by omega)) hok
    rw [fix_frQ z0, ← ht, cap_of z1] at ha
    simp -dsimp -implicitDefEqProofs [a1, wi]
    refine eCall.of (signR_s l[i] hok) (by simp) ?_
    have hs : ¬ sgnQ l[i].fix < 0 := sgnQ_nn (hp _ (List.getElem_mem a1))
    simp -dsimp -implicitDefEqProofs [hs, a1]
    refine eCall.of ha (by simp [frQ, ng]) ?_
    simp -dsimp -implicitDefEqProofs
    exact Again.by ⟨i + 1, a1⟩ (Le.to (by simp [wi]) (by simp [frQ, ng]) (by simp)) (by simp; omega)
  · have hi2 : i = l.length := by omega
    subst hi2
    have e : (l.map FR.fix).take l.length = l.map FR.fix := List.take_of_length_le (by simp)
    have hsm := sameR_s (frQ 1) (frQ 1) o2 o2
    rw [decide_eq_true rfl, frS_frQ] at hsm
    simp -dsimp -implicitDefEqProofs [e, h]
    refine eCall.of i1 (by simp) ?_
    simp -dsimp -implicitDefEqProofs
    refine eCall.of hsm (by simp [frQ, ng]) ?_
    simp -dsimp -implicitDefEqProofs
end Go.Proofs.YtglhjjokijdagaaGreat.Sh

/- Games and rules as data; the guards of the statements. -/
namespace Go.Proofs.YtglhjjokijdagaaGreat.Sh
open Go Go.RowKit

structure Kd where
  name : ByteArray
  weight : FR
  alone : FR
  worth : List FR
structure Ag where
  name : ByteArray
  kinds : List Kd
structure Nd where
  kind : Int
  agent : Int
  other : Int
  bound : FR
  outs : List Int
  swap : List Int
structure Gm where
  agents : List Ag
  outs : List ByteArray
  pay : Bool
  lots : Bool
  aim : Int
  needs : List Nd
structure Ce where
  lot : List FR
  pay : List FR

@[simp] def strsS (l : List ByteArray) : S1 := .sl true 1 (l.map fun s => [.str s])
@[simp] def rowKd (k : Kd) : List S1 := .str k.name :: (rowFr k.weight ++ rowFr k.alone ++ [frsS k.worth])
@[simp] def kdsS (l : List Kd) : S1 := .sl true 8 (l.map rowKd)
@[simp] def rowAg (a : Ag) : List S1 := [.str a.name, kdsS a.kinds]
@[simp] def agsS (l : List Ag) : S1 := .sl true 2 (l.map rowAg)
@[simp] def rowNd (n : Nd) : List S1 := .int .i64 n.kind :: .int .i64 n.agent :: .int .i64 n.other :: (rowFr n.bound ++ [intsS n.outs, intsS n.swap])
@[simp] def ndsS (l : List Nd) : S1 := .sl true 8 (l.map rowNd)
@[simp] def rowGm (g : Gm) : List S1 := [agsS g.agents, strsS g.outs, .bool g.pay, .bool g.lots, .int .i64 g.aim, ndsS g.needs]
@[simp] def rowCe (c : Ce) : List S1 := [frsS c.lot, frsS c.pay]
@[simp] def cesS (l : List Ce) : S1 := .sl true 2 (l.map rowCe)
@[simp] def gmS (g : Gm) : SV := .agg (rowGm g)
@[simp] def ruS (r : List Ce) : SV := .agg [cesS r]
@[simp] def ceS (c : Ce) : SV := .agg (rowCe c)
@[simp] def agS (a : Ag) : SV := .agg (rowAg a)
@[simp] def ndS (n : Nd) : SV := .agg (rowNd n)

def lenOk {α : Type} (l : List α) : Prop := l.length ≤ 140737488355328
def Kd.ok (k : Kd) : Prop := k.name.size ≤ 140737488355328 ∧ k.weight.ok ∧ k.alone.ok ∧ lenOk k.worth ∧ ∀ f ∈ k.worth, f.ok
def Ag.ok (a : Ag) : Prop := a.name.size ≤ 140737488355328 ∧ lenOk a.kinds ∧ ∀ k ∈ a.kinds, k.ok
def In64 (x : Int) : Prop := -9223372036854775808 ≤ x ∧ x < 9223372036854775808
def Nd.ok (n : Nd) : Prop := In64 n.kind ∧ In64 n.agent ∧ In64 n.other ∧ n.bound.ok ∧ lenOk n.outs ∧ lenOk n.swap ∧ InI n.outs ∧ InI n.swap
structure Gm.ok (g : Gm) : Prop where
  la : lenOk g.agents
  lo : lenOk g.outs
  ln : lenOk g.needs
  a : ∀ a ∈ g.agents, a.ok
  o : ∀ s ∈ g.outs, s.size ≤ 140737488355328
  n : ∀ n ∈ g.needs, n.ok
  aim : In64 g.aim
def Ce.ok (c : Ce) : Prop := lenOk c.lot ∧ lenOk c.pay ∧ (∀ f ∈ c.lot, f.ok) ∧ ∀ f ∈ c.pay, f.ok

theorem foldl_take {α β : Type} (f : β → α → β) (z : β) (l : List α) (i : Nat) (h : i < l.length) : (l.take (i + 1)).foldl f z = f ((l.take i).foldl f z) l[i] := by
  rw [List.take_add_one, List.getElem?_eq_getElem h, List.foldl_append]; rfl

abbrev W64 (x : Int) : Int := IntKind.i64.wrap x
def bigsW (l : List FR) : Int := l.foldl (fun n f => W64 (n + (f.big : Int))) 0

set_option maxRecDepth 20000 in
theorem bigs_s (l : List FR) (hl : ∀ f ∈ l, f.ok) (h1 : lenOk l) : CallsS Tryz.prog 125 [.one (frsS l)] (I .i64 (bigsW l)) := by
  unfold lenOk at h1
  refine calls Tryz.func125 rfl (by rfl) (by rfl) (by kernel_rfl) ?_
  simp -dsimp -implicitDefEqProofs [Tryz.f125]
  refine sw_loop_e (fun p : {p : Nat // p ≤ l.length} => SS.of [(0, .v (.one (frsS l))), (3, I .i64 (bigsW (l.take p.1))), (4, I .i64 p.1)] [] 0)
    (fun p => l.length - p.1) ⟨0, Nat.zero_le _⟩ (by kernel_rfl) (Le.to (by simp [bigsW]) (by simp) (by simp)) ?_
  rintro ⟨i, hi⟩
  by_cases a1 : i < l.length
  · have wi : IntKind.i64.wrap ((i : Int) + 1) = ((i + 1 : Nat) : Int) := by rw [wrap_i64 _ (by omega) (by omega)]; rfl
    have ht : bigsW (l.take (i + 1)) = W64 (bigsW (l.take i) + (l[i].big : Int)) := foldl_take _ _ l i a1
    simp -dsimp -implicitDefEqProofs [a1, wi]
    refine eCall.of (big_s l[i] (hl _ (List.getElem_mem a1))) (by simp) ?_
    simp -dsimp -implicitDefEqProofs
    exact Again.by ⟨i + 1, a1⟩ (Le.to (by simp [wi, ht]) (by simp) (by simp)) (by simp; omega)
  · have hi2 : i = l.length := by omega
    subst hi2
    simp -dsimp -implicitDefEqProofs

def beyO (g : Gm) : Int := g.outs.foldl (fun n s => W64 (n + (s.size : Int))) 0
def beyK (n : Int) (k : Kd) : Int := W64 (W64 (W64 (W64 (W64 (n + (k.name.size : Int)) + (k.worth.length : Int)) + (k.weight.big : Int)) + (k.alone.big : Int)) + bigsW k.worth)
def beyN (n : Int) (a : Ag) : Int := W64 (W64 (n + (a.name.size : Int)) + (a.kinds.length : Int))
def beyA (n : Int) (a : Ag) : Int := a.kinds.foldl beyK (beyN n a)
def beyD (n : Int) (d : Nd) : Int := W64 (W64 (W64 (n + (d.outs.length : Int)) + (d.swap.length : Int)) + (d.bound.big : Int))
def beyond (g : Gm) : Bool :=
  decide (100 < g.agents.length) || decide (100 < g.outs.length) || decide (100 < g.needs.length) ||
  g.agents.any (fun a => decide (100 < a.kinds.length)) || decide (20000 < g.needs.foldl beyD (g.agents.foldl beyA (beyO g)))

theorem beyond_len {g : Gm} (h : beyond g = false) : g.agents.length ≤ 100 ∧ g.outs.length ≤ 100 ∧ g.needs.length ≤ 100 ∧ ∀ a ∈ g.agents, a.kinds.length ≤ 100 := by
  unfold beyond at h
  simp only [Bool.or_eq_false_iff, decide_eq_false_iff_not, List.any_eq_false, decide_eq_true_eq] at h
  obtain ⟨⟨⟨⟨h1, h2⟩, h3⟩, h4⟩, -⟩ := h
  exact ⟨by omega, by omega, by omega, fun a ha => by have := h4 a ha; omega⟩

set_option maxRecDepth 20000 in
theorem beyond_s (g : Gm) (hg : g.ok) : CallsS Tryz.prog 78 [gmS g] (B (beyond g)) := by
  obtain ⟨ga, go, gn, hA, hO, hN, -⟩ := hg
  refine calls Tryz.func78 rfl (by rfl) (by rfl) (by kernel_rfl) ?_
  by_cases l1 : (100 : Int) < (g.agents.length : Int)
  · have hb : beyond g = true := by unfold beyond; rw [decide_eq_true (show 100 < g.agents.length by omega)]; simp
    simp -dsimp -implicitDefEqProofs [Tryz.f78, l1, hb]
  by_cases l2 : (100 : Int) < (g.outs.length : Int)
  · have hb : beyond g = true := by unfold beyond; rw [decide_eq_true (show 100 < g.outs.length by omega)]; simp
    simp -dsimp -implicitDefEqProofs [Tryz.f78, l1, l2, hb]
  by_cases l3 : (100 : Int) < (g.needs.length : Int)
  · have hb : beyond g = true := by unfold beyond; rw [decide_eq_true (show 100 < g.needs.length by omega)]; simp
    simp -dsimp -implicitDefEqProofs [Tryz.f78, l1, l2, l3, hb]
  simp -dsimp -implicitDefEqProofs [Tryz.f78, l1, l2, l3]
  refine sw_loop_e (fun p : {p : Nat // p ≤ g.outs.length} => SS.of [(1, .v (.one (.mp 0 0))), (3, I .i64 ((g.outs.take p.1).foldl (fun n s => W64 (n + (s.size : Int))) 0)), (4, I .i64 p.1)] [(0, ⟨26, rowGm g⟩)] 1)
    (fun p => g.outs.length - p.1) ⟨0, Nat.zero_le _⟩ (by kernel_rfl) (Le.to (by simp) (by simp) (by simp)) ?_
  rintro ⟨i, hi⟩
  by_cases a1 : i < g.outs.length
  · have wi : IntKind.i64.wrap ((i : Int) + 1) = ((i + 1 : Nat) : Int) := by rw [wrap_i64 _ (by omega) (by omega)]; rfl
    have ht := foldl_take (fun n (s : ByteArray) => W64 (n + (s.size : Int))) 0 g.outs i a1
    simp -dsimp -implicitDefEqProofs [a1, wi]
    exact Again.by ⟨i + 1, a1⟩ (Le.to (by simp [wi, ht]) (by simp) (by simp)) (by simp; omega)
  have hi2 : i = g.outs.length := by omega
  subst hi2
  rw [List.take_length]
  simp -dsimp -implicitDefEqProofs
  refine sw_loop_e (fun p : {p : Nat × Nat // p.1 ≤ g.agents.length ∧ ∀ a ∈ g.agents.take p.1, ¬ 100 < a.kinds.length} => SS.of [(1, .v (.one (.mp 0 0))), (3, I .i64 ((g.agents.take p.1.1).foldl beyA (beyO g))), (5, I .i64 p.1.1)] [(0, ⟨26, rowGm g⟩)] (p.1.2 + 1))
    (fun p => g.agents.length - p.1.1) ⟨(0, 0), Nat.zero_le _, by simp⟩ (by kernel_rfl) (Le.to (by simp [beyO]) (by simp) (by simp)) ?_
  rintro ⟨⟨j, c⟩, hj, hp⟩
  simp only at hj hp
  by_cases a2 : j < g.agents.length
  · have wi : IntKind.i64.wrap ((j : Int) + 1) = ((j + 1 : Nat) : Int) := by rw [wrap_i64 _ (by omega) (by omega)]; rfl
    have ht := foldl_take beyA (beyO g) g.agents j a2
    have oa := hA _ (List.getElem_mem a2)
    by_cases l4 : (100 : Int) < (g.agents[j].kinds.length : Int)
    · have hb : beyond g = true := by
        unfold beyond
        simp only [Bool.or_eq_true]
        exact Or.inl (Or.inr (List.any_eq_true.2 ⟨_, List.getElem_mem a2, decide_eq_true (by omega)⟩))
      simp -dsimp -implicitDefEqProofs [a2, wi, l4, hb]
    simp -dsimp -implicitDefEqProofs [a2, wi, l4]
    refine sw_loop_e (fun p : {p : Nat × Nat // p.1 ≤ g.agents[j].kinds.length} => SS.of [(1, .v (.one (.mp 0 0))), (3, I .i64 ((g.agents[j].kinds.take p.1.1).foldl beyK (beyN ((g.agents.take j).foldl beyA (beyO g)) g.agents[j]))), (5, I .i64 j), (6, I .i64 p.1.1)] [(0, ⟨26, rowGm g⟩)] (p.1.2 + 1))
      (fun p => g.agents[j].kinds.length - p.1.1) ⟨(0, c), Nat.zero_le _⟩ (by kernel_rfl) (Le.to (by simp [beyN]) (by simp) (by simp)) ?_
    rintro ⟨⟨k, d⟩, hk⟩
    simp only at hk
    by_cases a3 : k < g.agents[j].kinds.length
    · have wk : IntKind.i64.wrap ((k : Int) + 1) = ((k + 1 : Nat) : Int) := by rw [wrap_i64 _ (by omega) (by omega)]; rfl
      have ht := foldl_take beyK (beyN ((g.agents.take j).foldl beyA (beyO g)) g.agents[j]) g.agents[j].kinds k a3
      obtain ⟨k1, k2, k3, k4, k5⟩ := oa.2.2 _ (List.getElem_mem a3)
      simp -dsimp -implicitDefEqProofs [a2, a3, wk]
      refine eCall.of (big_s g.agents[j].kinds[k].weight k2) (by simp) ?_
      simp -dsimp -implicitDefEqProofs
      refine eCall.of (big_s g.agents[j].kinds[k].alone k3) (by simp) ?_
      simp -dsimp -implicitDefEqProofs
      refine eCall.of (bigs_s g.agents[j].kinds[k].worth k5 k4) (by simp) ?_
      simp -dsimp -implicitDefEqProofs
      exact Again.by ⟨(k + 1, d + 1), a3⟩ (Le.to (by simp [wk, ht, beyK]) (by simp) (by simp)) (by simp; omega)
    have hk2 : k = g.agents[j].kinds.length := by omega
    subst hk2
    simp -dsimp -implicitDefEqProofs [a2]
    refine Again.by ⟨(j + 1, d), a2, ?_⟩ (Le.to (by simp [wi, ht, beyA]) (by simp) (by simp)) (by simp; omega)
    intro a ha
    rw [List.take_add_one, List.getElem?_eq_getElem a2] at ha
    rcases List.mem_append.1 ha with ha | ha
    · exact hp a ha
    · simp at ha; subst ha; omega
  have hj2 : j = g.agents.length := by omega
  subst hj2
  rw [List.take_length] at hp
  simp -dsimp -implicitDefEqProofs
  refine sw_loop_e (fun p : {p : Nat // p ≤ g.needs.length} => SS.of [(1, .v (.one (.mp 0 0))), (3, I .i64 ((g.needs.take p.1).foldl beyD (g.agents.foldl beyA (beyO g)))), (8, I .i64 p.1)] [(0, ⟨26, rowGm g⟩)] (c + 1))
    (fun p => g.needs.length - p.1) ⟨0, Nat.zero_le _⟩ (by kernel_rfl) (Le.to (by simp) (by simp) (by simp)) ?_
  rintro ⟨i, hi⟩
  by_cases a1 : i < g.needs.length
  · have wi : IntKind.i64.wrap ((i : Int) + 1) = ((i + 1 : Nat) : Int) := by rw [wrap_i64 _ (by omega) (by omega)]; rfl
    have ht := foldl_take beyD (g.agents.foldl beyA (beyO g)) g.needs i a1
    obtain ⟨-, -, -, n1, n2, n3, -, -⟩ := hN _ (List.getElem_mem a1)
    simp -dsimp -implicitDefEqProofs [a1, wi]
    refine eCall.of (big_s g.needs[i].bound n1) (by simp) ?_
    simp -dsimp -implicitDefEqProofs
    exact Again.by ⟨i + 1, a1⟩ (Le.to (by simp [wi, ht, beyD]) (by simp) (by simp)) (by simp; omega)
  have hi2 : i = g.needs.length := by omega
  subst hi2
  have hb : beyond g = decide (20000 < g.needs.foldl beyD (g.agents.foldl beyA (beyO g))) := by
    unfold beyond
    rw [decide_eq_false (show ¬ 100 < g.agents.length by omega), decide_eq_false (show ¬ 100 < g.outs.length by omega), decide_eq_false (show ¬ 100 < g.needs.length by omega), List.any_eq_false.2 (fun a ha => by simpa using hp a ha)]
    rfl
  simp -dsimp -implicitDefEqProofs [hb]
end Go.Proofs.YtglhjjokijdagaaGreat.Sh

/- Data of games and rules. -/
namespace Go.Proofs.YtglhjjokijdagaaGreat.Sh
open Go Go.RowKit

def shpKd : Shp := .agg (.cons 1 .str (.cons 3 shpFr (.cons 3 shpFr (.cons 1 (.slice 3 shpFr) .nil))))
def shpAg : Shp := .agg (.cons 1 .str (.cons 1 (.slice 8 shpKd) .nil))
def shpNd : Shp := .agg (.cons 1 (.int .i64) (.cons 1 (.int .i64) (.cons 1 (.int .i64) (.cons 3 shpFr (.cons 1 (.slice 1 (.int .i64)) (.cons 1 (.slice 1 (.int .i64)) .nil))))))
def shpGm : Shp := .agg (.cons 1 (.slice 2 shpAg) (.cons 1 (.slice 1 .str) (.cons 1 .bool (.cons 1 .bool (.cons 1 (.int .i64) (.cons 1 (.slice 8 shpNd) .nil))))))
def shpCe : Shp := .agg (.cons 1 (.slice 3 shpFr) (.cons 1 (.slice 3 shpFr) .nil))
def shpRu : Shp := .agg (.cons 1 (.slice 2 shpCe) .nil)

section
variable {H : Type}

theorem str_of_ok {d : DataW H} (hd : Shp.str.ok d) : ∃ s : ByteArray, Shp.str.cells d = [.str s] ∧ s.size ≤ 140737488351232 := by
  obtain ⟨b, rfl, hb⟩ := hd
  exact ⟨⟨b.toArray⟩, rfl, by simpa [ByteArray.size] using hb⟩
theorem strs_of_ok {d : DataW H} (hd : (Shp.slice 1 .str).ok d) : ∃ l : List ByteArray, (Shp.slice 1 .str).cells d = [strsS l] ∧ l.length ≤ 140737488351232 ∧ ∀ s ∈ l, s.size ≤ 140737488351232 :=
  slice_of_ok (f := fun s => [.str s]) (fun _ h => str_of_ok h) hd
theorem i64s_of_ok {d : DataW H} (hd : (Shp.slice 1 (.int .i64)).ok d) : ∃ l : List Int, (Shp.slice 1 (.int .i64)).cells d = [intsS l] ∧ l.length ≤ 140737488351232 ∧ InI l := by
  obtain ⟨l, h1, h2, h3⟩ := ints_of_ok hd
  exact ⟨l, h1, h2, fun x hx => wf_i64 (h3 x hx)⟩
theorem i64_of_ok {d : DataW H} (hd : (Shp.int .i64).ok d) : ∃ n, (Shp.int .i64).cells d = [.int .i64 n] ∧ In64 n := by
  obtain ⟨n, h1, h2⟩ := int_of_ok hd
  exact ⟨n, h1, wf_i64 h2⟩

theorem kd_of_ok {d : DataW H} (hd : shpKd.ok d) : ∃ k : Kd, shpKd.cells d = rowKd k ∧ k.ok := by
  obtain ⟨parts, rfl, d1, p1, rfl, ⟨h1, -⟩, d2, p2, rfl, ⟨h2, -⟩, d3, p3, rfl, ⟨h3, -⟩, d4, p4, rfl, ⟨h4, -⟩, rfl⟩ := hd
  obtain ⟨s, e1, l1⟩ := str_of_ok h1
  obtain ⟨f, e2, l2⟩ := fr_of_ok h2
  obtain ⟨f3, e3, l3⟩ := fr_of_ok h3
  obtain ⟨w, e4, l4, l5⟩ := frs_of_ok h4
  refine ⟨⟨s, f, f3, w⟩, ?_, ⟨Nat.le_trans l1 (by decide), l2, l3, Nat.le_trans l4 (by decide), l5⟩⟩
  show Shp.str.cells d1 ++ (shpFr.cells d2 ++ (shpFr.cells d3 ++ ((Shp.slice 3 shpFr).cells d4 ++ []))) = _
  rw [e1, e2, e3, e4]; rfl

theorem ag_of_ok {d : DataW H} (hd : shpAg.ok d) : ∃ a : Ag, shpAg.cells d = rowAg a ∧ a.ok := by
  obtain ⟨parts, rfl, d1, p1, rfl, ⟨h1, -⟩, d2, p2, rfl, ⟨h2, -⟩, rfl⟩ := hd
  obtain ⟨s, e1, l1⟩ := str_of_ok h1
  obtain ⟨ks, e2, l2, l3⟩ := slice_of_ok (f := rowKd) (fun _ h => kd_of_ok h) h2
  refine ⟨⟨s, ks⟩, ?_, ⟨Nat.le_trans l1 (by decide), Nat.le_trans l2 (by decide), l3⟩⟩
  show Shp.str.cells d1 ++ ((Shp.slice 8 shpKd).cells d2 ++ []) = _
  rw [e1, e2]; rfl

theorem nd_of_ok {d : DataW H} (hd : shpNd.ok d) : ∃ n : Nd, shpNd.cells d = rowNd n ∧ n.ok := by
  obtain ⟨parts, rfl, d1, p1, rfl, ⟨h1, -⟩, d2, p2, rfl, ⟨h2, -⟩, d3, p3, rfl, ⟨h3, -⟩, d4, p4, rfl, ⟨h4, -⟩, d5, p5, rfl, ⟨h5, -⟩, d6, p6, rfl, ⟨h6, -⟩, rfl⟩ := hd
  obtain ⟨x1, e1, l1⟩ := i64_of_ok h1
  obtain ⟨x2, e2, l2⟩ := i64_of_ok h2
  obtain ⟨x3, e3, l3⟩ := i64_of_ok h3
  obtain ⟨f, e4, l4⟩ := fr_of_ok h4
  obtain ⟨o, e5, l5, m5⟩ := i64s_of_ok h5
  obtain ⟨s, e6, l6, m6⟩ := i64s_of_ok h6
  refine ⟨⟨x1, x2, x3, f, o, s⟩, ?_, ⟨l1, l2, l3, l4, Nat.le_trans l5 (by decide), Nat.le_trans l6 (by decide), m5, m6⟩⟩
  show (Shp.int .i64).cells d1 ++ ((Shp.int .i64).cells d2 ++ ((Shp.int .i64).cells d3 ++ (shpFr.cells d4 ++ ((Shp.slice 1 (.int .i64)).cells d5 ++ ((Shp.slice 1 (.int .i64)).cells d6 ++ []))))) = _
  rw [e1, e2, e3, e4, e5, e6]; rfl

theorem gm_of_ok {d : DataW H} (hd : shpGm.ok d) : ∃ g : Gm, shpGm.cells d = rowGm g ∧ g.ok := by
  obtain ⟨parts, rfl, d1, p1, rfl, ⟨h1, -⟩, d2, p2, rfl, ⟨h2, -⟩, d3, p3, rfl, ⟨h3, -⟩, d4, p4, rfl, ⟨h4, -⟩, d5, p5, rfl, ⟨h5, -⟩, d6, p6, rfl, ⟨h6, -⟩, rfl⟩ := hd
  obtain ⟨ags, e1, l1, m1⟩ := slice_of_ok (f := rowAg) (fun _ h => ag_of_ok h) h1
  obtain ⟨os, e2, l2, m2⟩ := strs_of_ok h2
  obtain ⟨p, e3⟩ := bool_of_ok h3
  obtain ⟨l, e4⟩ := bool_of_ok h4
  obtain ⟨x, e5, m5⟩ := i64_of_ok h5
  obtain ⟨ns, e6, l6, m6⟩ := slice_of_ok (f := rowNd) (fun _ h => nd_of_ok h) h6
  refine ⟨⟨ags, os, p, l, x, ns⟩, ?_, ⟨Nat.le_trans l1 (by decide), Nat.le_trans l2 (by decide), Nat.le_trans l6 (by decide), m1, fun s hs => Nat.le_trans (m2 s hs) (by decide), m6, m5⟩⟩
  show (Shp.slice 2 shpAg).cells d1 ++ ((Shp.slice 1 .str).cells d2 ++ (Shp.bool.cells d3 ++ (Shp.bool.cells d4 ++ ((Shp.int .i64).cells d5 ++ ((Shp.slice 8 shpNd).cells d6 ++ []))))) = _
  rw [e1, e2, e3, e4, e5, e6]; rfl

theorem ce_of_ok {d : DataW H} (hd : shpCe.ok d) : ∃ c : Ce, shpCe.cells d = rowCe c ∧ c.ok := by
  obtain ⟨parts, rfl, d1, p1, rfl, ⟨h1, -⟩, d2, p2, rfl, ⟨h2, -⟩, rfl⟩ := hd
  obtain ⟨a, e1, l1, m1⟩ := frs_of_ok h1
  obtain ⟨b, e2, l2, m2⟩ := frs_of_ok h2
  refine ⟨⟨a, b⟩, ?_, ⟨Nat.le_trans l1 (by decide), Nat.le_trans l2 (by decide), m1, m2⟩⟩
  show (Shp.slice 3 shpFr).cells d1 ++ ((Shp.slice 3 shpFr).cells d2 ++ []) = _
  rw [e1, e2]; rfl

theorem ces_of_ok {d : DataW H} (hd : (Shp.slice 2 shpCe).ok d) : ∃ l : List Ce, (Shp.slice 2 shpCe).cells d = [cesS l] ∧ l.length ≤ 140737488351232 ∧ ∀ c ∈ l, c.ok :=
  slice_of_ok (f := rowCe) (fun _ h => ce_of_ok h) hd

theorem ru_of_ok {d : DataW H} (hd : shpRu.ok d) : ∃ r : List Ce, shpRu.cells d = [cesS r] ∧ lenOk r ∧ ∀ c ∈ r, c.ok := by
  obtain ⟨parts, rfl, d1, p1, rfl, ⟨h1, -⟩, rfl⟩ := hd
  obtain ⟨l, e1, l1, m1⟩ := ces_of_ok h1
  refine ⟨l, ?_, Nat.le_trans l1 (by decide), m1⟩
  show (Shp.slice 2 shpCe).cells d1 ++ [] = _
  rw [e1]; rfl
end
end Go.Proofs.YtglhjjokijdagaaGreat.Sh

/- Data of reports, mixtures, logs. -/
namespace Go.Proofs.YtglhjjokijdagaaGreat.Sh
open Go Go.RowKit

def shpReport : Shp := .agg (.cons 1 (.slice 1 (.int .i64)) (.cons 1 (.int .i64) (.cons 1 (.int .i64) .nil)))
def shpMixed : Shp := .agg (.cons 1 shpRu (.cons 1 shpRu (.cons 3 shpFr .nil)))
def shpSeen : Shp := .agg (.cons 1 (.slice 1 (.int .i64)) (.cons 1 (.int .i64) .nil))
/-- What was said, and how often. -/
structure Sn where
  prof : List Int
  count : Int
@[simp] def rowSn (s : Sn) : List S1 := [intsS s.prof, .int .i64 s.count]
@[simp] def snsS (l : List Sn) : S1 := .sl true 2 (l.map rowSn)
def Sn.ok (s : Sn) : Prop := lenOk s.prof ∧ InI s.prof ∧ In64 s.count

section
variable {H : Type}

theorem report_of_ok {d : DataW H} (hd : shpReport.ok d) : ∃ (p : List Int) (a k : Int), shpReport.cells d = [intsS p, .int .i64 a, .int .i64 k] ∧ p.length ≤ 140737488355328 ∧ In64 a ∧ In64 k ∧ InI p := by
  obtain ⟨parts, rfl, d1, p1, rfl, ⟨h1, -⟩, d2, p2, rfl, ⟨h2, -⟩, d3, p3, rfl, ⟨h3, -⟩, rfl⟩ := hd
  obtain ⟨p, e1, l1, m1⟩ := i64s_of_ok h1
  obtain ⟨a, e2, l2⟩ := i64_of_ok h2
  obtain ⟨k, e3, l3⟩ := i64_of_ok h3
  refine ⟨p, a, k, ?_, Nat.le_trans l1 (by decide), l2, l3, m1⟩
  show (Shp.slice 1 (.int .i64)).cells d1 ++ ((Shp.int .i64).cells d2 ++ ((Shp.int .i64).cells d3 ++ [])) = _
  rw [e1, e2, e3]; rfl

theorem mixed_of_ok {d : DataW H} (hd : shpMixed.ok d) : ∃ (a b : List Ce) (w : FR), shpMixed.cells d = cesS a :: cesS b :: rowFr w ∧ (lenOk a ∧ ∀ c ∈ a, c.ok) ∧ (lenOk b ∧ ∀ c ∈ b, c.ok) ∧ w.ok := by
  obtain ⟨parts, rfl, d1, p1, rfl, ⟨h1, -⟩, d2, p2, rfl, ⟨h2, -⟩, d3, p3, rfl, ⟨h3, -⟩, rfl⟩ := hd
  obtain ⟨a, e1, m1⟩ := ru_of_ok h1
  obtain ⟨b, e2, m2⟩ := ru_of_ok h2
  obtain ⟨w, e3, m3⟩ := fr_of_ok h3
  refine ⟨a, b, w, ?_, m1, m2, m3⟩
  show shpRu.cells d1 ++ (shpRu.cells d2 ++ (shpFr.cells d3 ++ [])) = _
  rw [e1, e2, e3]; rfl

theorem sn_of_ok {d : DataW H} (hd : shpSeen.ok d) : ∃ s : Sn, shpSeen.cells d = rowSn s ∧ s.ok := by
  obtain ⟨parts, rfl, d1, p1, rfl, ⟨h1, -⟩, d2, p2, rfl, ⟨h2, -⟩, rfl⟩ := hd
  obtain ⟨p, e1, l1, m1⟩ := i64s_of_ok h1
  obtain ⟨a, e2, l2⟩ := i64_of_ok h2
  refine ⟨⟨p, a⟩, ?_, Nat.le_trans l1 (by decide), m1, l2⟩
  show (Shp.slice 1 (.int .i64)).cells d1 ++ ((Shp.int .i64).cells d2 ++ []) = _
  rw [e1, e2]; rfl
theorem log_of_ok {d : DataW H} (hd : (Shp.slice 2 shpSeen).ok d) : ∃ l : List Sn, (Shp.slice 2 shpSeen).cells d = [snsS l] ∧ l.length ≤ 140737488351232 ∧ ∀ s ∈ l, s.ok :=
  slice_of_ok (f := rowSn) (fun _ h => sn_of_ok h) hd
end
end Go.Proofs.YtglhjjokijdagaaGreat.Sh

/- The guards of the statements: Far, BeyondRule. -/
namespace Go.Proofs.YtglhjjokijdagaaGreat.Sh
open Go Go.RowKit

def farK (k : Kd) : Bool := decide ((3 : Int) < k.weight.big) || decide ((3 : Int) < k.alone.big) || wideF 3 k.worth
def farA (a : Ag) : Bool := a.kinds.any farK
def far (g : Gm) : Bool := beyond g || g.agents.any farA || g.needs.any fun n => decide ((3 : Int) < n.bound.big)

theorem any_take {α : Type} (f : α → Bool) (l : List α) (i : Nat) (h : i < l.length) (h1 : (l.take i).any f = false) (h2 : f l[i] = false) : (l.take (i + 1)).any f = false := by
  rw [List.take_add_one, List.getElem?_eq_getElem h, List.any_append, h1]
  simp [h2]
theorem any_at {α : Type} (f : α → Bool) (l : List α) (i : Nat) (h : i < l.length) (h2 : f l[i] = true) : l.any f = true := List.any_eq_true.2 ⟨_, List.getElem_mem h, h2⟩

set_option maxRecDepth 20000 in
theorem far_s (g : Gm) (hg : g.ok) : CallsS Tryz.prog 33 [gmS g] (B (far g)) := by
  obtain ⟨ga, go, gn, hA, hO, hN, -⟩ := id hg
  refine calls Tryz.func33 rfl (by rfl) (by rfl) (by kernel_rfl) ?_
  simp -dsimp -implicitDefEqProofs [Tryz.f33]
  have hb := beyond_s g hg
  by_cases l1 : beyond g = true
  · have hf : far g = true := by unfold far; rw [l1]; rfl
    rw [l1] at hb
    refine eCall.of hb (by simp) ?_
    simp -dsimp -implicitDefEqProofs [hf]
  have l1 : beyond g = false := by simpa using l1
  obtain ⟨b1, b2, b3, b4⟩ := beyond_len l1
  rw [l1] at hb
  refine eCall.of hb (by simp) ?_
  simp -dsimp -implicitDefEqProofs
  refine sw_loop_e (fun p : {p : Nat × Nat // p.1 ≤ g.agents.length ∧ (g.agents.take p.1).any farA = false} => SS.of [(1, .v (.one (.mp 0 0))), (3, I .i64 p.1.1)] [(0, ⟨26, rowGm g⟩)] (p.1.2 + 1))
    (fun p => g.agents.length - p.1.1) ⟨(0, 0), Nat.zero_le _, by simp⟩ (by kernel_rfl) (Le.to (by simp) (by simp) (by simp)) ?_
  rintro ⟨⟨j, c⟩, hj, hp⟩
  simp only at hj hp
  by_cases a2 : j < g.agents.length
  · have wi : IntKind.i64.wrap ((j : Int) + 1) = ((j + 1 : Nat) : Int) := by rw [wrap_i64 _ (by omega) (by omega)]; rfl
    have oa := hA _ (List.getElem_mem a2)
    have hkl := b4 _ (List.getElem_mem a2)
    simp -dsimp -implicitDefEqProofs [a2, wi]
    refine sw_loop_e (fun p : {p : Nat × Nat // p.1 ≤ g.agents[j].kinds.length ∧ (g.agents[j].kinds.take p.1).any farK = false} => SS.of [(1, .v (.one (.mp 0 0))), (3, I .i64 j), (4, I .i64 p.1.1)] [(0, ⟨26, rowGm g⟩)] (p.1.2 + 1))
      (fun p => g.agents[j].kinds.length - p.1.1) ⟨(0, c), Nat.zero_le _, by simp⟩ (by kernel_rfl) (Le.to (by simp) (by simp) (by simp)) ?_
    rintro ⟨⟨k, d⟩, hk, hq⟩
    simp only at hk hq
    by_cases a3 : k < g.agents[j].kinds.length
    · have wk : IntKind.i64.wrap ((k : Int) + 1) = ((k + 1 : Nat) : Int) := by rw [wrap_i64 _ (by omega) (by omega)]; rfl
      obtain ⟨k1, k2, k3, k4, k5⟩ := oa.2.2 _ (List.getElem_mem a3)
      have ft : farK g.agents[j].kinds[k] = true → far g = true := fun h => by
        have := any_at farA g.agents j a2 (any_at farK _ k a3 h)
        unfold far; rw [this]; simp
      simp -dsimp -implicitDefEqProofs [a2, a3, wk]
      refine eCall.of (big_s g.agents[j].kinds[k].weight k2) (by simp) ?_
      by_cases c1 : (3 : Int) < g.agents[j].kinds[k].weight.big
      · have hf : far g = true := ft (by unfold farK; rw [decide_eq_true c1]; rfl)
        simp -dsimp -implicitDefEqProofs [c1, hf]
      simp -dsimp -implicitDefEqProofs [c1]
      refine eCall.of (big_s g.agents[j].kinds[k].alone k3) (by simp) ?_
      by_cases c2 : (3 : Int) < g.agents[j].kinds[k].alone.big
      · have hf : far g = true := ft (by unfold farK; rw [decide_eq_true c2]; simp)
        simp -dsimp -implicitDefEqProofs [c2, hf]
      simp -dsimp -implicitDefEqProofs [c2]
      by_cases c3 : wideF 3 g.agents[j].kinds[k].worth = true
      · have hf : far g = true := ft (by unfold farK; rw [c3]; simp)
        refine eCall.of (wideF_s g.agents[j].kinds[k].worth 3 k5 (by unfold lenOk at k4; omega) true c3.symm) (by simp) ?_
        simp -dsimp -implicitDefEqProofs [hf]
      have c3 : wideF 3 g.agents[j].kinds[k].worth = false := by simpa using c3
      refine eCall.of (wideF_s g.agents[j].kinds[k].worth 3 k5 (by unfold lenOk at k4; omega) false c3.symm) (by simp) ?_
      simp -dsimp -implicitDefEqProofs
      exact Again.by ⟨(k + 1, d + 1), a3, any_take farK _ k a3 hq (by unfold farK; rw [decide_eq_false c1, decide_eq_false c2, c3]; rfl)⟩ (Le.to (by simp [wk]) (by simp) (by simp)) (by simp; omega)
    have hk2 : k = g.agents[j].kinds.length := by omega
    subst hk2
    rw [List.take_length] at hq
    simp -dsimp -implicitDefEqProofs [a2]
    exact Again.by ⟨(j + 1, d), a2, any_take farA _ j a2 hp hq⟩ (Le.to (by simp [wi]) (by simp) (by simp)) (by simp; omega)
  have hj2 : j = g.agents.length := by omega
  subst hj2
  rw [List.take_length] at hp
  simp -dsimp -implicitDefEqProofs
  refine sw_loop_e (fun p : {p : Nat // p ≤ g.needs.length ∧ (g.needs.take p).any (fun n => decide ((3 : Int) < n.bound.big)) = false} => SS.of [(1, .v (.one (.mp 0 0))), (6, I .i64 p.1)] [(0, ⟨26, rowGm g⟩)] (c + 1))
    (fun p => g.needs.length - p.1) ⟨0, Nat.zero_le _, by simp⟩ (by kernel_rfl) (Le.to (by simp) (by simp) (by simp)) ?_
  rintro ⟨i, hi, hq⟩
  by_cases a1 : i < g.needs.length
  · have wi : IntKind.i64.wrap ((i : Int) + 1) = ((i + 1 : Nat) : Int) := by rw [wrap_i64 _ (by omega) (by omega)]; rfl
    obtain ⟨-, -, -, n1, n2, n3, -, -⟩ := hN _ (List.getElem_mem a1)
    simp -dsimp -implicitDefEqProofs [a1, wi]
    refine eCall.of (big_s g.needs[i].bound n1) (by simp) ?_
    by_cases c1 : (3 : Int) < g.needs[i].bound.big
    · have hf : far g = true := by
        have := any_at (fun n : Nd => decide ((3 : Int) < n.bound.big)) g.needs i a1 (by simpa using c1)
        unfold far; rw [this]; simp
      simp -dsimp -implicitDefEqProofs [c1, hf]
    simp -dsimp -implicitDefEqProofs [c1]
    exact Again.by ⟨i + 1, a1, any_take _ _ i a1 hq (by simpa using c1)⟩ (Le.to (by simp [wi]) (by simp) (by simp)) (by simp; omega)
  have hi2 : i = g.needs.length := by omega
  subst hi2
  rw [List.take_length] at hq
  have hf : far g = false := by unfold far; rw [l1, hp, hq]; rfl
  simp -dsimp -implicitDefEqProofs [hf]

def bruN (n : Int) (c : Ce) : Int := W64 (W64 (n + (c.lot.length : Int)) + (c.pay.length : Int))
def bruW (c : Ce) : Bool := wideF 6 c.lot || wideF 6 c.pay
def beyondRule (r : List Ce) : Bool := r.any bruW || decide (100 < r.length) || decide (20000 < r.foldl bruN 0)

set_option maxRecDepth 20000 in
theorem beyondRule_s (r : List Ce) (hl : lenOk r) (hr : ∀ c ∈ r, c.ok) : CallsS Tryz.prog 34 [ruS r] (B (beyondRule r)) := by
  unfold lenOk at hl
  refine calls Tryz.func34 rfl (by rfl) (by rfl) (by kernel_rfl) ?_
  simp -dsimp -implicitDefEqProofs [Tryz.f34]
  refine sw_loop_e (fun p : {p : Nat // p ≤ r.length ∧ (r.take p).any bruW = false} => SS.of [(1, .v (.one (.mp 0 0))), (3, I .i64 ((r.take p.1).foldl bruN 0)), (4, I .i64 p.1)] [(0, ⟨29, [cesS r]⟩)] 1)
    (fun p => r.length - p.1) ⟨0, Nat.zero_le _, by simp⟩ (by kernel_rfl) (Le.to (by simp) (by simp) (by simp)) ?_
  rintro ⟨i, hi, hp⟩
  by_cases a1 : i < r.length
  · have wi : IntKind.i64.wrap ((i : Int) + 1) = ((i + 1 : Nat) : Int) := by rw [wrap_i64 _ (by omega) (by omega)]; rfl
    have ht := foldl_take bruN 0 r i a1
    obtain ⟨o1, o2, o3, o4⟩ := hr _ (List.getElem_mem a1)
    unfold lenOk at o1 o2
    simp -dsimp -implicitDefEqProofs [a1, wi]
    have ft : bruW r[i] = true → beyondRule r = true := fun h => by
      have := any_at bruW r i a1 h
      unfold beyondRule; rw [this]; rfl
    by_cases c1 : wideF 6 r[i].lot = true
    · have hf := ft (by unfold bruW; rw [c1]; rfl)
      refine eCall.of (wideF_s r[i].lot 6 o3 (by omega) true c1.symm) (by simp) ?_
      simp -dsimp -implicitDefEqProofs [hf]
    have c1 : wideF 6 r[i].lot = false := by simpa using c1
    refine eCall.of (wideF_s r[i].lot 6 o3 (by omega) false c1.symm) (by simp) ?_
    simp -dsimp -implicitDefEqProofs [a1]
    by_cases c2 : wideF 6 r[i].pay = true
    · have hf := ft (by unfold bruW; rw [c2]; simp)
      refine eCall.of (wideF_s r[i].pay 6 o4 (by omega) true c2.symm) (by simp) ?_
      simp -dsimp -implicitDefEqProofs [hf]
    have c2 : wideF 6 r[i].pay = false := by simpa using c2
    refine eCall.of (wideF_s r[i].pay 6 o4 (by omega) false c2.symm) (by simp) ?_
    simp -dsimp -implicitDefEqProofs
    exact Again.by ⟨i + 1, a1, any_take _ _ i a1 hp (by unfold bruW; rw [c1, c2]; rfl)⟩ (Le.to (by simp [wi, ht, bruN]) (by simp) (by simp)) (by simp; omega)
  have hi2 : i = r.length := by omega
  subst hi2
  rw [List.take_length] at hp
  by_cases c1 : (100 : Int) < (r.length : Int)
  · have hf : beyondRule r = true := by unfold beyondRule; rw [hp, decide_eq_true (show 100 < r.length by omega)]; rfl
    simp -dsimp -implicitDefEqProofs [c1, hf]
  have hf : beyondRule r = decide (20000 < r.foldl bruN 0) := by unfold beyondRule; rw [hp, decide_eq_false (show ¬ 100 < r.length by omega)]; rfl
  simp -dsimp -implicitDefEqProofs [c1, hf]
end Go.Proofs.YtglhjjokijdagaaGreat.Sh

/- Names, sizes and lists of a game in the reference. -/
namespace Go.Proofs.YtglhjjokijdagaaGreat.Sh
open Go Go.RowKit

def letterB (b : Int) : Bool := decide (97 ≤ b) && decide (b ≤ 122)
def lettersTo (s : ByteArray) : Nat → Bool
  | 0 => true
  | i + 1 => lettersTo s i && letterB (byteAt s (i : Int))
def isNm (s : ByteArray) : Bool := lettersTo s s.size && decide (0 < s.size) && decide (s.size ≤ 12)

theorem letters_le {s : ByteArray} {i n : Nat} (h : i ≤ n) (h1 : lettersTo s n = true) : lettersTo s i = true := by
  induction n with
  | zero => rw [show i = 0 by omega]; rfl
  | succ n ih =>
    simp only [lettersTo, Bool.and_eq_true] at h1
    by_cases e : i = n + 1
    · subst e; simp only [lettersTo, Bool.and_eq_true]; exact h1
    · exact ih (by omega) h1.1

theorem letters_at {s : ByteArray} {i n : Nat} (h : i < n) (h1 : letterB (byteAt s (i : Int)) = false) : lettersTo s n = false := by
  by_cases e : lettersTo s n = true
  · have := letters_le (i := i + 1) h e
    simp only [lettersTo, Bool.and_eq_true, h1] at this
    exact absurd this.2 (by decide)
  · simpa using e

set_option maxRecDepth 20000 in
theorem name_s (s : ByteArray) (hs : s.size ≤ 140737488355328) : CallsS Tryz.prog 147 [.one (.str s)] (B (isNm s)) := by
  refine calls Tryz.func147 rfl (by rfl) (by rfl) (by kernel_rfl) ?_
  simp -dsimp -implicitDefEqProofs [Tryz.f147]
  refine sw_loop_e (fun p : {p : Nat // p ≤ s.size ∧ lettersTo s p = true} => SS.of [(0, .v (.one (.str s))), (3, I .i64 p.1)] [] 0)
    (fun p => s.size - p.1) ⟨0, Nat.zero_le _, rfl⟩ (by kernel_rfl) (Le.to (by simp) (by simp) (by simp)) ?_
  rintro ⟨i, hi, hp⟩
  by_cases a1 : i < s.size
  · have wi : IntKind.i64.wrap ((i : Int) + 1) = ((i + 1 : Nat) : Int) := by rw [wrap_i64 _ (by omega) (by omega)]; rfl
    by_cases c1 : byteAt s (i : Int) < 97
    · have hn : isNm s = false := by
        unfold isNm; rw [letters_at a1 (by unfold letterB; rw [decide_eq_false (by omega)]; rfl)]; rfl
      simp -dsimp -implicitDefEqProofs [a1, wi, c1, hn]
    by_cases c2 : 122 < byteAt s (i : Int)
    · have hn : isNm s = false := by
        unfold isNm; rw [letters_at a1 (by unfold letterB; rw [decide_eq_false (show ¬ byteAt s (i : Int) ≤ 122 by omega)]; simp)]; rfl
      simp -dsimp -implicitDefEqProofs [a1, wi, c1, c2, hn]
    simp -dsimp -implicitDefEqProofs [a1, wi, c1, c2]
    exact Again.by ⟨i + 1, a1, by simp only [lettersTo, hp, letterB]; rw [decide_eq_true (by omega), decide_eq_true (by omega)]; rfl⟩ (Le.to (by simp [wi]) (by simp) (by simp)) (by simp; omega)
  have hi2 : i = s.size := by omega
  subst hi2
  by_cases c1 : (0 : Int) < (s.size : Int)
  · have hn : isNm s = decide ((s.size : Int) ≤ 12) := by
      unfold isNm; rw [hp, decide_eq_true (show 0 < s.size by omega)]; simp only [Bool.true_and]; exact decide_eq_decide.2 (by omega)
    have c2 : ¬ s = ByteArray.empty := fun h => by rw [h] at c1; exact absurd c1 (by decide)
    simp -dsimp -implicitDefEqProofs [c1, c2, hn]
  · have hn : isNm s = false := by
      unfold isNm; rw [hp, decide_eq_false (show ¬ 0 < s.size by omega)]; rfl
    simp -dsimp -implicitDefEqProofs [c1, hn, show ¬ 0 < s.size by omega]

/-- Where a text stands in a list. -/
def placeS (s : ByteArray) : List ByteArray → Option Nat
  | [] => none
  | x :: l => if x = s then some 0 else (placeS s l).map (· + 1)
def placeI : Option Nat → Int
  | none => -1
  | some i => (i : Int)
theorem placeS_drop {s : ByteArray} {l : List ByteArray} : ∀ i, (∀ x ∈ l.take i, x ≠ s) → placeS s l = (placeS s (l.drop i)).map (· + i)
  | 0, _ => by simp
  | i + 1, h => by
    cases l with
    | nil => simp [placeS]
    | cons x l =>
      have hx : x ≠ s := h x (by simp)
      rw [List.drop_succ_cons, placeS, if_neg hx, placeS_drop i (fun y hy => h y (by simp [hy]))]
      cases placeS s (l.drop i) with
      | none => rfl
      | some k => simp; omega

@[simp] theorem bytes_dec (x y : ByteArray) : (x.toList == y.toList) = decide (x = y) := by
  rw [Bool.eq_iff_iff, decide_eq_true_iff]; exact Lib.bytes_beq_iff x y

set_option maxRecDepth 20000 in
theorem place_s (l : List ByteArray) (s : ByteArray) (hl : lenOk l) : CallsS Tryz.prog 148 [.one (strsS l), .one (.str s)] (I .i64 (placeI (placeS s l))) := by
  unfold lenOk at hl
  refine calls Tryz.func148 rfl (by rfl) (by rfl) (by kernel_rfl) ?_
  simp -dsimp -implicitDefEqProofs [Tryz.f148]
  refine sw_loop_e (fun p : {p : Nat // p ≤ l.length ∧ ∀ x ∈ l.take p, x ≠ s} => SS.of [(0, .v (.one (strsS l))), (1, .v (.one (.str s))), (5, I .i64 p.1)] [] 0)
    (fun p => l.length - p.1) ⟨0, Nat.zero_le _, by simp⟩ (by kernel_rfl) (Le.to (by simp) (by simp) (by simp)) ?_
  rintro ⟨i, hi, hp⟩
  by_cases a1 : i < l.length
  · have wi : IntKind.i64.wrap ((i : Int) + 1) = ((i + 1 : Nat) : Int) := by rw [wrap_i64 _ (by omega) (by omega)]; rfl
    have hd := placeS_drop i hp
    rw [List.drop_eq_getElem_cons a1, placeS] at hd
    by_cases c1 : l[i] = s
    · rw [if_pos c1] at hd
      have hd : placeI (placeS s l) = i := by rw [hd]; simp [placeI]
      simp -dsimp -implicitDefEqProofs [a1, wi, c1, hd]
    · simp -dsimp -implicitDefEqProofs [a1, wi, c1]
      refine Again.by ⟨i + 1, a1, fun x hx => ?_⟩ (Le.to (by simp [wi]) (by simp) (by simp)) (by simp; omega)
      rw [List.take_add_one, List.getElem?_eq_getElem a1] at hx
      rcases List.mem_append.1 hx with hx | hx
      · exact hp x hx
      · simp at hx; subst hx; exact c1
  have hi2 : i = l.length := by omega
  subst hi2
  rw [List.take_length] at hp
  have hd : placeI (placeS s l) = -1 := by
    have := placeS_drop l.length (l := l) (s := s) (by rw [List.take_length]; exact hp)
    rw [this]; simp [placeS, placeI]
  simp -dsimp -implicitDefEqProofs [hd]
end Go.Proofs.YtglhjjokijdagaaGreat.Sh

