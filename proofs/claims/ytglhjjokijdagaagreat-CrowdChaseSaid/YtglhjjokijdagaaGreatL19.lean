/- A part of the proof: R51, TyF, R54, R52, R58, R59, R60, R55, R61, R62, R63, R66a, R68, R69, R70 -/
import Derived.Test.YtglhjjokijdagaaGreatL18
set_option linter.unusedSimpArgs false
set_option linter.unusedVariables false
set_option linter.unusedSectionVars false
/- The reference's Truthful. -/
namespace Go.Proofs.YtglhjjokijdagaaGreat.Sh
open Go Go.RowKit

def kl (g : Gm) (a : Nat) : Nat := ((g.agents[a]?).map fun A => A.kinds.length).getD 0
theorem kl_eq {g : Gm} {a : Nat} (h : a < g.agents.length) : kl g a = g.agents[a].kinds.length := by unfold kl; rw [List.getElem?_eq_getElem h]; rfl

section
variable (g : Gm) (r : List Ce)
def NoN (a n : Nat) : Prop := ∀ t, t < kl g a → ¬ 0 < gainQ g r a n t
def NoA (a : Nat) : Prop := ∀ n, n < r.length → NoN g r a n
/-- The first lie that gains. -/
structure FirstAt (a n t : Nat) : Prop where
  ha : a < g.agents.length
  hn : n < r.length
  ht : t < kl g a
  pos : 0 < gainQ g r a n t
  a0 : ∀ a', a' < a → NoA g r a'
  n0 : ∀ n', n' < n → NoN g r a n'
  t0 : ∀ t', t' < t → ¬ 0 < gainQ g r a n t'
def isTr (l : Li) (ok : Bool) : Prop := (∃ a n t, FirstAt g r a n t ∧ l = lieAt g r a n t ∧ ok = false) ∨ ((∀ a, a < g.agents.length → NoA g r a) ∧ l = noLi 0 0 ∧ ok = true)
end

theorem FirstAt.uniq {g : Gm} {r : List Ce} {a n t a' n' t' : Nat} (h : FirstAt g r a n t) (h' : FirstAt g r a' n' t') : a = a' ∧ n = n' ∧ t = t' := by
  have e1 : a = a' := by
    rcases Nat.lt_trichotomy a a' with c | c | c
    · exact absurd h.pos (h'.a0 a c n h.hn t h.ht)
    · exact c
    · exact absurd h'.pos (h.a0 a' c n' h'.hn t' h'.ht)
  subst e1
  have e2 : n = n' := by
    rcases Nat.lt_trichotomy n n' with c | c | c
    · exact absurd h.pos (h'.n0 n c t h.ht)
    · exact c
    · exact absurd h'.pos (h.n0 n' c t' h'.ht)
  subst e2
  refine ⟨rfl, rfl, ?_⟩
  rcases Nat.lt_trichotomy t t' with c | c | c
  · exact absurd h.pos (h'.t0 t c)
  · exact c
  · exact absurd h'.pos (h.t0 t' c)
theorem isTr.at {g : Gm} {r : List Ce} {l : Li} {ok : Bool} (h : isTr g r l ok) {a n t : Nat} (hf : FirstAt g r a n t) : l = lieAt g r a n t ∧ ok = false := by
  rcases h with ⟨a', n', t', h1, h2, h3⟩ | ⟨h1, -, -⟩
  · obtain ⟨rfl, rfl, rfl⟩ := hf.uniq h1
    exact ⟨h2, h3⟩
  · exact absurd hf.pos (h1 a hf.ha n hf.hn t hf.ht)
theorem isTr.none {g : Gm} {r : List Ce} {l : Li} {ok : Bool} (h : isTr g r l ok) (hn : ∀ a, a < g.agents.length → NoA g r a) : l = noLi 0 0 ∧ ok = true := by
  rcases h with ⟨a', n', t', h1, h2, h3⟩ | ⟨-, h2, h3⟩
  · exact absurd h1.pos (hn a' h1.ha n' h1.hn t' h1.ht)
  · exact ⟨h2, h3⟩

theorem sgnQ_pos {q : Rat} : 0 < sgnQ q ↔ 0 < q := by
  unfold sgnQ
  split
  · rename_i h; subst h; exact ⟨fun h => absurd h (by decide), fun h => absurd h Rat.lt_irrefl⟩
  · rename_i h0
    split
    · rename_i h; exact ⟨fun h' => absurd h' (by decide), fun h' => by grind⟩
    · rename_i h; exact ⟨fun _ => by have := Rat.not_lt.1 h; grind, fun _ => by decide⟩

@[simp] def li0 : SV := .agg [.int .i64 0, .int .i64 0, .int .i64 0, .nils, .bool false, .nils, .nils]

end Go.Proofs.YtglhjjokijdagaaGreat.Sh

/- The types of functions, as the logic of shadows reads them. -/
namespace Go.Proofs.YtglhjjokijdagaaGreat.Sh
open Go Go.RowKit
@[simp] theorem ty1 : tyOf Tryz.prog 1 = some ⟨1, 8, .cell, [.nilFunc]⟩ := by kernel_rfl
@[simp] theorem ty36 : tyOf Tryz.prog 36 = some ⟨1, 8, .cell, [.nilFunc]⟩ := by kernel_rfl
@[simp] theorem ty37 : tyOf Tryz.prog 37 = some ⟨1, 8, .cell, [.nilFunc]⟩ := by kernel_rfl
@[simp] theorem ty43 : tyOf Tryz.prog 43 = some ⟨1, 8, .cell, [.nilFunc]⟩ := by kernel_rfl
@[simp] theorem ty47 : tyOf Tryz.prog 47 = some ⟨1, 8, .cell, [.nilFunc]⟩ := by kernel_rfl
@[simp] theorem ty48 : tyOf Tryz.prog 48 = some ⟨1, 8, .cell, [.nilFunc]⟩ := by kernel_rfl
@[simp] theorem ty49 : tyOf Tryz.prog 49 = some ⟨1, 8, .cell, [.nilFunc]⟩ := by kernel_rfl
@[simp] theorem ty50 : tyOf Tryz.prog 50 = some ⟨1, 8, .cell, [.nilFunc]⟩ := by kernel_rfl
@[simp] theorem ty51 : tyOf Tryz.prog 51 = some ⟨1, 8, .cell, [.nilFunc]⟩ := by kernel_rfl
@[simp] theorem ty52 : tyOf Tryz.prog 52 = some ⟨1, 8, .cell, [.nilFunc]⟩ := by kernel_rfl
@[simp] theorem ty53 : tyOf Tryz.prog 53 = some ⟨1, 8, .cell, [.nilFunc]⟩ := by kernel_rfl
@[simp] theorem ty54 : tyOf Tryz.prog 54 = some ⟨1, 8, .cell, [.nilFunc]⟩ := by kernel_rfl
@[simp] theorem ty58 : tyOf Tryz.prog 58 = some ⟨1, 8, .cell, [.nilFunc]⟩ := by kernel_rfl
@[simp] theorem ty59 : tyOf Tryz.prog 59 = some ⟨1, 8, .cell, [.nilFunc]⟩ := by kernel_rfl
@[simp] theorem ty60 : tyOf Tryz.prog 60 = some ⟨1, 8, .cell, [.nilFunc]⟩ := by kernel_rfl
@[simp] theorem ty64 : tyOf Tryz.prog 64 = some ⟨1, 8, .cell, [.nilFunc]⟩ := by kernel_rfl
@[simp] theorem ty65 : tyOf Tryz.prog 65 = some ⟨1, 8, .cell, [.nilFunc]⟩ := by kernel_rfl
@[simp] theorem ty66 : tyOf Tryz.prog 66 = some ⟨1, 8, .cell, [.nilFunc]⟩ := by kernel_rfl
@[simp] theorem ty68 : tyOf Tryz.prog 68 = some ⟨1, 8, .cell, [.nilFunc]⟩ := by kernel_rfl
@[simp] theorem ty69 : tyOf Tryz.prog 69 = some ⟨1, 8, .cell, [.nilFunc]⟩ := by kernel_rfl
@[simp] theorem ty74 : tyOf Tryz.prog 74 = some ⟨1, 8, .cell, [.nilFunc]⟩ := by kernel_rfl
@[simp] theorem ty75 : tyOf Tryz.prog 75 = some ⟨1, 8, .cell, [.nilFunc]⟩ := by kernel_rfl
@[simp] theorem ty76 : tyOf Tryz.prog 76 = some ⟨1, 8, .cell, [.nilFunc]⟩ := by kernel_rfl
@[simp] theorem ty77 : tyOf Tryz.prog 77 = some ⟨1, 8, .cell, [.nilFunc]⟩ := by kernel_rfl
@[simp] theorem ty80 : tyOf Tryz.prog 80 = some ⟨1, 8, .cell, [.nilFunc]⟩ := by kernel_rfl
@[simp] theorem ty81 : tyOf Tryz.prog 81 = some ⟨1, 8, .cell, [.nilFunc]⟩ := by kernel_rfl
@[simp] theorem ty82 : tyOf Tryz.prog 82 = some ⟨1, 8, .cell, [.nilFunc]⟩ := by kernel_rfl
@[simp] theorem ty83 : tyOf Tryz.prog 83 = some ⟨1, 8, .cell, [.nilFunc]⟩ := by kernel_rfl
@[simp] theorem ty84 : tyOf Tryz.prog 84 = some ⟨1, 8, .cell, [.nilFunc]⟩ := by kernel_rfl
@[simp] theorem ty85 : tyOf Tryz.prog 85 = some ⟨1, 8, .cell, [.nilFunc]⟩ := by kernel_rfl
@[simp] theorem ty88 : tyOf Tryz.prog 88 = some ⟨1, 8, .cell, [.nilFunc]⟩ := by kernel_rfl
@[simp] theorem ty89 : tyOf Tryz.prog 89 = some ⟨1, 8, .cell, [.nilFunc]⟩ := by kernel_rfl
@[simp] theorem ty91 : tyOf Tryz.prog 91 = some ⟨1, 8, .cell, [.nilFunc]⟩ := by kernel_rfl
@[simp] theorem ty92 : tyOf Tryz.prog 92 = some ⟨1, 8, .cell, [.nilFunc]⟩ := by kernel_rfl
@[simp] theorem ty96 : tyOf Tryz.prog 96 = some ⟨1, 8, .cell, [.nilFunc]⟩ := by kernel_rfl
@[simp] theorem ty97 : tyOf Tryz.prog 97 = some ⟨1, 8, .cell, [.nilFunc]⟩ := by kernel_rfl
@[simp] theorem ty98 : tyOf Tryz.prog 98 = some ⟨1, 8, .cell, [.nilFunc]⟩ := by kernel_rfl
@[simp] theorem ty99 : tyOf Tryz.prog 99 = some ⟨1, 8, .cell, [.nilFunc]⟩ := by kernel_rfl
@[simp] theorem ty101 : tyOf Tryz.prog 101 = some ⟨1, 8, .cell, [.nilFunc]⟩ := by kernel_rfl
@[simp] theorem ty103 : tyOf Tryz.prog 103 = some ⟨1, 8, .cell, [.nilFunc]⟩ := by kernel_rfl
@[simp] theorem ty106 : tyOf Tryz.prog 106 = some ⟨1, 8, .cell, [.nilFunc]⟩ := by kernel_rfl
@[simp] theorem ty107 : tyOf Tryz.prog 107 = some ⟨1, 8, .cell, [.nilFunc]⟩ := by kernel_rfl
@[simp] theorem ty108 : tyOf Tryz.prog 108 = some ⟨1, 8, .cell, [.nilFunc]⟩ := by kernel_rfl
@[simp] theorem ty109 : tyOf Tryz.prog 109 = some ⟨1, 8, .cell, [.nilFunc]⟩ := by kernel_rfl
@[simp] theorem ty110 : tyOf Tryz.prog 110 = some ⟨1, 8, .cell, [.nilFunc]⟩ := by kernel_rfl
@[simp] theorem ty111 : tyOf Tryz.prog 111 = some ⟨1, 8, .cell, [.nilFunc]⟩ := by kernel_rfl
@[simp] theorem ty112 : tyOf Tryz.prog 112 = some ⟨1, 8, .cell, [.nilFunc]⟩ := by kernel_rfl
@[simp] theorem ty113 : tyOf Tryz.prog 113 = some ⟨1, 8, .cell, [.nilFunc]⟩ := by kernel_rfl
@[simp] theorem ty114 : tyOf Tryz.prog 114 = some ⟨1, 8, .cell, [.nilFunc]⟩ := by kernel_rfl
@[simp] theorem ty117 : tyOf Tryz.prog 117 = some ⟨1, 8, .cell, [.nilFunc]⟩ := by kernel_rfl
@[simp] theorem ty118 : tyOf Tryz.prog 118 = some ⟨1, 8, .cell, [.nilFunc]⟩ := by kernel_rfl
@[simp] theorem ty119 : tyOf Tryz.prog 119 = some ⟨1, 8, .cell, [.nilFunc]⟩ := by kernel_rfl
@[simp] theorem ty120 : tyOf Tryz.prog 120 = some ⟨1, 8, .cell, [.nilFunc]⟩ := by kernel_rfl
@[simp] theorem ty121 : tyOf Tryz.prog 121 = some ⟨1, 8, .cell, [.nilFunc]⟩ := by kernel_rfl
@[simp] theorem ty122 : tyOf Tryz.prog 122 = some ⟨1, 8, .cell, [.nilFunc]⟩ := by kernel_rfl
@[simp] theorem ty123 : tyOf Tryz.prog 123 = some ⟨1, 8, .cell, [.nilFunc]⟩ := by kernel_rfl
@[simp] theorem ty125 : tyOf Tryz.prog 125 = some ⟨1, 8, .cell, [.nilFunc]⟩ := by kernel_rfl
@[simp] theorem ty126 : tyOf Tryz.prog 126 = some ⟨1, 8, .cell, [.nilFunc]⟩ := by kernel_rfl
@[simp] theorem ty127 : tyOf Tryz.prog 127 = some ⟨1, 8, .cell, [.nilFunc]⟩ := by kernel_rfl
@[simp] theorem ty130 : tyOf Tryz.prog 130 = some ⟨1, 8, .cell, [.nilFunc]⟩ := by kernel_rfl
@[simp] theorem ty133 : tyOf Tryz.prog 133 = some ⟨1, 8, .cell, [.nilFunc]⟩ := by kernel_rfl
@[simp] theorem ty134 : tyOf Tryz.prog 134 = some ⟨1, 8, .cell, [.nilFunc]⟩ := by kernel_rfl
@[simp] theorem ty135 : tyOf Tryz.prog 135 = some ⟨1, 8, .cell, [.nilFunc]⟩ := by kernel_rfl
@[simp] theorem ty139 : tyOf Tryz.prog 139 = some ⟨1, 8, .cell, [.nilFunc]⟩ := by kernel_rfl
@[simp] theorem ty140 : tyOf Tryz.prog 140 = some ⟨1, 8, .cell, [.nilFunc]⟩ := by kernel_rfl
@[simp] theorem ty141 : tyOf Tryz.prog 141 = some ⟨1, 8, .cell, [.nilFunc]⟩ := by kernel_rfl
@[simp] theorem ty142 : tyOf Tryz.prog 142 = some ⟨1, 8, .cell, [.nilFunc]⟩ := by kernel_rfl
@[simp] theorem ty143 : tyOf Tryz.prog 143 = some ⟨1, 8, .cell, [.nilFunc]⟩ := by kernel_rfl
@[simp] theorem ty144 : tyOf Tryz.prog 144 = some ⟨1, 8, .cell, [.nilFunc]⟩ := by kernel_rfl
@[simp] theorem ty145 : tyOf Tryz.prog 145 = some ⟨1, 8, .cell, [.nilFunc]⟩ := by kernel_rfl
@[simp] theorem ty146 : tyOf Tryz.prog 146 = some ⟨1, 8, .cell, [.nilFunc]⟩ := by kernel_rfl
@[simp] theorem ty147 : tyOf Tryz.prog 147 = some ⟨1, 8, .cell, [.nilFunc]⟩ := by kernel_rfl
@[simp] theorem ty148 : tyOf Tryz.prog 148 = some ⟨1, 8, .cell, [.nilFunc]⟩ := by kernel_rfl
@[simp] theorem ty149 : tyOf Tryz.prog 149 = some ⟨1, 8, .cell, [.nilFunc]⟩ := by kernel_rfl
@[simp] theorem ty151 : tyOf Tryz.prog 151 = some ⟨1, 8, .cell, [.nilFunc]⟩ := by kernel_rfl
@[simp] theorem ty154 : tyOf Tryz.prog 154 = some ⟨1, 8, .cell, [.nilFunc]⟩ := by kernel_rfl
@[simp] theorem ty155 : tyOf Tryz.prog 155 = some ⟨1, 8, .cell, [.nilFunc]⟩ := by kernel_rfl
@[simp] theorem ty156 : tyOf Tryz.prog 156 = some ⟨1, 8, .cell, [.nilFunc]⟩ := by kernel_rfl
@[simp] theorem ty157 : tyOf Tryz.prog 157 = some ⟨1, 8, .cell, [.nilFunc]⟩ := by kernel_rfl
@[simp] theorem ty158 : tyOf Tryz.prog 158 = some ⟨1, 8, .cell, [.nilFunc]⟩ := by kernel_rfl
@[simp] theorem ty159 : tyOf Tryz.prog 159 = some ⟨1, 8, .cell, [.nilFunc]⟩ := by kernel_rfl
@[simp] theorem ty160 : tyOf Tryz.prog 160 = some ⟨1, 8, .cell, [.nilFunc]⟩ := by kernel_rfl
@[simp] theorem ty161 : tyOf Tryz.prog 161 = some ⟨1, 8, .cell, [.nilFunc]⟩ := by kernel_rfl
@[simp] theorem ty162 : tyOf Tryz.prog 162 = some ⟨1, 8, .cell, [.nilFunc]⟩ := by kernel_rfl
@[simp] theorem ty163 : tyOf Tryz.prog 163 = some ⟨1, 8, .cell, [.nilFunc]⟩ := by kernel_rfl
@[simp] theorem ty164 : tyOf Tryz.prog 164 = some ⟨1, 8, .cell, [.nilFunc]⟩ := by kernel_rfl
@[simp] theorem ty165 : tyOf Tryz.prog 165 = some ⟨1, 8, .cell, [.nilFunc]⟩ := by kernel_rfl
@[simp] theorem ty166 : tyOf Tryz.prog 166 = some ⟨1, 8, .cell, [.nilFunc]⟩ := by kernel_rfl
@[simp] theorem ty167 : tyOf Tryz.prog 167 = some ⟨1, 8, .cell, [.nilFunc]⟩ := by kernel_rfl
@[simp] theorem ty170 : tyOf Tryz.prog 170 = some ⟨1, 8, .cell, [.nilFunc]⟩ := by kernel_rfl
@[simp] theorem ty171 : tyOf Tryz.prog 171 = some ⟨1, 8, .cell, [.nilFunc]⟩ := by kernel_rfl
@[simp] theorem ty172 : tyOf Tryz.prog 172 = some ⟨1, 8, .cell, [.nilFunc]⟩ := by kernel_rfl
@[simp] theorem ty174 : tyOf Tryz.prog 174 = some ⟨1, 8, .cell, [.nilFunc]⟩ := by kernel_rfl
@[simp] theorem ty175 : tyOf Tryz.prog 175 = some ⟨1, 8, .cell, [.nilFunc]⟩ := by kernel_rfl
@[simp] theorem ty176 : tyOf Tryz.prog 176 = some ⟨1, 8, .cell, [.nilFunc]⟩ := by kernel_rfl
@[simp] theorem ty177 : tyOf Tryz.prog 177 = some ⟨1, 8, .cell, [.nilFunc]⟩ := by kernel_rfl
@[simp] theorem ty178 : tyOf Tryz.prog 178 = some ⟨1, 8, .cell, [.nilFunc]⟩ := by kernel_rfl
@[simp] theorem ty179 : tyOf Tryz.prog 179 = some ⟨1, 8, .cell, [.nilFunc]⟩ := by kernel_rfl
@[simp] theorem ty180 : tyOf Tryz.prog 180 = some ⟨1, 8, .cell, [.nilFunc]⟩ := by kernel_rfl
@[simp] theorem ty181 : tyOf Tryz.prog 181 = some ⟨1, 8, .cell, [.nilFunc]⟩ := by kernel_rfl
@[simp] theorem ty182 : tyOf Tryz.prog 182 = some ⟨1, 8, .cell, [.nilFunc]⟩ := by kernel_rfl
@[simp] theorem ty183 : tyOf Tryz.prog 183 = some ⟨1, 8, .cell, [.nilFunc]⟩ := by kernel_rfl
@[simp] theorem ty184 : tyOf Tryz.prog 184 = some ⟨1, 8, .cell, [.nilFunc]⟩ := by kernel_rfl
@[simp] theorem ty185 : tyOf Tryz.prog 185 = some ⟨1, 8, .cell, [.nilFunc]⟩ := by kernel_rfl
@[simp] theorem ty186 : tyOf Tryz.prog 186 = some ⟨1, 8, .cell, [.nilFunc]⟩ := by kernel_rfl
@[simp] theorem ty187 : tyOf Tryz.prog 187 = some ⟨1, 8, .cell, [.nilFunc]⟩ := by kernel_rfl
@[simp] theorem ty189 : tyOf Tryz.prog 189 = some ⟨1, 8, .cell, [.nilFunc]⟩ := by kernel_rfl
@[simp] theorem ty190 : tyOf Tryz.prog 190 = some ⟨1, 8, .cell, [.nilFunc]⟩ := by kernel_rfl
@[simp] theorem ty191 : tyOf Tryz.prog 191 = some ⟨1, 8, .cell, [.nilFunc]⟩ := by kernel_rfl
@[simp] theorem ty193 : tyOf Tryz.prog 193 = some ⟨1, 8, .cell, [.nilFunc]⟩ := by kernel_rfl
@[simp] theorem ty199 : tyOf Tryz.prog 199 = some ⟨1, 8, .cell, [.nilFunc]⟩ := by kernel_rfl
@[simp] theorem ty201 : tyOf Tryz.prog 201 = some ⟨1, 8, .cell, [.nilFunc]⟩ := by kernel_rfl
@[simp] theorem ty202 : tyOf Tryz.prog 202 = some ⟨1, 8, .cell, [.nilFunc]⟩ := by kernel_rfl
@[simp] theorem ty203 : tyOf Tryz.prog 203 = some ⟨1, 8, .cell, [.nilFunc]⟩ := by kernel_rfl
@[simp] theorem ty204 : tyOf Tryz.prog 204 = some ⟨1, 8, .cell, [.nilFunc]⟩ := by kernel_rfl
@[simp] theorem ty205 : tyOf Tryz.prog 205 = some ⟨1, 8, .cell, [.nilFunc]⟩ := by kernel_rfl
@[simp] theorem ty213 : tyOf Tryz.prog 213 = some ⟨1, 8, .cell, [.nilFunc]⟩ := by kernel_rfl
end Go.Proofs.YtglhjjokijdagaaGreat.Sh

/- The lies, handed on one by one. -/
namespace Go.Proofs.YtglhjjokijdagaaGreat.Sh
open Go Go.RowKit

def liesP (g : Gm) (r : List Ce) (a n p : Nat) : List Li := ((List.range p).filter fun t => t != kOf g n a).map fun t => lieAt g r a n t
def liesN (g : Gm) (r : List Ce) (a n : Nat) : List Li := liesP g r a n (kl g a)
def liesL (g : Gm) (r : List Ce) (a : Nat) : List Li := (List.range r.length).flatMap (liesN g r a)
def itemsL (l : List Li) : List (List SV) := l.map fun x => [liS x]

def liesTo (g : Gm) (r : List Ce) (a n : Nat) : List Li := (List.range n).flatMap (liesN g r a)
theorem liesTo_succ (g : Gm) (r : List Ce) (a n : Nat) : liesTo g r a (n + 1) = liesTo g r a n ++ liesN g r a n := by
  unfold liesTo; rw [List.range_succ, List.flatMap_append]; simp
theorem liesTo_pre (g : Gm) (r : List Ce) (a : Nat) {n : Nat} (h : n ≤ r.length) : liesTo g r a n <+: liesL g r a := by
  unfold liesTo liesL
  obtain ⟨d, hd⟩ : ∃ d, r.length = n + d := ⟨r.length - n, by omega⟩
  rw [hd, List.range_add, List.flatMap_append]
  exact List.prefix_append _ _
theorem liesP_own {g : Gm} {r : List Ce} {a n p : Nat} (h : p = kOf g n a) : liesP g r a n (p + 1) = liesP g r a n p := by
  unfold liesP; rw [List.range_succ, List.filter_append]; simp [h]
theorem liesP_step {g : Gm} {r : List Ce} {a n p : Nat} (h : p ≠ kOf g n a) : liesP g r a n (p + 1) = liesP g r a n p ++ [lieAt g r a n p] := by
  unfold liesP; rw [List.range_succ, List.filter_append]; simp [h]
theorem liesP_pre (g : Gm) (r : List Ce) (a n : Nat) {p : Nat} (h : p ≤ kl g a) : liesP g r a n p <+: liesN g r a n := by
  unfold liesN liesP
  obtain ⟨d, hd⟩ : ∃ d, kl g a = p + d := ⟨kl g a - p, by omega⟩
  rw [hd, List.range_add, List.filter_append, List.map_append]
  exact List.prefix_append _ _
theorem lies_pre (g : Gm) (r : List Ce) (a : Nat) {n p : Nat} (hn : n < r.length) (h : p ≤ kl g a) : liesTo g r a n ++ liesP g r a n p <+: liesL g r a := by
  have h1 := liesTo_pre g r a (n := n + 1) hn
  rw [liesTo_succ] at h1
  obtain ⟨t, ht⟩ := liesP_pre g r a n h
  rw [← ht, ← List.append_assoc] at h1
  exact (List.prefix_append _ _).trans h1

set_option maxRecDepth 20000 in
set_option maxHeartbeats 1000000 in
theorem lies1_it (g : Gm) (r : List Ce) (h : Play g r) (a : Nat) (ha : a < g.agents.length) : IterS Tryz.prog 89 [.rp true (rowTb g r), .rp true [.int .i64 (a : Int)]] (itemsL (liesL g r a)) := by
  have hf := h.fine
  obtain ⟨h1, -, -, h4, h5⟩ := sizeOk_all hf.sz
  have hrl := h.good.2.2.1
  have hpl := profs_length g
  have hk4 := h4 _ (List.getElem_mem ha)
  have hkl := kl_eq ha
  refine iterS2 Tryz.func89 rfl (by rfl) (by kernel_rfl) (by rfl) (by kernel_rfl) ?_
  intro v J S base hy hJ0
  simp -dsimp -implicitDefEqProofs [Tryz.f89]
  refine eCall.of (places_s g r) (by simp) ?_
  simp -dsimp -implicitDefEqProofs
  have hstab : ∀ pre, pre <+: itemsL (liesL g r a) → ∀ w0 ok0, base w0 ok0 → Stable w0.Z (J pre) := fun pre hpre w0 ok0 hb => by
    rcases List.eq_nil_or_concat pre with e | ⟨p, x, e⟩
    · subst e; exact hJ0 w0 ok0 hb
    · rw [List.concat_eq_append] at e
      subst e; exact (hy p x hpre).st1 w0 ok0 hb
  have hpre : ∀ n, n ≤ r.length → itemsL (liesTo g r a n) <+: itemsL (liesL g r a) := fun n hn => by
    obtain ⟨t, ht⟩ := liesTo_pre g r a hn
    exact ⟨itemsL t, by rw [← ht]; simp [itemsL]⟩
  refine sw_range_e [0] (fun k => (SS.of [(1, .v (.one (.rp true (rowTb g r)))), (2, .v (.one (.rp true [.int .i64 (a : Int)]))), (3, .v (.one (.mp 0 0))), (11, .v (.one (.fn 136 [.rp true (rowTb g r)])))] [(0, ⟨118, [.val v]⟩)] 1).wx ⟨[], J (itemsL (liesTo g r a (min k r.length))), base⟩)
    (places1_it g r (by omega)) (by simp) (by kernel_rfl) (fun it hit => by obtain ⟨i, -, rfl⟩ := List.mem_map.1 hit; rfl) (Le.toX (by simp) (by simp) (by simp) (by simp [liesTo, itemsL])) (fun k => ⟨rfl, rfl, ?_, by simp, rfl, rfl⟩) (fun k w0 ok0 hb => hstab _ (hpre _ (Nat.min_le_right _ _)) w0 ok0 hb) ?_ ?_
  · intro o ob ho
    simp at ho
    simp [ho]
  · intro n hn
    rw [itemsP_len, hpl, ← hrl] at hn
    have hsp : Spot g r a n := ⟨h, ha, hn⟩
    obtain ⟨k1, k2⟩ := hsp.kof
    have al : a < (atG g n).length := by rw [atG_length]; exact ha
    have k1' : (atG g n)[a] = (kOf g n a : Int) := by rw [List.getElem?_eq_getElem al] at k1; exact Option.some.inj k1
    have hpn : (profs g)[n]?.getD [] = atG g n := by rw [profs_at (by omega)]; rfl
    have hpn' : itemsP (profs g) = itemsP (profs g) := rfl
    have hP := hsp.pair hn k2
    have hmz := hP.has
    have hz := (cap_mz (show mz (hasQ r[n] g.agents[a].kinds[kOf g n a] a) ≤ 2048 by omega)).2
    have hal := atG_length g n
    have e1 : min n r.length = n := by omega
    have e2 : min (n + 1) r.length = n + 1 := by omega
    rw [itemsP_get]
    simp -dsimp -implicitDefEqProofs [itemP, hpn, al, k1', hn, e1, e2]
    refine eCall.of (rhas_s g r r[n] a (kOf g n a) ha k2 hP) (by simp) ?_
    simp -dsimp -implicitDefEqProofs [frQ, ng, ha]
    have hpw : ∀ p, p ≤ kl g a → itemsL (liesTo g r a n ++ liesP g r a n p) <+: itemsL (liesL g r a) := fun p hp => by
      obtain ⟨t, ht⟩ := lies_pre g r a hn hp
      exact ⟨itemsL t, by rw [← ht]; simp [itemsL]⟩
    refine sw_loop_e (fun p : {p : Nat × Nat // p.1 ≤ kl g a} => (SS.of [(1, .v (.one (.rp true (rowTb g r)))), (2, .v (.one (.rp true [.int .i64 (a : Int)]))), (3, .v (.one (.mp 0 0))), (5, .v (.one (intsS (atG g n)))), (6, I .i64 (kOf g n a)), (7, .v (.one (.mp 1 0))), (35, I .i64 (kl g a)), (36, I .i64 p.1.1)]
        [(0, ⟨118, [.val v]⟩), (1, ⟨40, rowFr (frQ (hasQ r[n] g.agents[a].kinds[kOf g n a] a))⟩)] (p.1.2 + 2)).wx ⟨[], J (itemsL (liesTo g r a n ++ liesP g r a n p.1.1)), base⟩)
      (fun p => kl g a - p.1.1) ⟨(0, 0), Nat.zero_le _⟩ (by kernel_rfl) (Le.toX (by simp [hkl]) (by simp [frQ, ng]) (by simp) (by simp [liesP, e1])) ?_
    rintro ⟨⟨t, c⟩, ht⟩
    simp only at ht
    by_cases a3 : t < g.agents[a].kinds.length
    · have wt : IntKind.i64.wrap ((t : Int) + 1) = ((t + 1 : Nat) : Int) := by rw [wrap_i64 _ (by omega) (by omega)]; rfl
      by_cases c1 : t = kOf g n a
      · subst c1
        simp -dsimp -implicitDefEqProofs [hkl, a3]
        exact Again.by ⟨(kOf g n a + 1, c), by omega⟩ (Le.toX (by simp [wt, hkl]) (by simp) (by simp) (by simp [liesP_own])) (by simp; omega)
      · have c1' : ¬ (t : Int) = (kOf g n a : Int) := by omega
        have hgm := hsp.gain_mz a3
        have hgz := (cap_mz (show mz (gainQ g r a n t) ≤ 2048 by omega))
        obtain ⟨t1, t2⟩ := hsp.toAt a3
        have hP2 := hsp.pair t2 k2
        have hmz2 := hP2.has
        have hz2 := (cap_mz (show mz (hasQ r[toAt g n a t] g.agents[a].kinds[kOf g n a] a) ≤ 2048 by omega)).2
        have hsb := fsub_s (frQ (hasQ r[toAt g n a t] g.agents[a].kinds[kOf g n a] a)) (frQ (hasQ r[n] g.agents[a].kinds[kOf g n a] a)) (frQ_ok (by omega)) (frQ_ok (by omega))
        rw [fix_frQ hz2, fix_frQ hz, show hasQ r[toAt g n a t] g.agents[a].kinds[kOf g n a] a - hasQ r[n] g.agents[a].kinds[kOf g n a] a = gainQ g r a n t by unfold gainQ; rw [ceAt_eq t2, ceAt_eq hn, kdAt_eq ha k2], hgz.1] at hsb
        have hyi := hy (itemsL (liesTo g r a n ++ liesP g r a n t)) [liS (lieAt g r a n t)] (by
          have := hpw (t + 1) (by omega)
          rw [liesP_step c1, ← List.append_assoc] at this
          simpa [itemsL] using this)
        have hnx : itemsL (liesTo g r a n ++ liesP g r a n t) ++ [[liS (lieAt g r a n t)]] = itemsL (liesTo g r a n ++ liesP g r a n (t + 1)) := by rw [liesP_step c1]; simp [itemsL]
        rw [hnx] at hyi
        simp -dsimp -implicitDefEqProofs [hkl, a3, c1']
        refine eCall.of (after_s g r a n t hsp a3) (by simp) ?_
        simp -dsimp -implicitDefEqProofs
        refine eCall.of (rhas_s g r _ a (kOf g n a) ha k2 hP2) (by simp) ?_
        simp -dsimp -implicitDefEqProofs
        refine eCall.of hsb (by simp [frQ, ng]) ?_
        simp -dsimp -implicitDefEqProofs [show (atG g n).length * 8 ≤ 140737488355328 by omega, show (atG g n).length ≤ 140737488355328 by omega]
        refine ⟨.inr (by kernel_rfl), ?_⟩
        refine spec_yield (v := v) (args := [liS (lieAt g r a n t)]) (C1 := J (itemsL (liesTo g r a n ++ liesP g r a n (t + 1)))) (C2 := S) (by simp) (by simpa using hyi) (by simp [lieAt, frQ, ng]) ?_ ?_
        · simp -dsimp -implicitDefEqProofs
          exact Again.by ⟨(t + 1, c + 1), by omega⟩ (Le.toX (by simp [wt, hkl]) (by simp) (by simp) (by simp)) (by simp; omega)
        · simp -dsimp -implicitDefEqProofs
    have ht2 : t = kl g a := by omega
    subst ht2
    have e3 : liesTo g r a (n + 1) = liesTo g r a n ++ liesP g r a n (kl g a) := liesTo_succ g r a n
    simp -dsimp -implicitDefEqProofs [e2, e3]
  · simp -dsimp -implicitDefEqProofs [itemsP_len, hpl, ← hrl]
    exact .inl rfl
end Go.Proofs.YtglhjjokijdagaaGreat.Sh

/- The reference's Gains. -/
namespace Go.Proofs.YtglhjjokijdagaaGreat.Sh
open Go Go.RowKit

def bst (b l : Li) : Li := if b.gain < l.gain then l else b
def bestT (g : Gm) (r : List Ce) (a n : Nat) (z : Li) (t : Nat) : Li := (List.range t).foldl (fun b t => bst b (lieAt g r a n t)) z
def bestN (g : Gm) (r : List Ce) (a n : Nat) : Li := (List.range n).foldl (fun b n => bestT g r a n b (kl g a)) (noLi a 0)
def gainsL (g : Gm) (r : List Ce) : List Li := (List.range g.agents.length).map fun (a : Nat) => bestN g r a r.length

theorem bestT_succ (g : Gm) (r : List Ce) (a n : Nat) (z : Li) (t : Nat) : bestT g r a n z (t + 1) = bst (bestT g r a n z t) (lieAt g r a n t) := by
  unfold bestT; rw [List.range_succ, List.foldl_append]; rfl
theorem bestN_succ (g : Gm) (r : List Ce) (a n : Nat) : bestN g r a (n + 1) = bestT g r a n (bestN g r a n) (kl g a) := by
  unfold bestN; rw [List.range_succ, List.foldl_append]; rfl

theorem bestT_mz {g : Gm} {r : List Ce} {a n : Nat} (h : Spot g r a n) {z : Li} (hz : mz z.gain ≤ 445) : ∀ t, t ≤ kl g a → mz (bestT g r a n z t).gain ≤ 445
  | 0, _ => hz
  | t + 1, ht => by
    rw [bestT_succ, bst]
    split
    · exact h.gain_mz (by rw [← kl_eq h.ha]; omega)
    · exact bestT_mz h hz t (by omega)
theorem bestN_mz {g : Gm} {r : List Ce} {a : Nat} (h : Play g r) (ha : a < g.agents.length) : ∀ n, n ≤ r.length → mz (bestN g r a n).gain ≤ 445
  | 0, _ => by show mz 0 ≤ 445; have : mz 0 = 1 := by decide +kernel
               omega
  | n + 1, hn => by
    rw [bestN_succ]
    exact bestT_mz ⟨h, ha, hn⟩ (bestN_mz h ha n (by omega)) _ (Nat.le_refl _)

instance : RowF 7 rowLi := ⟨fun _ => rfl, fun x s h => by simp at h; rcases h with rfl | rfl | rfl | rfl | rfl | rfl | rfl <;> rfl⟩

end Go.Proofs.YtglhjjokijdagaaGreat.Sh

/- The lies in order: the first that gains, and the best one. No program in sight. -/
namespace Go.Proofs.YtglhjjokijdagaaGreat.Sh
open Go Go.RowKit

theorem flatMap_split {α β : Type} (f : α → List β) : ∀ (l : List α) {pre : List β} {x : β} {post : List β}, l.flatMap f = pre ++ x :: post → ∃ l1 y l2 p q, l = l1 ++ y :: l2 ∧ f y = p ++ x :: q ∧ pre = l1.flatMap f ++ p
  | [], pre, x, post, h => by simp at h
  | y :: l, pre, x, post, h => by
    rw [List.flatMap_cons] at h
    rcases List.append_eq_append_iff.1 h with ⟨c, e1, e2⟩ | ⟨c, e1, e2⟩
    · obtain ⟨l1, z, l2, p, q, h1, h2, h3⟩ := flatMap_split f l e2
      exact ⟨y :: l1, z, l2, p, q, by rw [h1]; rfl, h2, by rw [e1, h3, List.flatMap_cons, List.append_assoc]⟩
    · cases c with
      | nil =>
        rw [List.nil_append] at e2
        obtain ⟨l1, z, l2, p, q, h1, h2, h3⟩ := flatMap_split f l (pre := []) (by rw [List.nil_append]; exact e2.symm)
        exact ⟨y :: l1, z, l2, p, q, by rw [h1]; rfl, h2, by rw [List.flatMap_cons, List.append_assoc, ← h3, e1, List.append_nil, List.append_nil]⟩
      | cons c0 c =>
        injection e2 with e2 e3
        subst e2
        exact ⟨[], y, l, pre, c, rfl, e1, rfl⟩

theorem range_split {N : Nat} {l1 l2 : List Nat} {n : Nat} (h : List.range N = l1 ++ n :: l2) : l1 = List.range n ∧ n < N := by
  have hl : l1.length < N := by have := congrArg List.length h; simp at this; omega
  have h1 : n = l1.length := by
    have : (List.range N)[l1.length]? = some n := by rw [h]; simp
    rw [List.getElem?_range hl] at this
    exact (Option.some.inj this).symm
  refine ⟨?_, by omega⟩
  have : (List.range N).take l1.length = l1 := by rw [h]; simp
  rw [← this, List.take_range, h1]
  congr 1; omega

theorem gain_own {g : Gm} {r : List Ce} {a n : Nat} (h : Spot g r a n) : gainQ g r a n (kOf g n a) = 0 := by
  obtain ⟨k1, k2⟩ := h.kof
  have al : a < (atG g n).length := by rw [atG_length]; exact h.ha
  have hn := h.hn
  have hrl := h.play.good.2.2.1
  have e : putP (atG g n) a (kOf g n a) = atG g n := by
    unfold putP
    rw [if_pos (by omega)]
    apply List.ext_getElem?
    intro i
    rw [List.getElem?_set]
    split
    · rename_i hi
      have : a = i := by simpa using hi
      subst this
      simp only [Int.toNat_natCast, al, if_true]
      exact k1.symm
    · rfl
  have e2 : toAt g n a (kOf g n a) = n := by
    unfold toAt
    rw [e, whr_at (by omega)]
    rfl
  unfold gainQ
  rw [e2]
  exact Rat.sub_self ..

theorem mem_liesP {g : Gm} {r : List Ce} {a n p t : Nat} (ht : t < p) (h : t ≠ kOf g n a) : lieAt g r a n t ∈ liesP g r a n p :=
  List.mem_map.2 ⟨t, List.mem_filter.2 ⟨List.mem_range.2 ht, by simpa using h⟩, rfl⟩
theorem mem_liesTo {g : Gm} {r : List Ce} {a n N t : Nat} (hn : n < N) (ht : t < kl g a) (h : t ≠ kOf g n a) : lieAt g r a n t ∈ liesTo g r a N :=
  List.mem_flatMap.2 ⟨n, List.mem_range.2 hn, mem_liesP ht h⟩

theorem noP {g : Gm} {r : List Ce} {a n p : Nat} (hs : Spot g r a n) (h : ∀ y ∈ liesP g r a n p, ¬ 0 < y.gain) : ∀ t, t < p → ¬ 0 < gainQ g r a n t := by
  intro t ht
  by_cases e : t = kOf g n a
  · rw [e, gain_own hs]; exact Rat.lt_irrefl
  · exact h _ (mem_liesP ht e)

theorem lies_none {g : Gm} {r : List Ce} {a : Nat} (h : Play g r) (ha : a < g.agents.length) (h0 : ∀ y ∈ liesL g r a, ¬ 0 < y.gain) : NoA g r a := by
  intro n hn
  exact noP ⟨h, ha, hn⟩ (fun y hy => h0 y (List.mem_flatMap.2 ⟨n, List.mem_range.2 hn, hy⟩))

theorem lies_first {g : Gm} {r : List Ce} {a : Nat} (h : Play g r) (ha : a < g.agents.length) {pre post : List Li} {x : Li} (e : liesL g r a = pre ++ x :: post) (hp : ∀ y ∈ pre, ¬ 0 < y.gain) (hx : 0 < x.gain) (h0 : ∀ a', a' < a → NoA g r a') :
    ∃ n t, FirstAt g r a n t ∧ x = lieAt g r a n t := by
  obtain ⟨l1, n, l2, p, q, e1, e2, rfl⟩ := flatMap_split _ _ e
  obtain ⟨rfl, hn⟩ := range_split e1
  unfold liesN liesP at e2
  obtain ⟨l3, l4, e3, rfl, e4⟩ := List.map_eq_append_iff.1 e2
  obtain ⟨t, l5, rfl, rfl, rfl⟩ := List.map_eq_cons_iff.1 e4
  obtain ⟨m1, m2, e5, rfl, e6⟩ := List.filter_eq_append_iff.1 e3
  obtain ⟨m3, m4, rfl, h5, h6, rfl⟩ := List.filter_eq_cons_iff.1 e6
  rw [← List.append_assoc] at e5
  obtain ⟨e7, ht⟩ := range_split e5
  refine ⟨n, t, ⟨ha, hn, ht, hx, h0, fun n' hn' => noP ⟨h, ha, by omega⟩ (fun y hy => hp y (List.mem_append_left _ (List.mem_flatMap.2 ⟨n', List.mem_range.2 hn', hy⟩))), ?_⟩, rfl⟩
  refine noP ⟨h, ha, hn⟩ (fun y hy => ?_)
  obtain ⟨t', ht', rfl⟩ := List.mem_map.1 hy
  obtain ⟨g1, g2⟩ := List.mem_filter.1 ht'
  rw [← e7] at g1
  rcases List.mem_append.1 g1 with g1 | g1
  · exact hp _ (List.mem_append_right _ (List.mem_map.2 ⟨t', List.mem_filter.2 ⟨g1, g2⟩, rfl⟩))
  · exact absurd g2 (h5 _ g1)

theorem mem_lies {g : Gm} {r : List Ce} {a : Nat} (h : Play g r) (ha : a < g.agents.length) {x : Li} (hx : x ∈ liesL g r a) : mz x.gain ≤ 445 ∧ x.prof.length = g.agents.length := by
  obtain ⟨n, hn, hx⟩ := List.mem_flatMap.1 hx
  obtain ⟨t, ht, rfl⟩ := List.mem_map.1 hx
  have hn := List.mem_range.1 hn
  have ht := List.mem_range.1 (List.mem_filter.1 ht).1
  rw [kl_eq ha] at ht
  exact ⟨Spot.gain_mz ⟨h, ha, hn⟩ ht, atG_length g n⟩

/-- The first of a row that none behind it is ahead of. -/
def mst {α : Type} (ahd : α → α → Bool) (b : Option α) (x : α) : Option α := match b with
  | none => some x
  | some y => if ahd x y = true then some x else some y
def gtL (x y : Li) : Bool := decide (y.gain < x.gain)
def orNo (a : Nat) (m : Option Li) : Li := match m with
  | none => noLi a 0
  | some l => if 0 < l.gain then l else noLi a 0
def topL (g : Gm) (r : List Ce) (a : Nat) : Option Li := (liesL g r a).foldl (mst gtL) none

theorem bst_mst (a : Nat) : ∀ (l : List Li) (m : Option Li), l.foldl bst (orNo a m) = orNo a (l.foldl (mst gtL) m)
  | [], m => rfl
  | x :: l, m => by
    rw [List.foldl_cons, List.foldl_cons, ← bst_mst a l]
    congr 1
    cases m with
    | none => rfl
    | some b =>
      by_cases c1 : 0 < b.gain
      · by_cases c2 : b.gain < x.gain
        · have : 0 < x.gain := by grind
          simp only [orNo, mst, bst, gtL, c1, c2, this, if_true, decide_true]
        · simp only [orNo, mst, bst, gtL, c1, c2, if_true, if_false, decide_false, Bool.false_eq_true]
      · by_cases c2 : b.gain < x.gain
        · simp only [orNo, mst, bst, gtL, c1, c2, noLi, if_true, if_false, decide_true]
        · have : ¬ 0 < x.gain := by grind
          simp only [orNo, mst, bst, gtL, c1, c2, this, noLi, if_false, decide_false, Bool.false_eq_true]

theorem bestT_lies {g : Gm} {r : List Ce} {a n : Nat} (hs : Spot g r a n) {z : Li} (hz : 0 ≤ z.gain) : ∀ t, bestT g r a n z t = (liesP g r a n t).foldl bst z ∧ 0 ≤ (bestT g r a n z t).gain
  | 0 => ⟨rfl, hz⟩
  | t + 1 => by
    obtain ⟨h1, h2⟩ := bestT_lies hs hz t
    rw [bestT_succ]
    by_cases e : t = kOf g n a
    · have : bst (bestT g r a n z t) (lieAt g r a n t) = bestT g r a n z t := by
        unfold bst
        rw [if_neg]
        show ¬ _ < gainQ g r a n t
        rw [e, gain_own hs]
        rw [e] at h2
        exact Rat.not_lt.2 h2
      rw [this, liesP_own e]
      exact ⟨h1, h2⟩
    · rw [liesP_step e, List.foldl_append, ← h1]
      refine ⟨rfl, ?_⟩
      unfold bst
      split
      · rename_i c
        exact Rat.le_of_lt (by grind)
      · exact h2

theorem bestN_lies {g : Gm} {r : List Ce} {a : Nat} (h : Play g r) (ha : a < g.agents.length) : ∀ n, n ≤ r.length → bestN g r a n = (liesTo g r a n).foldl bst (noLi a 0) ∧ 0 ≤ (bestN g r a n).gain
  | 0, _ => ⟨rfl, by show (0 : Rat) ≤ 0; exact Rat.le_refl⟩
  | n + 1, hn => by
    obtain ⟨h1, h2⟩ := bestN_lies h ha n (by omega)
    obtain ⟨h3, h4⟩ := bestT_lies ⟨h, ha, hn⟩ h2 (kl g a)
    rw [bestN_succ, liesTo_succ, List.foldl_append, ← h1]
    exact ⟨h3, h4⟩

theorem best_top {g : Gm} {r : List Ce} {a : Nat} (h : Play g r) (ha : a < g.agents.length) : bestN g r a r.length = orNo a (topL g r a) := by
  rw [(bestN_lies h ha r.length (Nat.le_refl _)).1]
  exact bst_mst a _ none
end Go.Proofs.YtglhjjokijdagaaGreat.Sh

/- The first of a row that none behind it is ahead of, as the program finds it. -/
namespace Go.Proofs.YtglhjjokijdagaaGreat.Sh
open Go Go.RowKit

def rowO : Option Li → List S1
  | none => [.int .i64 0, .int .i64 0, .int .i64 0, .nils, .bool false, .nils, .nils]
  | some l => rowLi l
@[simp] theorem rowO_none : rowO none = [.int .i64 0, .int .i64 0, .int .i64 0, .nils, .bool false, .nils, .nils] := rfl
@[simp] theorem rowO_some (l : Li) : rowO (some l) = rowLi l := rfl
def rowM : Option Rat → List S1
  | none => [.bool false, .nils, .nils]
  | some q => rowFr (frQ q)
@[simp] theorem rowM_none : rowM none = [.bool false, .nils, .nils] := rfl
@[simp] theorem rowM_some (q : Rat) : rowM (some q) = rowFr (frQ q) := rfl
def itemsQ (l : List Rat) : List (List SV) := l.map fun q => [fS q]
theorem mst_some {α : Type} (ahd : α → α → Bool) (m : Option α) (x : α) : (mst ahd m x).isSome = true := by
  unfold mst; split; rfl; split <;> rfl
theorem mst_mem {α : Type} (ahd : α → α → Bool) : ∀ (l : List α) (m : Option α) {y : α}, l.foldl (mst ahd) m = some y → y ∈ l ∨ m = some y
  | [], m, y, h => .inr h
  | x :: l, m, y, h => by
    rcases mst_mem ahd l _ h with h | h
    · exact .inl (List.mem_cons_of_mem _ h)
    · unfold mst at h
      split at h
      · cases h; exact .inl (List.mem_cons_self ..)
      · split at h
        · cases h; exact .inl (List.mem_cons_self ..)
        · exact .inr h

set_option maxRecDepth 20000 in
theorem mostL_s {f f2 : Nat} {caps : List S1} (L : List Li) (hit : IterS Tryz.prog f caps (itemsL L)) (ahd : Li → Li → Bool) (hf : ∀ x ∈ L, ∀ y ∈ L, CallsS Tryz.prog f2 [liS x, liS y] (B (ahd x y))) :
    CallsS Tryz.prog 68 [.one (.fn f caps), .one (.fn f2 [])] (.tup [.agg (rowO (L.foldl (mst ahd) none)), .one (.bool (L.foldl (mst ahd) none).isSome)]) := by
  have hil : (itemsL L).length = L.length := by simp [itemsL]
  have hfull : ∀ {b : Nat}, L.length ≤ b → L.take b = L := fun h => List.take_of_length_le h
  refine calls_sep 1 (fun _ : Unit => SS.of [(4, .v (.one (.mp 1 0))), (5, .v (.one (.mp 2 0)))] [(1, ⟨45, rowO (L.foldl (mst ahd) none)⟩), (2, ⟨4, [.bool (L.foldl (mst ahd) none).isSome]⟩)] 3) Tryz.func68 rfl (by rfl) (by rfl) (by rfl) (by kernel_rfl) (by kernel_rfl) (by rfl) (by kernel_rfl) (by kernel_rfl) (by simp) (by simp) ?_ ?_
  rotate_left
  · intro _
    cases hm : L.foldl (mst ahd) none with
    | none => simp -dsimp -implicitDefEqProofs
    | some y => simp -dsimp -implicitDefEqProofs
  simp -dsimp -implicitDefEqProofs
  refine sw_range_e [0, 1, 2] (fun k => SS.of [(3, .v (.one (.mp 0 0))), (4, .v (.one (.mp 1 0))), (5, .v (.one (.mp 2 0))), (7, .v (.one (.fn f caps)))] [(0, ⟨121, [.fn f2 []]⟩), (1, ⟨45, rowO ((L.take k).foldl (mst ahd) none)⟩), (2, ⟨4, [.bool ((L.take k).foldl (mst ahd) none).isSome]⟩)] 3)
    hit (by simp) (by kernel_rfl) (fun it hit => by obtain ⟨i, -, rfl⟩ := List.mem_map.1 hit; rfl) (Le.to (by simp) (by simp) (by simp)) (fun k => ⟨rfl, rfl, ?_, ?_, rfl, rfl⟩) (fun k w0 ok0 hb => stable_nil) ?_ ?_
  · intro o ob ho
    simp at ho
    grind
  · cases hm : (L.take k).foldl (mst ahd) none <;> simp
  · intro n hn
    rw [hil] at hn
    have hx : (itemsL L)[n] = [liS L[n]] := by simp [itemsL]
    rw [hx, List.take_add_one, List.getElem?_eq_getElem hn, Option.toList_some, List.foldl_append]
    cases hm : (L.take n).foldl (mst ahd) none with
    | none =>
      simp -dsimp -implicitDefEqProofs [mst]
    | some y =>
      have hy : y ∈ L := by
        rcases mst_mem ahd _ _ hm with h | h
        · exact List.mem_of_mem_take h
        · cases h
      simp -dsimp -implicitDefEqProofs
      refine eCall.of (hf _ (List.getElem_mem hn) y hy) (by simp) ?_
      cases e : ahd L[n] y <;> simp -dsimp -implicitDefEqProofs [mst, e]
  · rw [hil]
    simp only [hfull (Nat.le_refl _)]
    simp -dsimp -implicitDefEqProofs
    exact Cut.by () (Le.to (by simp) (by simp) (by simp))

end Go.Proofs.YtglhjjokijdagaaGreat.Sh

/- The program's Truthful. -/
namespace Go.Proofs.YtglhjjokijdagaaGreat.Sh
open Go Go.RowKit

set_option maxRecDepth 20000 in
theorem rtruth_s (g : Gm) (r : List Ce) (h : Play g r) (l : Li) (ok : Bool) (hl : isTr g r l ok) : CallsS Tryz.prog 10 [gmS g, ruS r] (.tup [liS l, .one (.bool ok)]) := by
  have hf := h.fine
  obtain ⟨h1, -, -, h4, h5⟩ := sizeOk_all hf.sz
  refine calls Tryz.func10 rfl (by rfl) (by rfl) (by kernel_rfl) ?_
  simp -dsimp -implicitDefEqProofs [Tryz.f10]
  refine eCall.of (open_s g r h.seen h.good) (by simp) ?_
  simp -dsimp -implicitDefEqProofs
  refine sw_loop_e (fun p : {p : Nat // p ≤ g.agents.length ∧ ∀ a, a < p → NoA g r a} => SS.of [(4, .v (.one (.mp 2 0))), (5, .v (.one (.mp 3 0))), (6, .v (.one (.mp 4 0))), (21, I .i64 g.agents.length), (22, I .i64 p.1)] [(2, ⟨45, rowO none⟩), (3, ⟨4, [.bool false]⟩), (4, ⟨94, rowTb g r⟩)] 5)
    (fun p => g.agents.length - p.1) ⟨0, Nat.zero_le _, fun a ha => absurd ha (by simp)⟩ (by kernel_rfl) (Le.to (by simp) (by simp) (by simp)) ?_
  rintro ⟨a, hi, hp⟩
  by_cases a1 : a < g.agents.length
  · have wa : IntKind.i64.wrap ((a : Int) + 1) = ((a + 1 : Nat) : Int) := by rw [wrap_i64 _ (by omega) (by omega)]; rfl
    have hil : (itemsL (liesL g r a)).length = (liesL g r a).length := by simp [itemsL]
    simp -dsimp -implicitDefEqProofs [a1]
    refine eCall.of (lies_s g r a) (by simp) ?_
    simp -dsimp -implicitDefEqProofs
    refine sw_range_f [2, 3, 4] (fun _ => SS.of [(4, .v (.one (.mp 2 0))), (5, .v (.one (.mp 3 0))), (6, .v (.one (.mp 4 0))), (21, I .i64 g.agents.length), (22, I .i64 a), (27, .v (.one (.fn 89 [.rp true (rowTb g r), .rp true [.int .i64 (a : Int)]])))] [(2, ⟨45, rowO none⟩), (3, ⟨4, [.bool false]⟩), (4, ⟨94, rowTb g r⟩)] 5)
      (fun k => ∀ y ∈ (liesL g r a).take k, ¬ 0 < y.gain) (by simp) (lies1_it g r h a a1) (by simp) (by kernel_rfl) (fun it hit => by obtain ⟨i, -, rfl⟩ := List.mem_map.1 hit; rfl) (Le.to (by simp) (by simp) (by simp)) (fun k => ⟨rfl, rfl, ?_, by simp, rfl, rfl⟩) (fun k w0 ok0 hb => stable_nil) ?_ ?_
    · intro o ob ho
      simp at ho
      grind
    · intro k hk hF
      rw [hil] at hk
      have hx : (itemsL (liesL g r a))[k] = [liS (liesL g r a)[k]] := by simp [itemsL]
      have hmz := (mem_lies h a1 (List.getElem_mem hk)).1
      have hz := (cap_mz (show mz (liesL g r a)[k].gain ≤ 2048 by omega)).2
      have hsg := fsign_s (frQ (liesL g r a)[k].gain) (frQ_ok (by omega))
      rw [fix_frQ hz] at hsg
      rw [hx]
      simp -dsimp -implicitDefEqProofs
      refine eCall.of hsg (by simp [frQ, ng]) ?_
      by_cases c1 : 0 < (liesL g r a)[k].gain
      · have hdr : liesL g r a = (liesL g r a).take k ++ (liesL g r a)[k] :: (liesL g r a).drop (k + 1) := by rw [← List.drop_eq_getElem_cons hk, List.take_append_drop]
        obtain ⟨n, t, hfa, e⟩ := lies_first h a1 hdr hF c1 hp
        obtain ⟨rfl, rfl⟩ := hl.at hfa
        simp -dsimp -implicitDefEqProofs [sgnQ_pos.2 c1, ← e]
      · simp -dsimp -implicitDefEqProofs [mt sgnQ_pos.1 c1]
        rw [List.take_add_one, List.getElem?_eq_getElem hk, Option.toList_some]
        intro y hy
        rcases List.mem_append.1 hy with hy | hy
        · exact hF y hy
        · rw [List.mem_singleton.1 hy]; exact c1
    · intro hF
      rw [hil, List.take_length] at hF
      have hno := lies_none h a1 hF
      simp -dsimp -implicitDefEqProofs
      refine Again.by ⟨a + 1, a1, fun a' ha' => ?_⟩ (Le.to (by simp [wa]) (by simp) (by simp)) (by simp; omega)
      by_cases e' : a' = a
      · subst e'; exact hno
      · exact hp a' (by omega)
  have hi2 : a = g.agents.length := by omega
  subst hi2
  obtain ⟨rfl, rfl⟩ := hl.none hp
  simp -dsimp -implicitDefEqProofs
  refine eCall.of rzero_s (by simp) ?_
  simp -dsimp -implicitDefEqProofs [noLi, frQ, ng]

set_option maxRecDepth 20000 in
theorem rtruthNo_s (g : Gm) (r : List Ce) (h : Seen g r) (hg : ¬ Good g r) : CallsS Tryz.prog 10 [gmS g, ruS r] (.tup [li0, .one (.bool false)]) := by
  refine calls Tryz.func10 rfl (by rfl) (by rfl) (by kernel_rfl) ?_
  simp -dsimp -implicitDefEqProofs [Tryz.f10]
  refine eCall.of (openNo_s g r h hg) (by simp) ?_
  simp -dsimp -implicitDefEqProofs
end Go.Proofs.YtglhjjokijdagaaGreat.Sh

/- The lie that is ahead; a profile's weight. -/
namespace Go.Proofs.YtglhjjokijdagaaGreat.Sh
open Go Go.RowKit





/-- The product of the weights of a profile's kinds. -/
def wgtTo (g : Gm) (n : Nat) : Nat → Rat
  | 0 => 1
  | i + 1 => wgtTo g n i * (kdAt g i (kOf g n i)).weight.fix
def wgt (g : Gm) (n : Nat) : Rat := wgtTo g n g.agents.length

theorem wgtTo_mz {g : Gm} {r : List Ce} (h : Play g r) {n : Nat} (hn : n < r.length) : ∀ i, i ≤ g.agents.length → mz (wgtTo g n i) ≤ 3 * i + 1
  | 0, _ => by show mz 1 ≤ 1; decide +kernel
  | i + 1, hi => by
    have hs : Spot g r i n := ⟨h, hi, hn⟩
    obtain ⟨k1, k2⟩ := hs.kof
    have hk := (h.kd (List.getElem_mem hs.ha) (List.getElem_mem k2)).1.w
    have ih := wgtTo_mz h hn i (by omega)
    rw [wgtTo, kdAt_eq hs.ha k2]
    have := mz_mul (wgtTo g n i) (g.agents[i].kinds[kOf g n i]).weight.fix
    omega

end Go.Proofs.YtglhjjokijdagaaGreat.Sh

/- The program's Gains. -/
namespace Go.Proofs.YtglhjjokijdagaaGreat.Sh
open Go Go.RowKit

theorem ifne {α : Type} {a b : Nat} [Decidable (a = b)] {x y : α} (h : ¬ a = b) : (if a = b then x else y) = y := if_neg h

theorem li_ok {g : Gm} {r : List Ce} {a : Nat} (h : Play g r) (ha : a < g.agents.length) {x : Li} (hx : x ∈ liesL g r a) : x.ok := by
  obtain ⟨h1, h2⟩ := mem_lies h ha hx
  have := (sizeOk_all h.fine.sz).1
  exact ⟨by unfold lenOk; omega, (cap_mz (by omega)).2⟩

end Go.Proofs.YtglhjjokijdagaaGreat.Sh

/- The program's Aim. -/
namespace Go.Proofs.YtglhjjokijdagaaGreat.Sh
open Go Go.RowKit

def useQ (g : Gm) (r : List Ce) (n a : Nat) : Rat := hasQ (ceAt r n) (kdAt g a (kOf g n a)) a
def usesP (g : Gm) (r : List Ce) (n p : Nat) : List Rat := (List.range p).map (useQ g r n)
def usesTo (g : Gm) (r : List Ce) (n : Nat) : List Rat := (List.range n).flatMap fun n => usesP g r n g.agents.length
def usesL (g : Gm) (r : List Ce) : List Rat := usesTo g r r.length
theorem usesTo_succ (g : Gm) (r : List Ce) (n : Nat) : usesTo g r (n + 1) = usesTo g r n ++ usesP g r n g.agents.length := by
  unfold usesTo; rw [List.range_succ, List.flatMap_append]; simp
theorem usesTo_pre (g : Gm) (r : List Ce) {n N : Nat} (h : n ≤ N) : usesTo g r n <+: usesTo g r N := by
  unfold usesTo
  obtain ⟨d, rfl⟩ : ∃ d, N = n + d := ⟨N - n, by omega⟩
  rw [List.range_add, List.flatMap_append]
  exact List.prefix_append _ _
theorem usesP_step (g : Gm) (r : List Ce) (n p : Nat) : usesP g r n (p + 1) = usesP g r n p ++ [useQ g r n p] := by
  unfold usesP; rw [List.range_succ, List.map_append]; rfl
theorem uses_pre (g : Gm) (r : List Ce) {n p : Nat} (hn : n < r.length) (h : p ≤ g.agents.length) : usesTo g r n ++ usesP g r n p <+: usesL g r := by
  have h1 := usesTo_pre g r (n := n + 1) (N := r.length) hn
  rw [usesTo_succ] at h1
  obtain ⟨d, hd⟩ : ∃ d, g.agents.length = p + d := ⟨g.agents.length - p, by omega⟩
  have h2 : usesP g r n p <+: usesP g r n g.agents.length := by
    unfold usesP; rw [hd, List.range_add, List.map_append]; exact List.prefix_append _ _
  obtain ⟨t, ht⟩ := h2
  rw [← ht, ← List.append_assoc] at h1
  exact (List.prefix_append _ _).trans h1

theorem Spot.use {g : Gm} {r : List Ce} {a n : Nat} (h : Spot g r a n) : mz (useQ g r n a) ≤ 222 ∧ CallsS Tryz.prog 91 [tbS g r, ceS (r[n]'h.hn), .one (.int .i64 (a : Int)), .one (.int .i64 (kOf g n a : Int))] (.v (fS (useQ g r n a))) := by
  obtain ⟨k1, k2⟩ := h.kof
  have hP := h.pair h.hn k2
  have e : useQ g r n a = hasQ (r[n]'h.hn) ((g.agents[a]'h.ha).kinds[kOf g n a]) a := by unfold useQ; rw [ceAt_eq h.hn, kdAt_eq h.ha k2]
  rw [e]
  exact ⟨hP.has, rhas_s g r _ a (kOf g n a) h.ha k2 hP⟩
theorem mem_uses {g : Gm} {r : List Ce} (h : Play g r) {q : Rat} (hq : q ∈ usesL g r) : mz q ≤ 222 := by
  obtain ⟨n, hn, hq⟩ := List.mem_flatMap.1 hq
  obtain ⟨a, ha, rfl⟩ := List.mem_map.1 hq
  exact (Spot.use ⟨h, List.mem_range.1 ha, List.mem_range.1 hn⟩).1

end Go.Proofs.YtglhjjokijdagaaGreat.Sh

/- The program's Aim. -/
namespace Go.Proofs.YtglhjjokijdagaaGreat.Sh
open Go Go.RowKit

def paidQ (c : Ce) : Rat := cap (sumQ (c.pay.map FR.fix))
def totTo (g : Gm) (r : List Ce) (n : Nat) : Nat → Rat
  | 0 => 0
  | i + 1 => cap (totTo g r n i + cap (sumQ (dotL (ceAt r n).lot (kdAt g i (kOf g n i)).worth)))
def partQ (g : Gm) (r : List Ce) (n : Nat) : Rat := if g.aim = 1 then totTo g r n g.agents.length else paidQ (ceAt r n)
def aimTo (g : Gm) (r : List Ce) : Nat → Rat
  | 0 => 0
  | n + 1 => cap (aimTo g r n + cap (wgt g n * partQ g r n))
def ltQ (x y : Rat) : Bool := decide (x < y)
def lowQ (g : Gm) (r : List Ce) : Rat := ((usesL g r).foldl (mst ltQ) none).getD 0
def aimQ (g : Gm) (r : List Ce) : Rat := if g.aim = 2 then lowQ g r else aimTo g r r.length

theorem sz0 : sz 0 ≤ 4096 := by decide +kernel
theorem totTo_sz (g : Gm) (r : List Ce) (n : Nat) : ∀ i, sz (totTo g r n i) ≤ 4096
  | 0 => sz0
  | _ + 1 => sz_cap _
theorem partQ_sz (g : Gm) (r : List Ce) (n : Nat) : sz (partQ g r n) ≤ 4096 := by
  unfold partQ; split
  · exact totTo_sz g r n _
  · exact sz_cap _
theorem aimTo_sz (g : Gm) (r : List Ce) : ∀ n, sz (aimTo g r n) ≤ 4096
  | 0 => sz0
  | _ + 1 => sz_cap _

theorem wgt_sz {g : Gm} {r : List Ce} (h : Play g r) {n : Nat} (hn : n < r.length) : sz (wgt g n) ≤ 4096 := by
  have := wgtTo_mz h hn g.agents.length (Nat.le_refl _)
  have := (sizeOk_all h.fine.sz).1
  exact (cap_mz (show mz (wgt g n) ≤ 2048 by unfold wgt; omega)).2

theorem dot4_s {g : Gm} {r : List Ce} {a n : Nat} (h : Spot g r a n) : CallsS Tryz.prog 137 [.one (frsS (r[n]'h.hn).lot), .one (frsS ((g.agents[a]'h.ha).kinds[kOf g n a]'h.kof.2).worth)] (.v (fS (cap (sumQ (dotL (ceAt r n).lot (kdAt g a (kOf g n a)).worth))))) := by
  obtain ⟨k1, k2⟩ := h.kof
  have hP := h.pair h.hn k2
  rw [ceAt_eq h.hn, kdAt_eq h.ha k2]
  exact fdot_s _ _ hP.cf.ok.2.2.1 hP.kf.ok.2.2.2.2 (by have := hP.six; omega) hP.len

theorem uses_ne {g : Gm} {r : List Ce} (h : Play g r) : usesL g r ≠ [] := by
  have h1 : 0 < r.length := by
    have := prod_pos (l := g.agents) (fun a ha => (h.good.2.1.all a ha).1) g.agents.length (Nat.le_refl _)
    rw [List.take_length, ← h.good.2.2.1] at this
    exact this
  have h2 : 0 < g.agents.length := List.length_pos_iff.2 h.good.2.1.ag
  have : useQ g r 0 0 ∈ usesL g r := List.mem_flatMap.2 ⟨0, List.mem_range.2 h1, List.mem_map.2 ⟨0, List.mem_range.2 h2, rfl⟩⟩
  exact List.ne_nil_of_mem this
theorem mst_isSome {α : Type} (ahd : α → α → Bool) {l : List α} (h : l ≠ []) : (l.foldl (mst ahd) none).isSome = true := by
  rcases List.eq_nil_or_concat l with e | ⟨p, x, e⟩
  · exact absurd e h
  · rw [e, List.concat_eq_append, List.foldl_append]; exact mst_some ahd _ x
theorem uses_some {g : Gm} {r : List Ce} (h : Play g r) : (usesL g r).foldl (mst ltQ) none = some (lowQ g r) := by
  obtain ⟨q, hq⟩ := Option.isSome_iff_exists.1 (mst_isSome ltQ (uses_ne h))
  rw [lowQ, hq]; rfl

end Go.Proofs.YtglhjjokijdagaaGreat.Sh

/- What statements look at; truth. No program in sight. -/
namespace Go.Proofs.YtglhjjokijdagaaGreat.Sh
open Go Go.RowKit

theorem six_of {r : List Ce} (hr : ∀ c ∈ r, c.ok) (h2 : beyondRule r = false) : ∀ c ∈ r, CeSix c := by
  unfold beyondRule at h2
  simp only [Bool.or_eq_false_iff, decide_eq_false_iff_not] at h2
  refine fun c hc => CeSix.of (hr c hc) ?_ ?_
  all_goals
    have h3 := h2.1.1
    have h4 : bruW c = false := by
      cases e : bruW c with
      | false => rfl
      | true => rw [List.any_eq_true.2 ⟨c, hc, e⟩] at h3; cases h3
    unfold bruW at h4
    simp only [Bool.or_eq_false_iff] at h4
    intro f hf
  · have := wideF_no h4.1 f hf; omega
  · have := wideF_no h4.2 f hf; omega
theorem seen_of {g : Gm} {r : List Ce} (hg : g.ok) (hr : ∀ c ∈ r, c.ok) (h1 : far g = false) (h2 : beyondRule r = false) : Seen g r := by
  have h6 := six_of hr h2
  unfold far at h1
  unfold beyondRule at h2
  simp only [Bool.or_eq_false_iff, decide_eq_false_iff_not] at h1 h2
  exact ⟨hg, h1.1.1, by omega, fun c hc => (h6 c hc).fine (hr c hc)⟩

theorem isTr_of {g : Gm} {r : List Ce} : ∃ l ok, isTr g r l ok := by
  by_cases h : ∀ a, a < g.agents.length → NoA g r a
  · exact ⟨_, _, .inr ⟨h, rfl, rfl⟩⟩
  · have : ∃ a n t, FirstAt g r a n t := by
      have least : ∀ (p : Nat → Prop), (∃ n, p n) → ∃ n, p n ∧ ∀ m, m < n → ¬ p m := by
        intro p ⟨n, hn⟩
        induction n using Nat.strongRecOn with
        | _ n ih =>
          by_cases hm : ∃ m, m < n ∧ p m
          · obtain ⟨m, h1, h2⟩ := hm; exact ih m h1 h2
          · exact ⟨n, hn, fun m h1 h2 => hm ⟨m, h1, h2⟩⟩
      obtain ⟨a, ha, ha0⟩ := least (fun a => a < g.agents.length ∧ ¬ NoA g r a) (Classical.byContradiction fun hc => h fun a ha => Classical.byContradiction fun hn => hc ⟨a, ha, hn⟩)
      obtain ⟨n, hn, hn0⟩ := least (fun n => n < r.length ∧ ¬ NoN g r a n) (Classical.byContradiction fun hc => ha.2 fun n hn => Classical.byContradiction fun hx => hc ⟨n, hn, hx⟩)
      obtain ⟨t, ht, ht0⟩ := least (fun t => t < kl g a ∧ 0 < gainQ g r a n t) (Classical.byContradiction fun hc => hn.2 fun t ht hx => hc ⟨t, ht, hx⟩)
      exact ⟨a, n, t, ha.1, hn.1, ht.1, ht.2, fun a' h1 => Classical.byContradiction fun hx => ha0 a' h1 ⟨by have := ha.1; omega, hx⟩, fun n' h1 => Classical.byContradiction fun hx => hn0 n' h1 ⟨by have := hn.1; omega, hx⟩, fun t' h1 hx => ht0 t' h1 ⟨by have := ht.1; omega, hx⟩⟩
    obtain ⟨a, n, t, h⟩ := this
    exact ⟨_, _, .inl ⟨a, n, t, h, rfl, rfl⟩⟩

theorem isTr.ok {g : Gm} {r : List Ce} (h : Play g r) {l : Li} {ok : Bool} (hl : isTr g r l ok) : l.ok := by
  rcases hl with ⟨a, n, t, hf, rfl, -⟩ | ⟨-, rfl, -⟩
  · have hs : Spot g r a n := ⟨h, hf.ha, hf.hn⟩
    have ht := hf.ht
    rw [kl_eq hf.ha] at ht
    have h1 := hs.gain_mz ht
    have h2 := atG_length g n
    have h3 := (sizeOk_all h.fine.sz).1
    exact ⟨by show lenOk (atG g n); unfold lenOk; omega, (cap_mz (show mz (gainQ g r a n t) ≤ 2048 by omega)).2⟩
  · exact ⟨by show lenOk []; unfold lenOk; decide, by show sz 0 ≤ 4096; decide +kernel⟩

theorem isTr.iff {g : Gm} {r : List Ce} {l : Li} {ok : Bool} (h : isTr g r l ok) : ok = true ↔ ∀ a, a < g.agents.length → NoA g r a := by
  rcases h with ⟨a, n, t, h1, -, rfl⟩ | ⟨h1, -, rfl⟩
  · exact ⟨fun e => (by cases e), fun hh => absurd h1.pos (hh a h1.ha n h1.hn t h1.ht)⟩
  · exact ⟨fun _ => h1, fun _ => rfl⟩

end Go.Proofs.YtglhjjokijdagaaGreat.Sh

/- Index of any game; Exact; Worth. -/
namespace Go.Proofs.YtglhjjokijdagaaGreat.Sh
open Go Go.RowKit

def isIdx2 (g : Gm) (p : List Int) (e : Int) : Prop := ((sizeOk g = true ∧ RightOk g) ∧ isProf g p ∧ e = whr g p) ∨ (¬ ((sizeOk g = true ∧ RightOk g) ∧ isProf g p) ∧ e = -1)
theorem isIdx2_of (g : Gm) (p : List Int) : ∃ e, isIdx2 g p e := by
  by_cases h : (sizeOk g = true ∧ RightOk g) ∧ isProf g p
  · exact ⟨_, .inl ⟨h.1, h.2, rfl⟩⟩
  · exact ⟨_, .inr ⟨h, rfl⟩⟩

set_option maxRecDepth 20000 in
theorem sidx_s (g : Gm) (r : List Ce) (h : Seen g r) (p : List Int) (hl : p.length ≤ 140737488355328) (e : Int) (he : isIdx2 g p e) : CallsS Tryz.prog 65 [gmS g, .one (intsS p)] (I .i64 e) := by
  by_cases hr : sizeOk g = true ∧ RightOk g
  · refine index_s g (h.fine hr) p hl e ?_
    rcases he with ⟨-, h1, h2⟩ | ⟨h1, h2⟩
    · exact .inl ⟨h1, h2⟩
    · exact .inr ⟨fun hp => h1 ⟨hr, hp⟩, h2⟩
  · have he' : e = -1 := by
      rcases he with ⟨h1, -, -⟩ | ⟨-, h2⟩
      · exact absurd h1 hr
      · exact h2
    subst he'
    obtain ⟨e, h1, h2⟩ := isRight_of g
    have h0 : ¬ e = 0 := fun h => hr (h2.1 h)
    refine calls Tryz.func65 rfl (by rfl) (by rfl) (by kernel_rfl) ?_
    simp -dsimp -implicitDefEqProofs [Tryz.f65]
    refine eCall.of (sright_s g h.ok h.bey e h1) (by simp) ?_
    simp -dsimp -implicitDefEqProofs [h0]

set_option maxRecDepth 20000 in
theorem ridx_s (g : Gm) (r : List Ce) (hs : Seen g r) (p : List Int) (hl : p.length ≤ 140737488355328) (e : Int) (he : isIdx2 g p e) : CallsS Tryz.prog 23 [gmS g, .one (intsS p)] (I .i64 e) := by
  refine calls Tryz.func23 rfl (by rfl) (by rfl) (by kernel_rfl) ?_
  obtain ⟨e1, h1, h2⟩ := isRight_of g
  simp -dsimp -implicitDefEqProofs [Tryz.f23]
  refine eCall.of (right_s g hs.ok hs.bey e1 h1) (by simp) ?_
  by_cases hr : sizeOk g = true ∧ RightOk g
  · have h := hs.fine hr
    obtain ⟨g1, -, -, h4, -⟩ := sizeOk_all h.sz
    have h0 : e1 = 0 := h2.2 hr
    subst h0
    have bad : ¬ isProf g p → e = -1 := fun hn => by
      rcases he with he | he
      · exact absurd he.2.1 hn
      · exact he.2
    by_cases pl : p.length = g.agents.length
    · simp -dsimp -implicitDefEqProofs [pl]
      refine sw_loop_e (fun q : {q : Nat // q ≤ g.agents.length ∧ profTo g p q} => SS.of [(1, .v (.one (intsS p))), (2, .v (.one (.mp 0 0))), (5, I .i64 (whrTo g p q.1)), (6, I .i64 q.1)] [(0, ⟨26, rowGm g⟩)] 1)
        (fun q => g.agents.length - q.1) ⟨0, Nat.zero_le _, fun j hj => absurd hj (by omega)⟩ (by kernel_rfl) (Le.to (by simp [whrTo]) (by simp) (by simp)) ?_
      rintro ⟨i, hi, hp⟩
      by_cases a1 : i < g.agents.length
      · have wi : IntKind.i64.wrap ((i : Int) + 1) = ((i + 1 : Nat) : Int) := by rw [wrap_i64 _ (by omega) (by omega)]; rfl
        have a2 : i < p.length := by omega
        have hw := whrTo_step (g := g) (p := p) (List.getElem?_eq_getElem a1) (List.getElem?_eq_getElem a2)
        obtain ⟨w1, w2⟩ := whrTo_ok h hi hp
        have hk := h4 _ (List.getElem_mem a1)
        by_cases c1 : p[i] < 0
        · have hb := bad (fun hh => by
            obtain ⟨A, x, e1, e2, e3, e4⟩ := hh.2 i a1
            rw [List.getElem?_eq_getElem a2] at e2
            obtain rfl := Option.some.inj e2
            omega)
          simp -dsimp -implicitDefEqProofs [a1, a2, pl, c1, hb]
        by_cases c2 : (g.agents[i].kinds.length : Int) ≤ p[i]
        · have hb := bad (fun hh => by
            obtain ⟨A, x, e1, e2, e3, e4⟩ := hh.2 i a1
            rw [List.getElem?_eq_getElem a2] at e2
            rw [List.getElem?_eq_getElem a1] at e1
            obtain rfl := Option.some.inj e2
            obtain rfl := Option.some.inj e1
            omega)
          simp -dsimp -implicitDefEqProofs [a1, a2, pl, c1, c2, hb]
        have hp2 : profTo g p (i + 1) := fun j hj => by
          by_cases e : j = i
          · subst e; exact ⟨_, _, List.getElem?_eq_getElem a1, List.getElem?_eq_getElem a2, by omega, by omega⟩
          · exact hp j (by omega)
        obtain ⟨w3, w4⟩ := whrTo_ok h a1 hp2
        have wm : IntKind.i64.wrap (whrTo g p i * (g.agents[i].kinds.length : Int)) = whrTo g p i * (g.agents[i].kinds.length : Int) := by
          rw [hw] at w4
          have := Int.mul_nonneg w1 (Int.natCast_nonneg g.agents[i].kinds.length)
          rw [wrap_i64 _ (by omega) (by omega)]
        have wa : IntKind.i64.wrap (whrTo g p i * (g.agents[i].kinds.length : Int) + p[i]) = whrTo g p (i + 1) := by
          rw [hw] at w3 w4 ⊢
          rw [wrap_i64 _ (by omega) (by omega)]
        simp -dsimp -implicitDefEqProofs [a1, a2, pl, c1, c2]
        exact Again.by ⟨i + 1, a1, hp2⟩ (Le.to (by simp [wi, wm, wa]) (by simp) (by simp)) (by simp; omega)
      have hi2 : i = g.agents.length := by omega
      subst hi2
      have hb : e = whr g p := by
        rcases he with he | he
        · exact he.2.2
        · exact absurd ⟨hr, pl, hp⟩ he.1
      simp -dsimp -implicitDefEqProofs [pl, hb, whr]
    · have hb := bad (fun hh => pl hh.1)
      simp -dsimp -implicitDefEqProofs [show ¬ (p.length : Int) = g.agents.length by omega, hb]
  · have he' : e = -1 := by
      rcases he with ⟨h1, -, -⟩ | ⟨-, h2⟩
      · exact absurd h1 hr
      · exact h2
    have h0 : ¬ e1 = 0 := fun h => hr (h2.1 h)
    simp -dsimp -implicitDefEqProofs [h0, he']

end Go.Proofs.YtglhjjokijdagaaGreat.Sh

/- Worth, of the program and of the reference. -/
namespace Go.Proofs.YtglhjjokijdagaaGreat.Sh
open Go Go.RowKit

def WOk (g : Gm) (r : List Ce) (a k : Int) (p : List Int) : Prop := Good g r ∧ isProf g p ∧ 0 ≤ a ∧ a < (g.agents.length : Int) ∧ 0 ≤ k ∧ k < (kl g a.toNat : Int)
def isWorth (g : Gm) (r : List Ce) (a k : Int) (p : List Int) (q : Rat) : Prop := (WOk g r a k p ∧ q = hasQ (ceAt r (whr g p).toNat) (kdAt g a.toNat k.toNat) a.toNat) ∨ (¬ WOk g r a k p ∧ q = 0)
theorem isWorth_of (g : Gm) (r : List Ce) (a k : Int) (p : List Int) : ∃ q, isWorth g r a k p q := by
  by_cases h : WOk g r a k p
  · exact ⟨_, .inl ⟨h, rfl⟩⟩
  · exact ⟨_, .inr ⟨h, rfl⟩⟩
theorem isWorth.no {g : Gm} {r : List Ce} {a k : Int} {p : List Int} {q : Rat} (h : isWorth g r a k p q) (hn : ¬ WOk g r a k p) : q = 0 := by
  rcases h with ⟨h, -⟩ | ⟨-, h⟩
  · exact absurd h hn
  · exact h
theorem isWorth.yes {g : Gm} {r : List Ce} {a k : Int} {p : List Int} {q : Rat} (h : isWorth g r a k p q) (hn : WOk g r a k p) : q = hasQ (ceAt r (whr g p).toNat) (kdAt g a.toNat k.toNat) a.toNat := by
  rcases h with ⟨-, h⟩ | ⟨h, -⟩
  · exact h
  · exact absurd hn h

/-- All that both functions ask, when there is a worth. -/
structure WAt (g : Gm) (r : List Ce) (a k : Int) (p : List Int) (n b j : Nat) : Prop where
  play : Play g r
  ea : a = (b : Int)
  ek : k = (j : Int)
  ew : whr g p = (n : Int)
  hb : b < g.agents.length
  hj : j < (g.agents[b]'hb).kinds.length
  hn : n < r.length

theorem WAt.of {g : Gm} {r : List Ce} {a k : Int} {p : List Int} (hs : Seen g r) (hf : far g = false) (h : WOk g r a k p) : ∃ n b j, WAt g r a k p n b j := by
  obtain ⟨h1, h2, h3, h4, h5, h6⟩ := h
  have hp : Play g r := ⟨hs, hf, h1⟩
  have hb : a.toNat < g.agents.length := by omega
  rw [kl_eq hb] at h6
  have hw := whrTo_le g.agents.length (Nat.le_refl _) h2.2
  rw [List.take_length] at hw
  have hrl := h1.2.2.1
  exact ⟨(whr g p).toNat, a.toNat, k.toNat, hp, by omega, by omega, by unfold whr at *; omega, hb, by omega, by unfold whr at *; omega⟩

theorem WAt.pair {g : Gm} {r : List Ce} {a k : Int} {p : List Int} {n b j : Nat} (h : WAt g r a k p n b j) : Pair (r[n]'h.hn) ((g.agents[b]'h.hb).kinds[j]'h.hj) b := Spot.pair ⟨h.play, h.hb, h.hn⟩ h.hn h.hj

set_option maxRecDepth 20000 in
set_option maxHeartbeats 1000000 in
theorem rworth_s (g : Gm) (r : List Ce) (hs : Seen g r) (hf : far g = false) (a k : Int) (p : List Int) (hl : p.length ≤ 140737488355328) (q : Rat) (hq : isWorth g r a k p q) :
    CallsS Tryz.prog 77 [gmS g, ruS r, .one (.int .i64 a), .one (.int .i64 k), .one (intsS p)] (.v (fS q)) := by
  obtain ⟨e, he⟩ := isIdx2_of g p
  have hid := sidx_s g r hs p hl e he
  refine calls Tryz.func77 rfl (by rfl) (by rfl) (by kernel_rfl) ?_
  by_cases hgd : Good g r
  · simp -dsimp -implicitDefEqProofs [Tryz.f77]
    refine eCall.of (open_s g r hs hgd) (by simp) ?_
    simp -dsimp -implicitDefEqProofs
    refine eCall.of hid (by simp) ?_
    have zero : ∀ {P : Prop}, ¬ WOk g r a k p → (q = 0 → P) → P := fun h k => k (hq.no h)
    by_cases hp : isProf g p
    · have e1 : e = whr g p := by
        rcases he with h | h
        · exact h.2.2
        · exact absurd ⟨⟨hgd.1, hgd.2.1⟩, hp⟩ h.1
      have hw := (whrTo_le g.agents.length (Nat.le_refl _) hp.2).1
      have e2 : ¬ e < 0 := by rw [e1]; unfold whr; omega
      by_cases c1 : a < 0
      · have q0 := hq.no (fun h => by have := h.2.2.1; omega)
        simp -dsimp -implicitDefEqProofs [e2, c1]
        refine eCall.of rzero_s (by simp) ?_
        simp -dsimp -implicitDefEqProofs [q0, frQ, ng]
      by_cases c2 : (g.agents.length : Int) ≤ a
      · have q0 := hq.no (fun h => by have := h.2.2.2.1; omega)
        simp -dsimp -implicitDefEqProofs [e2, c1, c2]
        refine eCall.of rzero_s (by simp) ?_
        simp -dsimp -implicitDefEqProofs [q0, frQ, ng]
      by_cases c3 : k < 0
      · have q0 := hq.no (fun h => by have := h.2.2.2.2.1; omega)
        simp -dsimp -implicitDefEqProofs [e2, c1, c2, c3]
        refine eCall.of rzero_s (by simp) ?_
        simp -dsimp -implicitDefEqProofs [q0, frQ, ng]
      obtain ⟨b, rfl⟩ : ∃ b : Nat, a = b := ⟨a.toNat, by omega⟩
      have hb : b < g.agents.length := by omega
      by_cases c4 : (g.agents[b].kinds.length : Int) ≤ k
      · have q0 := hq.no (fun h => by have := h.2.2.2.2.2; rw [Int.toNat_natCast, kl_eq hb] at this; omega)
        simp -dsimp -implicitDefEqProofs [e2, c1, c2, c3, c4, hb]
        refine eCall.of rzero_s (by simp) ?_
        simp -dsimp -implicitDefEqProofs [q0, frQ, ng]
      have hok : WOk g r b k p := ⟨hgd, hp, by omega, by omega, by omega, by rw [Int.toNat_natCast, kl_eq hb]; omega⟩
      have hq := hq.yes hok
      obtain ⟨n, b', j, hw⟩ := WAt.of hs hf hok
      obtain rfl : b = b' := by have := hw.ea; omega
      obtain rfl := hw.ek
      have hn := hw.hn
      have hj := hw.hj
      rw [hw.ew, Int.toNat_natCast, Int.toNat_natCast, Int.toNat_natCast, ceAt_eq hn, kdAt_eq hb hj] at hq
      rw [e1, hw.ew] at e2
      rw [e1, hw.ew]
      simp -dsimp -implicitDefEqProofs [e2, c1, c2, c3, c4, hb, hn]
      refine eCall.of (rhas_s g r r[n] b j hb hj hw.pair) (by simp) ?_
      simp -dsimp -implicitDefEqProofs [hq, frQ, ng]
    · have e1 : e = -1 := by
        rcases he with h | h
        · exact absurd h.2.1 hp
        · exact h.2
      have q0 := hq.no (fun h => hp h.2.1)
      subst e1
      simp -dsimp -implicitDefEqProofs
      refine eCall.of rzero_s (by simp) ?_
      simp -dsimp -implicitDefEqProofs [q0, frQ, ng]
  · have q0 := hq.no (fun h => hgd h.1)
    simp -dsimp -implicitDefEqProofs [Tryz.f77]
    refine eCall.of (openNo_s g r hs hgd) (by simp) ?_
    simp -dsimp -implicitDefEqProofs
    refine eCall.of hid (by simp) ?_
    simp -dsimp -implicitDefEqProofs
    refine eCall.of rzero_s (by simp) ?_
    simp -dsimp -implicitDefEqProofs [q0, frQ, ng]

end Go.Proofs.YtglhjjokijdagaaGreat.Sh

/- Profiles and their places; the walk of RuleLie. -/
namespace Go.Proofs.YtglhjjokijdagaaGreat.Sh
open Go Go.RowKit

theorem at_whrTo {g : Gm} {p : List Int} (hp : isProf g p) : ∀ j, j ≤ g.agents.length → atR ((szs g).take j).reverse (whrTo g p j).toNat = p.take j
  | 0, _ => rfl
  | j + 1, hj => by
    have a1 : j < g.agents.length := hj
    obtain ⟨A, x, e1, e2, e3, e4⟩ := hp.2 j a1
    rw [List.getElem?_eq_getElem a1] at e1
    obtain rfl := Option.some.inj e1
    have hrev : ((szs g).take (j + 1)).reverse = g.agents[j].kinds.length :: ((szs g).take j).reverse := by
      rw [takeSnoc (szs g) j (by simp [szs]; omega), List.reverse_append]; simp [szs]
    have hw := (whrTo_le (g := g) (p := p) j (by omega) (fun i hi => hp.2 i (by omega))).1
    have ih := at_whrTo hp j (by omega)
    rw [hrev, atR, whrTo_step (List.getElem?_eq_getElem a1) e2]
    obtain ⟨W, hW⟩ : ∃ W : Nat, whrTo g p j = W := ⟨_, (Int.toNat_of_nonneg hw).symm⟩
    obtain ⟨X, rfl⟩ : ∃ X : Nat, x = X := ⟨_, (Int.toNat_of_nonneg e3).symm⟩
    have e4 : X < g.agents[j].kinds.length := by omega
    rw [hW] at ih ⊢
    rw [Int.toNat_natCast] at ih
    have e5 : ((W : Int) * (g.agents[j].kinds.length : Int) + (X : Int)).toNat = W * g.agents[j].kinds.length + X := by
      rw [← Int.natCast_mul, ← Int.natCast_add, Int.toNat_natCast]
    rw [e5, Nat.mul_comm, Nat.mul_add_div (by omega), Nat.div_eq_of_lt e4, Nat.add_zero, Nat.mul_add_mod, Nat.mod_eq_of_lt e4, ih, List.take_add_one, e2]
    rfl
theorem at_whr {g : Gm} {p : List Int} (hp : isProf g p) : atG g (whr g p).toNat = p := by
  have := at_whrTo hp g.agents.length (Nat.le_refl _)
  rw [List.take_of_length_le (by simp [szs]), ← hp.1, List.take_length] at this
  unfold atG whr
  rw [← hp.1]; exact this

theorem Spot.wok {g : Gm} {r : List Ce} {a n : Nat} (h : Spot g r a n) {p : List Int} (hp : isProf g p) : WOk g r a (kOf g n a) p := by
  obtain ⟨k1, k2⟩ := h.kof
  have := h.ha
  exact ⟨h.play.good, hp, by omega, by omega, by omega, by rw [Int.toNat_natCast, kl_eq h.ha]; omega⟩
theorem Spot.here {g : Gm} {r : List Ce} {a n : Nat} (h : Spot g r a n) {q : Rat} (hq : isWorth g r a (kOf g n a) (atG g n) q) : q = hasQ (ceAt r n) (kdAt g a (kOf g n a)) a := by
  have := h.hn
  have := h.play.good.2.2.1
  have e := hq.yes (h.wok h.prof)
  rw [whr_at (by omega)] at e
  simpa using e
theorem Spot.there {g : Gm} {r : List Ce} {a n t : Nat} (h : Spot g r a n) (ht : t < (g.agents[a]'h.ha).kinds.length) {q : Rat} (hq : isWorth g r a (kOf g n a) (putP (atG g n) a t) q) : q = hasQ (ceAt r (Sh.toAt g n a t)) (kdAt g a (kOf g n a)) a := by
  have e := hq.yes (h.wok (h.put ht))
  rw [(h.toAt ht).1] at e
  simpa using e
theorem worth_sz {g : Gm} {r : List Ce} (hs : Seen g r) (h1 : far g = false) {a k : Int} {p : List Int} {q : Rat} (hq : isWorth g r a k p q) : mz q ≤ 222 := by
  by_cases hw : WOk g r a k p
  · obtain ⟨n, b, j, h⟩ := WAt.of hs h1 hw
    have e := hq.yes hw
    have hn := h.hn
    have hb := h.hb
    have hj := h.hj
    rw [h.ea, h.ek, h.ew, Int.toNat_natCast, Int.toNat_natCast, Int.toNat_natCast, ceAt_eq hn, kdAt_eq hb hj] at e
    rw [e]; exact h.pair.has
  · rw [hq.no hw]; decide +kernel

end Go.Proofs.YtglhjjokijdagaaGreat.Sh

