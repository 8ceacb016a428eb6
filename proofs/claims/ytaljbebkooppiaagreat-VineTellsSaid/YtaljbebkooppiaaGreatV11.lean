/- A part of the proof: Ty, Num, W1, W2, W3, W4, W5, W6, W7 -/
import Derived.Test.YtaljbebkooppiaaGreatV7
import Derived.Test.YtaljbebkooppiaaGreatProg
import Derived.KernelRfl
set_option linter.unusedSimpArgs false
set_option linter.unusedVariables false
set_option linter.unusedSectionVars false
namespace Go.Proofs.YtaljbebkooppiaaGreat.Sh
open Go Go.RowKit
@[simp] theorem ty2 : tyOf Tryz.prog 2 = some ⟨1, 8, .int .i64, [.int .i64 0]⟩ := by kernel_rfl
@[simp] theorem ty3 : tyOf Tryz.prog 3 = some ⟨1, 8, .int .i64, [.int .i64 0]⟩ := by kernel_rfl
@[simp] theorem ty4 : tyOf Tryz.prog 4 = some ⟨1, 1, .bool, [.bool false]⟩ := by kernel_rfl
@[simp] theorem ty5 : tyOf Tryz.prog 5 = some ⟨1, 1, .int .u8, [.int .u8 0]⟩ := by kernel_rfl
@[simp] theorem ty6 : tyOf Tryz.prog 6 = some ⟨1, 1, .int .u8, [.int .u8 0]⟩ := by kernel_rfl
@[simp] theorem ty7 : tyOf Tryz.prog 7 = some ⟨4, 24, .struct [(0, 1), (1, 1), (2, 1), (3, 1)], [.int .i64 0, .int .i64 0, .bool false, .int .u8 0]⟩ := by kernel_rfl
@[simp] theorem ty8 : tyOf Tryz.prog 8 = some ⟨4, 24, .struct [(0, 1), (1, 1), (2, 1), (3, 1)], [.int .i64 0, .int .i64 0, .bool false, .int .u8 0]⟩ := by kernel_rfl
@[simp] theorem ty9 : tyOf Tryz.prog 9 = some ⟨1, 16, .str, [.string ByteArray.empty]⟩ := by kernel_rfl
@[simp] theorem ty10 : tyOf Tryz.prog 10 = some ⟨1, 16, .str, [.string ByteArray.empty]⟩ := by kernel_rfl
@[simp] theorem ty11 : tyOf Tryz.prog 11 = some ⟨1, 16, .str, [.string ByteArray.empty]⟩ := by kernel_rfl
@[simp] theorem ty12 : tyOf Tryz.prog 12 = some ⟨1, 8, .int .u64, [.int .u64 0]⟩ := by kernel_rfl
@[simp] theorem ty13 : tyOf Tryz.prog 13 = some ⟨2, 24, .struct [(0, 1), (1, 1)], [.string ByteArray.empty, .int .u64 0]⟩ := by kernel_rfl
@[simp] theorem ty14 : tyOf Tryz.prog 14 = some ⟨2, 24, .struct [(0, 1), (1, 1)], [.string ByteArray.empty, .int .u64 0]⟩ := by kernel_rfl
@[simp] theorem ty18 : tyOf Tryz.prog 18 = some ⟨1, 8, .struct [(0, 1)], [.pointer none]⟩ := by kernel_rfl
@[simp] theorem ty19 : tyOf Tryz.prog 19 = some ⟨1, 8, .struct [(0, 1)], [.pointer none]⟩ := by kernel_rfl
@[simp] theorem ty21 : tyOf Tryz.prog 21 = some ⟨1, 4, .int .i32, [.int .i32 0]⟩ := by kernel_rfl
@[simp] theorem ty22 : tyOf Tryz.prog 22 = some ⟨1, 24, .slice 26 3, [.slice none 0 0]⟩ := by kernel_rfl
@[simp] theorem ty24 : tyOf Tryz.prog 24 = some ⟨1, 24, .slice 196 1, [.slice none 0 0]⟩ := by kernel_rfl
@[simp] theorem ty25 : tyOf Tryz.prog 25 = some ⟨3, 56, .struct [(0, 1), (1, 1), (2, 1)], [.bool false, .slice none 0 0, .slice none 0 0]⟩ := by kernel_rfl
@[simp] theorem ty26 : tyOf Tryz.prog 26 = some ⟨3, 56, .struct [(0, 1), (1, 1), (2, 1)], [.bool false, .slice none 0 0, .slice none 0 0]⟩ := by kernel_rfl
@[simp] theorem ty27 : tyOf Tryz.prog 27 = some ⟨1, 24, .slice 98 2, [.slice none 0 0]⟩ := by kernel_rfl
@[simp] theorem ty28 : tyOf Tryz.prog 28 = some ⟨1, 24, .slice 9 1, [.slice none 0 0]⟩ := by kernel_rfl
@[simp] theorem ty29 : tyOf Tryz.prog 29 = some ⟨1, 24, .slice 93 8, [.slice none 0 0]⟩ := by kernel_rfl
@[simp] theorem ty30 : tyOf Tryz.prog 30 = some ⟨6, 88, .struct [(0, 1), (1, 1), (2, 1), (3, 1), (4, 1), (5, 1)], [.slice none 0 0, .slice none 0 0, .bool false, .bool false, .int .i64 0, .slice none 0 0]⟩ := by kernel_rfl
@[simp] theorem ty31 : tyOf Tryz.prog 31 = some ⟨6, 88, .struct [(0, 1), (1, 1), (2, 1), (3, 1), (4, 1), (5, 1)], [.slice none 0 0, .slice none 0 0, .bool false, .bool false, .int .i64 0, .slice none 0 0]⟩ := by kernel_rfl
@[simp] theorem ty32 : tyOf Tryz.prog 32 = some ⟨1, 24, .slice 110 6, [.slice none 0 0]⟩ := by kernel_rfl
@[simp] theorem ty33 : tyOf Tryz.prog 33 = some ⟨1, 24, .struct [(0, 1)], [.slice none 0 0]⟩ := by kernel_rfl
@[simp] theorem ty34 : tyOf Tryz.prog 34 = some ⟨1, 24, .struct [(0, 1)], [.slice none 0 0]⟩ := by kernel_rfl
@[simp] theorem ty35 : tyOf Tryz.prog 35 = some ⟨1, 8, .int .i64, [.int .i64 0]⟩ := by kernel_rfl
@[simp] theorem ty39 : tyOf Tryz.prog 39 = some ⟨8, 128, .struct [(0, 1), (1, 1), (2, 3), (5, 3)], [.int .i64 0, .int .i64 0, .bool false, .slice none 0 0, .slice none 0 0, .bool false, .slice none 0 0, .slice none 0 0]⟩ := by kernel_rfl
@[simp] theorem ty40 : tyOf Tryz.prog 40 = some ⟨8, 128, .struct [(0, 1), (1, 1), (2, 3), (5, 3)], [.int .i64 0, .int .i64 0, .bool false, .slice none 0 0, .slice none 0 0, .bool false, .slice none 0 0, .slice none 0 0]⟩ := by kernel_rfl
@[simp] theorem ty43 : tyOf Tryz.prog 43 = some ⟨1, 24, .slice 56 2, [.slice none 0 0]⟩ := by kernel_rfl
@[simp] theorem ty44 : tyOf Tryz.prog 44 = some ⟨1, 24, .struct [(0, 1)], [.slice none 0 0]⟩ := by kernel_rfl
@[simp] theorem ty45 : tyOf Tryz.prog 45 = some ⟨1, 24, .struct [(0, 1)], [.slice none 0 0]⟩ := by kernel_rfl
@[simp] theorem ty51 : tyOf Tryz.prog 51 = some ⟨1, 24, .slice 54 1, [.slice none 0 0]⟩ := by kernel_rfl
@[simp] theorem ty54 : tyOf Tryz.prog 54 = some ⟨1, 24, .slice 3 1, [.slice none 0 0]⟩ := by kernel_rfl
@[simp] theorem ty55 : tyOf Tryz.prog 55 = some ⟨2, 48, .struct [(0, 1), (1, 1)], [.slice none 0 0, .slice none 0 0]⟩ := by kernel_rfl
@[simp] theorem ty56 : tyOf Tryz.prog 56 = some ⟨2, 48, .struct [(0, 1), (1, 1)], [.slice none 0 0, .slice none 0 0]⟩ := by kernel_rfl
@[simp] theorem ty76 : tyOf Tryz.prog 76 = some ⟨7, 104, .struct [(0, 1), (1, 1), (2, 1), (3, 1), (4, 3)], [.int .i64 0, .int .i64 0, .int .i64 0, .slice none 0 0, .bool false, .slice none 0 0, .slice none 0 0]⟩ := by kernel_rfl
@[simp] theorem ty77 : tyOf Tryz.prog 77 = some ⟨7, 104, .struct [(0, 1), (1, 1), (2, 1), (3, 1), (4, 3)], [.int .i64 0, .int .i64 0, .int .i64 0, .slice none 0 0, .bool false, .slice none 0 0, .slice none 0 0]⟩ := by kernel_rfl
@[simp] theorem ty87 : tyOf Tryz.prog 87 = some ⟨3, 56, .struct [(0, 1), (1, 1), (2, 1)], [.slice none 0 0, .slice none 0 0, .int .i64 0]⟩ := by kernel_rfl
@[simp] theorem ty88 : tyOf Tryz.prog 88 = some ⟨3, 56, .struct [(0, 1), (1, 1), (2, 1)], [.slice none 0 0, .slice none 0 0, .int .i64 0]⟩ := by kernel_rfl
@[simp] theorem ty89 : tyOf Tryz.prog 89 = some ⟨3, 24, .arr 3 3 1, [.int .i64 0, .int .i64 0, .int .i64 0]⟩ := by kernel_rfl
@[simp] theorem ty92 : tyOf Tryz.prog 92 = some ⟨8, 128, .struct [(0, 1), (1, 1), (2, 1), (3, 3), (6, 1), (7, 1)], [.int .i64 0, .int .i64 0, .int .i64 0, .bool false, .slice none 0 0, .slice none 0 0, .slice none 0 0, .slice none 0 0]⟩ := by kernel_rfl
@[simp] theorem ty93 : tyOf Tryz.prog 93 = some ⟨8, 128, .struct [(0, 1), (1, 1), (2, 1), (3, 3), (6, 1), (7, 1)], [.int .i64 0, .int .i64 0, .int .i64 0, .bool false, .slice none 0 0, .slice none 0 0, .slice none 0 0, .slice none 0 0]⟩ := by kernel_rfl
@[simp] theorem ty94 : tyOf Tryz.prog 94 = some ⟨1, 24, .slice 4 1, [.slice none 0 0]⟩ := by kernel_rfl
@[simp] theorem ty96 : tyOf Tryz.prog 96 = some ⟨1, 24, .slice 102 8, [.slice none 0 0]⟩ := by kernel_rfl
@[simp] theorem ty97 : tyOf Tryz.prog 97 = some ⟨2, 40, .struct [(0, 1), (1, 1)], [.string ByteArray.empty, .slice none 0 0]⟩ := by kernel_rfl
@[simp] theorem ty98 : tyOf Tryz.prog 98 = some ⟨2, 40, .struct [(0, 1), (1, 1)], [.string ByteArray.empty, .slice none 0 0]⟩ := by kernel_rfl
@[simp] theorem ty99 : tyOf Tryz.prog 99 = some ⟨1, 24, .slice 5 1, [.slice none 0 0]⟩ := by kernel_rfl
@[simp] theorem ty101 : tyOf Tryz.prog 101 = some ⟨8, 152, .struct [(0, 1), (1, 3), (4, 3), (7, 1)], [.string ByteArray.empty, .bool false, .slice none 0 0, .slice none 0 0, .bool false, .slice none 0 0, .slice none 0 0, .slice none 0 0]⟩ := by kernel_rfl
@[simp] theorem ty102 : tyOf Tryz.prog 102 = some ⟨8, 152, .struct [(0, 1), (1, 3), (4, 3), (7, 1)], [.string ByteArray.empty, .bool false, .slice none 0 0, .slice none 0 0, .bool false, .slice none 0 0, .slice none 0 0, .slice none 0 0]⟩ := by kernel_rfl
@[simp] theorem ty106 : tyOf Tryz.prog 106 = some ⟨1, 24, .slice 113 4, [.slice none 0 0]⟩ := by kernel_rfl
@[simp] theorem ty109 : tyOf Tryz.prog 109 = some ⟨6, 80, .struct [(0, 1), (1, 1), (2, 1), (3, 1), (4, 1), (5, 1)], [.int .i64 0, .slice none 0 0, .int .i64 0, .int .i64 0, .int .i64 0, .slice none 0 0]⟩ := by kernel_rfl
@[simp] theorem ty110 : tyOf Tryz.prog 110 = some ⟨6, 80, .struct [(0, 1), (1, 1), (2, 1), (3, 1), (4, 1), (5, 1)], [.int .i64 0, .slice none 0 0, .int .i64 0, .int .i64 0, .int .i64 0, .slice none 0 0]⟩ := by kernel_rfl
@[simp] theorem ty112 : tyOf Tryz.prog 112 = some ⟨4, 4, .arr 4 5 1, [.int .u8 0, .int .u8 0, .int .u8 0, .int .u8 0]⟩ := by kernel_rfl
@[simp] theorem ty113 : tyOf Tryz.prog 113 = some ⟨4, 4, .arr 4 5 1, [.int .u8 0, .int .u8 0, .int .u8 0, .int .u8 0]⟩ := by kernel_rfl
@[simp] theorem ty131 : tyOf Tryz.prog 131 = some ⟨2, 48, .struct [(0, 1), (1, 1)], [.slice none 0 0, .slice none 0 0]⟩ := by kernel_rfl
@[simp] theorem ty132 : tyOf Tryz.prog 132 = some ⟨2, 48, .struct [(0, 1), (1, 1)], [.slice none 0 0, .slice none 0 0]⟩ := by kernel_rfl
@[simp] theorem ty154 : tyOf Tryz.prog 154 = some ⟨2, 32, .struct [(0, 1), (1, 1)], [.int .i64 0, .slice none 0 0]⟩ := by kernel_rfl
@[simp] theorem ty155 : tyOf Tryz.prog 155 = some ⟨2, 32, .struct [(0, 1), (1, 1)], [.int .i64 0, .slice none 0 0]⟩ := by kernel_rfl
@[simp] theorem ty160 : tyOf Tryz.prog 160 = some ⟨8, 136, .struct [(0, 6), (6, 1), (7, 1)], [.slice none 0 0, .slice none 0 0, .bool false, .bool false, .int .i64 0, .slice none 0 0, .slice none 0 0, .slice none 0 0]⟩ := by kernel_rfl
@[simp] theorem ty161 : tyOf Tryz.prog 161 = some ⟨8, 136, .struct [(0, 6), (6, 1), (7, 1)], [.slice none 0 0, .slice none 0 0, .bool false, .bool false, .int .i64 0, .slice none 0 0, .slice none 0 0, .slice none 0 0]⟩ := by kernel_rfl
@[simp] theorem ty170 : tyOf Tryz.prog 170 = some ⟨9, 160, .struct [(0, 6), (6, 1), (7, 1), (8, 1)], [.slice none 0 0, .slice none 0 0, .bool false, .bool false, .int .i64 0, .slice none 0 0, .slice none 0 0, .slice none 0 0, .slice none 0 0]⟩ := by kernel_rfl
@[simp] theorem ty171 : tyOf Tryz.prog 171 = some ⟨9, 160, .struct [(0, 6), (6, 1), (7, 1), (8, 1)], [.slice none 0 0, .slice none 0 0, .bool false, .bool false, .int .i64 0, .slice none 0 0, .slice none 0 0, .slice none 0 0, .slice none 0 0]⟩ := by kernel_rfl
@[simp] theorem ty175 : tyOf Tryz.prog 175 = some ⟨1, 24, .slice 196 1, [.slice none 0 0]⟩ := by kernel_rfl
@[simp] theorem ty176 : tyOf Tryz.prog 176 = some ⟨3, 56, .struct [(0, 1), (1, 1), (2, 1)], [.slice none 0 0, .slice none 0 0, .bool false]⟩ := by kernel_rfl
@[simp] theorem ty177 : tyOf Tryz.prog 177 = some ⟨3, 56, .struct [(0, 1), (1, 1), (2, 1)], [.slice none 0 0, .slice none 0 0, .bool false]⟩ := by kernel_rfl
@[simp] theorem ty181 : tyOf Tryz.prog 181 = some ⟨3, 48, .arr 3 9 1, [.string ByteArray.empty, .string ByteArray.empty, .string ByteArray.empty]⟩ := by kernel_rfl
@[simp] theorem ty184 : tyOf Tryz.prog 184 = some ⟨2, 16, .arr 2 3 1, [.int .i64 0, .int .i64 0]⟩ := by kernel_rfl
@[simp] theorem ty185 : tyOf Tryz.prog 185 = some ⟨2, 2, .arr 2 5 1, [.int .u8 0, .int .u8 0]⟩ := by kernel_rfl
@[simp] theorem ty196 : tyOf Tryz.prog 196 = some ⟨1, 4, .int .u32, [.int .u32 0]⟩ := by kernel_rfl
@[simp] theorem ty197 : tyOf Tryz.prog 197 = some ⟨1, 8, .int .u64, [.int .u64 0]⟩ := by kernel_rfl
@[simp] theorem ty198 : tyOf Tryz.prog 198 = some ⟨1, 8, .int .u64, [.int .u64 0]⟩ := by kernel_rfl
@[simp] theorem ty233 : tyOf Tryz.prog 233 = some ⟨2, 48, .struct [(0, 1), (1, 1)], [.slice none 0 0, .slice none 0 0]⟩ := by kernel_rfl
@[simp] theorem ty234 : tyOf Tryz.prog 234 = some ⟨2, 48, .struct [(0, 1), (1, 1)], [.slice none 0 0, .slice none 0 0]⟩ := by kernel_rfl
@[simp] theorem ty238 : tyOf Tryz.prog 238 = some ⟨7, 120, .struct [(0, 1), (1, 3), (4, 3)], [.bool false, .bool false, .slice none 0 0, .slice none 0 0, .bool false, .slice none 0 0, .slice none 0 0]⟩ := by kernel_rfl
@[simp] theorem ty239 : tyOf Tryz.prog 239 = some ⟨7, 120, .struct [(0, 1), (1, 3), (4, 3)], [.bool false, .bool false, .slice none 0 0, .slice none 0 0, .bool false, .slice none 0 0, .slice none 0 0]⟩ := by kernel_rfl
@[simp] theorem ty247 : tyOf Tryz.prog 247 = some ⟨1, 24, .slice 177 3, [.slice none 0 0]⟩ := by kernel_rfl
@[simp] theorem ty267 : tyOf Tryz.prog 267 = some ⟨4, 40, .struct [(0, 1), (1, 1), (2, 1), (3, 1)], [.pointer none, .pointer none, .pointer none, .string ByteArray.empty]⟩ := by kernel_rfl
@[simp] theorem ty268 : tyOf Tryz.prog 268 = some ⟨4, 40, .struct [(0, 1), (1, 1), (2, 1), (3, 1)], [.pointer none, .pointer none, .pointer none, .string ByteArray.empty]⟩ := by kernel_rfl
@[simp] theorem ty269 : tyOf Tryz.prog 269 = some ⟨0, 0, .arr 0 16 1, []⟩ := by kernel_rfl
@[simp] theorem ty270 : tyOf Tryz.prog 270 = some ⟨0, 0, .struct [(0, 0)], []⟩ := by kernel_rfl
@[simp] theorem ty271 : tyOf Tryz.prog 271 = some ⟨0, 0, .struct [(0, 0)], []⟩ := by kernel_rfl
@[simp] theorem ty272 : tyOf Tryz.prog 272 = some ⟨1, 1, .int .u8, [.int .u8 0]⟩ := by kernel_rfl
@[simp] theorem ty273 : tyOf Tryz.prog 273 = some ⟨1, 1, .int .u8, [.int .u8 0]⟩ := by kernel_rfl
@[simp] theorem ty276 : tyOf Tryz.prog 276 = some ⟨1, 4, .int .i32, [.int .i32 0]⟩ := by kernel_rfl
@[simp] theorem ty277 : tyOf Tryz.prog 277 = some ⟨1, 4, .int .i32, [.int .i32 0]⟩ := by kernel_rfl
@[simp] theorem mixed : Tryz.prog.follows .mixedOrders = true := by kernel_rfl
end Go.Proofs.YtaljbebkooppiaaGreat.Sh

namespace Go.Proofs.YtaljbebkooppiaaGreat.Sh
def val : List Int → Int
  | [] => 0
  | x :: xs => x + 4294967296 * val xs
def InW (l : List Int) : Prop := ∀ x ∈ l, 0 ≤ x ∧ x < 4294967296
theorem val_nil : val [] = 0 := rfl
theorem val_cons (x : Int) (xs : List Int) : val (x :: xs) = x + 4294967296 * val xs := rfl
theorem val_append (a b : List Int) : val (a ++ b) = val a + 4294967296 ^ a.length * val b := by
  induction a with
  | nil => simp [val]
  | cons x xs ih => simp only [List.cons_append, val_cons, ih, List.length_cons, Int.pow_succ]; grind
theorem val_snoc (a : List Int) (x : Int) : val (a ++ [x]) = val a + 4294967296 ^ a.length * x := by
  rw [val_append]; simp [val]
theorem InW.nil : InW [] := by intro x hx; cases hx
theorem InW.cons {x : Int} {l : List Int} (h0 : 0 ≤ x) (h1 : x < 4294967296) (h : InW l) : InW (x :: l) := by
  intro y hy
  rcases List.mem_cons.1 hy with rfl | hy
  · exact ⟨h0, h1⟩
  · exact h y hy
theorem InW.tail {x : Int} {l : List Int} (h : InW (x :: l)) : InW l := fun y hy => h y (List.mem_cons_of_mem _ hy)
theorem InW.head {x : Int} {l : List Int} (h : InW (x :: l)) : 0 ≤ x ∧ x < 4294967296 := h x (List.mem_cons_self ..)
theorem InW.append {a b : List Int} (ha : InW a) (hb : InW b) : InW (a ++ b) := by
  intro x hx
  rcases List.mem_append.1 hx with hx | hx
  · exact ha x hx
  · exact hb x hx
theorem InW.left {a b : List Int} (h : InW (a ++ b)) : InW a := fun x hx => h x (List.mem_append_left _ hx)
theorem InW.right {a b : List Int} (h : InW (a ++ b)) : InW b := fun x hx => h x (List.mem_append_right _ hx)
theorem InW.take {a : List Int} (h : InW a) (n : Nat) : InW (a.take n) := fun x hx => h x (List.mem_of_mem_take hx)
theorem InW.drop {a : List Int} (h : InW a) (n : Nat) : InW (a.drop n) := fun x hx => h x (List.mem_of_mem_drop hx)
theorem pow_pos_ (n : Nat) : (0 : Int) < 4294967296 ^ n := Int.pow_pos (by decide)
theorem val_nonneg {l : List Int} (h : InW l) : 0 ≤ val l := by
  induction l with
  | nil => simp [val]
  | cons x xs ih => have := ih h.tail; have := h.head; rw [val_cons]; omega
theorem val_lt {l : List Int} (h : InW l) : val l < 4294967296 ^ l.length := by
  induction l with
  | nil => simp [val]
  | cons x xs ih =>
    have h1 := ih h.tail; have h2 := h.head
    rw [val_cons, List.length_cons, Int.pow_succ]; omega
def toW (n : Nat) : List Int := if h : n = 0 then [] else ((n % 4294967296 : Nat) : Int) :: toW (n / 4294967296)
termination_by n
decreasing_by omega
theorem toW_zero : toW 0 = [] := by rw [toW]; simp
theorem toW_pos {n : Nat} (h : n ≠ 0) : toW n = ((n % 4294967296 : Nat) : Int) :: toW (n / 4294967296) := by rw [toW]; simp [h]
theorem toW_inW (n : Nat) : InW (toW n) := by
  induction n using Nat.strongRecOn with
  | ind n ih =>
    by_cases h : n = 0
    · subst h; rw [toW_zero]; exact InW.nil
    · rw [toW_pos h]; exact InW.cons (by omega) (by omega) (ih _ (by omega))
theorem val_toW (n : Nat) : val (toW n) = n := by
  induction n using Nat.strongRecOn with
  | ind n ih =>
    by_cases h : n = 0
    · subst h; rw [toW_zero]; rfl
    · rw [toW_pos h, val_cons, ih _ (by omega)]; omega
def Trim (l : List Int) : Prop := l = [] ∨ ∃ a x, l = a ++ [x] ∧ x ≠ 0
theorem toW_eq_nil {n : Nat} : toW n = [] ↔ n = 0 := by
  constructor
  · intro h; by_cases h0 : n = 0
    · exact h0
    · rw [toW_pos h0] at h; cases h
  · rintro rfl; exact toW_zero
theorem toW_trim (n : Nat) : Trim (toW n) := by
  induction n using Nat.strongRecOn with
  | ind n ih =>
    by_cases h : n = 0
    · subst h; rw [toW_zero]; exact Or.inl rfl
    · rw [toW_pos h]
      rcases ih (n / 4294967296) (by omega) with h1 | ⟨a, x, h1, hx⟩
      · right; refine ⟨[], _, by rw [h1]; rfl, ?_⟩; rw [toW_eq_nil] at h1; omega
      · right; exact ⟨_ :: a, x, by rw [h1]; rfl, hx⟩
theorem toW_val {l : List Int} (h : InW l) (ht : Trim l) : toW (val l).toNat = l := by
  induction l with
  | nil => simp [val, toW_zero]
  | cons x xs ih =>
    have hx := h.head
    have hn := val_nonneg h.tail
    have htx : Trim xs := by
      rcases ht with h0 | ⟨a, y, h1, hy⟩
      · cases h0
      · cases a with
        | nil => left; simp at h1; exact h1.2
        | cons z zs => right; simp at h1; exact ⟨zs, y, h1.2, hy⟩
    have ih' := ih h.tail htx
    have hne : ¬ (val (x :: xs)).toNat = 0 := by
      rw [val_cons]
      intro h0
      have hv : val xs = 0 := by omega
      have hx0 : x = 0 := by omega
      rw [hv] at ih'
      simp [toW_zero] at ih'
      subst ih'
      rcases ht with h0 | ⟨a, y, h1, hy⟩
      · cases h0
      · cases a with
        | nil => simp at h1; exact hy (by rw [← h1, hx0])
        | cons z zs => simp at h1
    rw [toW_pos hne]
    have e1 : (((val (x :: xs)).toNat % 4294967296 : Nat) : Int) = x := by rw [val_cons]; omega
    have e2 : (val (x :: xs)).toNat / 4294967296 = (val xs).toNat := by rw [val_cons]; omega
    rw [e1, e2, ih']
theorem toW_inj {a b : Nat} (h : toW a = toW b) : a = b := by
  have := congrArg val h; rw [val_toW, val_toW] at this; omega
theorem toW_len_lt {n k : Nat} (h : n < 4294967296 ^ k) : (toW n).length ≤ k := by
  induction k generalizing n with
  | zero => simp at h; subst h; simp [toW_zero]
  | succ k ih =>
    by_cases h0 : n = 0
    · subst h0; simp [toW_zero]
    · rw [toW_pos h0, List.length_cons]
      have : n / 4294967296 < 4294967296 ^ k := by
        rw [Nat.div_lt_iff_lt_mul (by decide)]; rw [Nat.pow_succ] at h; exact h
      have := ih this; omega
theorem toW_lt (n : Nat) : n < 4294967296 ^ (toW n).length := by
  have h := val_lt (toW_inW n); rw [val_toW] at h
  have e : ((4294967296 : Int) ^ (toW n).length) = ((4294967296 ^ (toW n).length : Nat) : Int) := by rw [Int.natCast_pow]; rfl
  rw [e] at h
  exact Int.ofNat_lt.1 h
theorem toW_len_gt {n k : Nat} (h : k < (toW n).length) : 4294967296 ^ k ≤ n := by
  apply Nat.le_of_not_lt; intro hc; have := toW_len_lt hc; omega

end Go.Proofs.YtaljbebkooppiaaGreat.Sh

namespace Go.Proofs.YtaljbebkooppiaaGreat.Sh
open Go Go.RowKit
@[simp] def wS (l : List Int) : S1 := .sl true 1 (l.map fun x => [.int .u32 x])
@[simp] def nS (n : Nat) : S1 := wS (toW n)
set_option maxRecDepth 20000 in
theorem trimR_s (l : List Int) (h : InW l) (hl : l.length < 9223372036854775807) : CallsS Tryz.prog 133 [.one (wS l)] (.v (.one (nS (val l).toNat))) := by
  refine calls Tryz.func133 rfl (by rfl) (by rfl) (by kernel_rfl) ?_
  simp -dsimp -implicitDefEqProofs [Tryz.f133]
  refine sw_loop_e (fun x : {n : Nat // n ≤ l.length ∧ val (l.take n) = val l} => SS.of [(0, .v (.one (wS l))), (2, .v (.one .nils)), (3, I .i64 x.1)] [] 0) (fun x => x.1) ⟨l.length, by simp⟩ (by kernel_rfl) (Le.to (by simp) (by simp) (by simp)) ?_
  rintro ⟨n, hn, hv⟩
  cases n with
  | zero =>
    have : val l = 0 := by rw [← hv]; rfl
    simp -dsimp -implicitDefEqProofs [this, toW_zero]
  | succ n =>
    have w : IntKind.i64.wrap (n : Int) = n := wrap_i64 _ (by omega) (by omega)
    have hn' : n < l.length := hn
    have ht : l.take (n + 1) = l.take n ++ [l[n]] := by rw [List.take_add_one, List.getElem?_eq_getElem hn']; rfl
    simp -dsimp -implicitDefEqProofs [w, hn']
    refine ⟨fun h0 => Again.by ⟨n, by omega, ?_⟩ (Le.to (by simp) (by simp) (by simp)) (by simp), fun h0 => ⟨⟨by omega, by omega⟩, ?_⟩⟩
    · rw [← hv, ht, h0, val_snoc]; simp
    · rw [← hv, toW_val (h.take _) (Or.inr ⟨_, _, ht, h0⟩), List.map_take]
set_option maxRecDepth 20000 in
theorem trimF_s (l : List Int) (h : InW l) (hl : l.length < 9223372036854775807) : CallsS Tryz.prog 202 [.one (wS l)] (.v (.one (nS (val l).toNat))) := by
  refine calls Tryz.func202 rfl (by rfl) (by rfl) (by kernel_rfl) ?_
  simp -dsimp -implicitDefEqProofs [Tryz.f202]
  refine sw_loop_e (fun x : {n : Nat // n ≤ l.length ∧ val (l.take n) = val l} => SS.of [(0, .v (.one (wS l))), (2, .v (.one .nils)), (3, I .i64 x.1)] [] 0) (fun x => x.1) ⟨l.length, by simp⟩ (by kernel_rfl) (Le.to (by simp) (by simp) (by simp)) ?_
  rintro ⟨n, hn, hv⟩
  cases n with
  | zero =>
    have : val l = 0 := by rw [← hv]; rfl
    simp -dsimp -implicitDefEqProofs [this, toW_zero]
  | succ n =>
    have w : IntKind.i64.wrap (n : Int) = n := wrap_i64 _ (by omega) (by omega)
    have hn' : n < l.length := hn
    have ht : l.take (n + 1) = l.take n ++ [l[n]] := by rw [List.take_add_one, List.getElem?_eq_getElem hn']; rfl
    simp -dsimp -implicitDefEqProofs [w, hn']
    refine ⟨fun h0 => Again.by ⟨n, by omega, ?_⟩ (Le.to (by simp) (by simp) (by simp)) (by simp), fun h0 => ⟨⟨by omega, by omega⟩, ?_⟩⟩
    · rw [← hv, ht, h0, val_snoc]; simp
    · rw [← hv, toW_val (h.take _) (Or.inr ⟨_, _, ht, h0⟩), List.map_take]
end Go.Proofs.YtaljbebkooppiaaGreat.Sh

namespace Go.Proofs.YtaljbebkooppiaaGreat.Sh
open Go Go.RowKit
def cmpN (a b : Nat) : Int := if a < b then -1 else if a = b then 0 else 1
theorem cmpN_lt {a b : Nat} (h : a < b) : cmpN a b = -1 := if_pos h
theorem cmpN_gt {a b : Nat} (h : b < a) : cmpN a b = 1 := by unfold cmpN; rw [if_neg (by omega), if_neg (by omega)]
theorem cmpN_eq {a b : Nat} (h : a = b) : cmpN a b = 0 := by unfold cmpN; rw [if_neg (by omega), if_pos h]
theorem lt_of_len {a b : Nat} (h : (toW a).length < (toW b).length) : a < b := Nat.lt_of_lt_of_le (toW_lt a) (toW_len_gt h)
theorem val_split (l : List Int) (i : Nat) (h : i < l.length) : val l = val (l.take i) + 4294967296 ^ i * (l[i] + 4294967296 * val (l.drop (i + 1))) := by
  have e : l = l.take i ++ l[i] :: l.drop (i + 1) := by rw [List.getElem_cons_drop, List.take_append_drop]
  have : val l = val (l.take i ++ l[i] :: l.drop (i + 1)) := congrArg val e
  rw [this, val_append, val_cons, List.length_take, Nat.min_eq_left (by omega)]
theorem val_lt_of {x y : List Int} (hx : InW x) (hy : InW y) {i : Nat} (h1 : i < x.length) (h2 : i < y.length) (hd : x.drop (i + 1) = y.drop (i + 1)) (hlt : x[i] < y[i]) : val x < val y := by
  rw [val_split x i h1, val_split y i h2, hd]
  have a1 := val_lt (hx.take i)
  have a2 := val_nonneg (hy.take i)
  rw [List.length_take, Nat.min_eq_left (by omega)] at a1
  have hp := pow_pos_ i
  generalize val (x.take i) = A at *
  generalize val (y.take i) = C at *
  generalize val (y.drop (i + 1)) = D at *
  generalize (4294967296 : Int) ^ i = P at *
  have : P * (x[i] + 4294967296 * D) + P ≤ P * (y[i] + 4294967296 * D) := by
    have : P * (x[i] + 4294967296 * D) + P = P * (x[i] + 1 + 4294967296 * D) := by simp [Int.mul_add]; omega
    rw [this]
    exact Int.mul_le_mul_of_nonneg_left (by omega) (by omega)
  omega
theorem toW_lt_of {a b i : Nat} (h1 : i < (toW a).length) (h2 : i < (toW b).length) (hd : (toW a).drop (i + 1) = (toW b).drop (i + 1)) (hlt : (toW a)[i] < (toW b)[i]) : a < b := by
  have := val_lt_of (toW_inW a) (toW_inW b) h1 h2 hd hlt
  rw [val_toW, val_toW] at this
  omega
set_option maxRecDepth 20000 in
theorem order_s (a b : Nat) (ha : (toW a).length ≤ 140737488355328) (hb : (toW b).length ≤ 140737488355328) : CallsS Tryz.prog 71 [.one (nS a), .one (nS b)] (I .i64 (cmpN a b)) := by
  refine calls Tryz.func71 rfl (by rfl) (by rfl) (by kernel_rfl) ?_
  by_cases hne : (toW a).length = (toW b).length
  case neg =>
    by_cases hlt : (toW a).length < (toW b).length
    · rw [cmpN_lt (lt_of_len hlt)]
      simp -dsimp -implicitDefEqProofs [Tryz.f71, hne, hlt]
    · rw [cmpN_gt (lt_of_len (by omega))]
      simp -dsimp -implicitDefEqProofs [Tryz.f71, hne, hlt]
  have w : IntKind.i64.wrap (((toW b).length : Int) - 1) = (toW b).length - 1 := wrap_i64 _ (by omega) (by omega)
  simp -dsimp -implicitDefEqProofs [Tryz.f71, hne, w]
  refine sw_loop_e (fun x : {n : Nat // n ≤ (toW b).length ∧ (toW a).drop n = (toW b).drop n} => SS.of [(0, .v (.one (nS a))), (1, .v (.one (nS b))), (5, I .i64 (x.1 - 1))] [] 0) (fun x => x.1) ⟨(toW b).length, by simp [← hne]⟩ (by kernel_rfl) (Le.to (by simp) (by simp) (by simp)) ?_
  rintro ⟨n, hn, hd⟩
  cases n with
  | zero =>
    have he : a = b := toW_inj (by simpa using hd)
    rw [cmpN_eq he]
    simp -dsimp -implicitDefEqProofs
  | succ n =>
    have h1 : n < (toW a).length := by omega
    have h2 : n < (toW b).length := by omega
    have w2 : IntKind.i64.wrap ((n : Int) - 1) = n - 1 := wrap_i64 _ (by omega) (by omega)
    simp -dsimp -implicitDefEqProofs [h1, h2, w2]
    refine ⟨fun he => ?_, fun hne2 => ⟨fun hlt => ?_, fun hge => ?_⟩⟩
    · refine Again.by ⟨n, by omega, ?_⟩ (Le.to (by simp) (by simp) (by simp)) (by simp)
      rw [List.drop_eq_getElem_cons h1, List.drop_eq_getElem_cons h2, hd, he]
    · rw [cmpN_lt (toW_lt_of h1 h2 hd hlt)]
    · rw [cmpN_gt (toW_lt_of h2 h1 hd.symm (by omega))]
set_option maxRecDepth 20000 in
theorem cmp_s (a b : Nat) (ha : (toW a).length ≤ 140737488355328) (hb : (toW b).length ≤ 140737488355328) : CallsS Tryz.prog 164 [.one (nS a), .one (nS b)] (I .i64 (cmpN a b)) := by
  refine calls Tryz.func164 rfl (by rfl) (by rfl) (by kernel_rfl) ?_
  by_cases hne : (toW a).length = (toW b).length
  case neg =>
    by_cases hlt : (toW a).length < (toW b).length
    · rw [cmpN_lt (lt_of_len hlt)]
      simp -dsimp -implicitDefEqProofs [Tryz.f164, hne, hlt]
    · rw [cmpN_gt (lt_of_len (by omega))]
      simp -dsimp -implicitDefEqProofs [Tryz.f164, hne, hlt]
  have w : IntKind.i64.wrap (((toW b).length : Int) - 1) = (toW b).length - 1 := wrap_i64 _ (by omega) (by omega)
  simp -dsimp -implicitDefEqProofs [Tryz.f164, hne, w]
  refine sw_loop_e (fun x : {n : Nat // n ≤ (toW b).length ∧ (toW a).drop n = (toW b).drop n} => SS.of [(0, .v (.one (nS a))), (1, .v (.one (nS b))), (5, I .i64 (x.1 - 1))] [] 0) (fun x => x.1) ⟨(toW b).length, by simp [← hne]⟩ (by kernel_rfl) (Le.to (by simp) (by simp) (by simp)) ?_
  rintro ⟨n, hn, hd⟩
  cases n with
  | zero =>
    have he : a = b := toW_inj (by simpa using hd)
    rw [cmpN_eq he]
    simp -dsimp -implicitDefEqProofs
  | succ n =>
    have h1 : n < (toW a).length := by omega
    have h2 : n < (toW b).length := by omega
    have w2 : IntKind.i64.wrap ((n : Int) - 1) = n - 1 := wrap_i64 _ (by omega) (by omega)
    simp -dsimp -implicitDefEqProofs [h1, h2, w2]
    refine ⟨fun he => ?_, fun hne2 => ⟨fun hlt => ?_, fun hge => ?_⟩⟩
    · refine Again.by ⟨n, by omega, ?_⟩ (Le.to (by simp) (by simp) (by simp)) (by simp)
      rw [List.drop_eq_getElem_cons h1, List.drop_eq_getElem_cons h2, hd, he]
    · rw [cmpN_lt (toW_lt_of h1 h2 hd hlt)]
    · rw [cmpN_gt (toW_lt_of h2 h1 hd.symm (by omega))]
end Go.Proofs.YtaljbebkooppiaaGreat.Sh

namespace Go.Proofs.YtaljbebkooppiaaGreat.Sh
open Go Go.RowKit
@[simp] def oS (l : List Int) : SObj := ⟨196, l.map fun x => .int .u32 x⟩
@[simp] theorem rowsOf_words (f : Int → S1) (l : List Int) (n : Nat) (h : n = l.length) : rowsOf (l.map f) 0 1 n = l.map fun x => [f x] := by
  subst h
  unfold rowsOf
  apply List.ext_getElem
  · simp
  · intro i h1 h2
    simp at h1
    simp only [List.getElem_map, List.getElem_range, Nat.zero_add, Nat.mul_one]
    rw [List.drop_eq_getElem_cons (by simpa using h1)]
    simp
theorem wrap_u64_id (z : Int) (h0 : 0 ≤ z) (h1 : z < 18446744073709551616) : IntKind.u64.wrap z = z := by rw [wrap_u64]; omega
theorem wrap_u32_id (z : Int) (h0 : 0 ≤ z) (h1 : z < 4294967296) : IntKind.u32.wrap z = z := by rw [wrap_u32]; omega
@[simp] theorem close_words (k : IntKind) (l : List Int) : List.map (S1.close ∘ fun x => S1.int k x) l = l.map fun x => .int k x := rfl
@[simp] theorem rowsOf_set (k : IntKind) (l : List Int) (n i : Nat) (v : Int) (h : n = l.length) : rowsOf ((l.map fun x => S1.int k x).set i (.int k v)) 0 1 n = (l.set i v).map fun x => [.int k x] := by
  rw [← rowsOf_words (fun x => S1.int k x) (l.set i v) n (by simp [h]), List.map_set]
theorem shr32 (s : Int) : s.fdiv (2 ^ min 32 IntKind.u64.bits) = s / 4294967296 := by
  show s.fdiv 4294967296 = _
  exact Int.fdiv_eq_ediv_of_nonneg s (by omega)
theorem and_mask (s : Int) (h0 : 0 ≤ s) (h1 : s < 18446744073709551616) : bitsOf .and .u64 s 4294967295 = s % 4294967296 := by
  obtain ⟨n, rfl⟩ := Int.eq_ofNat_of_zero_le h0
  have e : (BitVec.ofInt 64 (n : Int) &&& BitVec.ofInt 64 4294967295).toNat = n % 4294967296 := by
    rw [BitVec.toNat_and, BitVec.toNat_ofInt, BitVec.toNat_ofInt]
    have : ((n : Int) % ((2 ^ 64 : Nat) : Int)).toNat = n := by omega
    rw [this]
    exact Nat.and_two_pow_sub_one_eq_mod n 32
  show IntKind.u64.wrap (BitVec.ofInt 64 (n : Int) &&& BitVec.ofInt 64 4294967295).toNat = _
  rw [e, wrap_u64]
  omega
theorem word_of (s : Int) (h0 : 0 ≤ s) (h1 : s < 18446744073709551616) : IntKind.u32.wrap (bitsOf .and .u64 s 4294967295) = s % 4294967296 := by
  rw [and_mask s h0 h1, wrap_u32_id _ (by omega) (by omega)]
theorem word_id (s : Int) (h0 : 0 ≤ s) (h1 : s < 4294967296) : IntKind.u32.wrap (bitsOf .and .u64 s 4294967295) = s := by rw [word_of s h0 (by omega)]; omega
def at0 (x : List Int) (i : Nat) : Int := (x[i]?).getD 0
theorem at0_lt {x : List Int} {i : Nat} (h : i < x.length) : at0 x i = x[i] := by simp [at0, h]
theorem at0_ge {x : List Int} {i : Nat} (h : x.length ≤ i) : at0 x i = 0 := by simp [at0, h]
theorem val_take_succ (x : List Int) (i : Nat) : val (x.take (i + 1)) = val (x.take i) + 4294967296 ^ i * at0 x i := by
  by_cases h : i < x.length
  · rw [at0_lt h, List.take_add_one, List.getElem?_eq_getElem h]
    simp only [Option.toList]
    rw [val_snoc, List.length_take, Nat.min_eq_left (by omega)]
  · rw [at0_ge (by omega), List.take_of_length_le (by omega), List.take_of_length_le (by omega)]; simp
theorem at0_W {x : List Int} (h : InW x) (i : Nat) : 0 ≤ at0 x i ∧ at0 x i < 4294967296 := by
  by_cases hi : i < x.length
  · rw [at0_lt hi]; exact h _ (List.getElem_mem hi)
  · rw [at0_ge (by omega)]; omega
structure PlusInv (x y : List Int) (n i : Nat) (l : List Int) (c : Int) : Prop where
  hi : i ≤ n + 1
  len : l.length = n + 1
  inw : InW l
  c0 : 0 ≤ c
  c1 : c ≤ 1
  eq : val (l.take i) + 4294967296 ^ i * c = val (x.take i) + val (y.take i)
theorem PlusInv.step {x y : List Int} {n i : Nat} {l : List Int} {c : Int} (h : PlusInv x y n i l c) (hx : InW x) (hy : InW y) (hi : i ≤ n) {s : Int} (hs : s = c + at0 x i + at0 y i) :
    PlusInv x y n (i + 1) (l.set i (s % 4294967296)) (s / 4294967296) := by
  have ax := at0_W hx i
  have ay := at0_W hy i
  have h0 := h.c0
  have h1 := h.c1
  have hl : i < l.length := by rw [h.len]; omega
  refine ⟨by omega, by simp [h.len], ?_, by omega, by omega, ?_⟩
  · intro z hz
    rcases List.mem_or_eq_of_mem_set hz with hz | rfl
    · exact h.inw z hz
    · omega
  · rw [val_take_succ x, val_take_succ y, val_take_succ (l.set i _)]
    have e1 : (l.set i (s % 4294967296)).take i = l.take i := by rw [List.take_set_of_le (Nat.le_refl i)]
    have e2 : at0 (l.set i (s % 4294967296)) i = s % 4294967296 := by simp [at0, hl]
    rw [e1, e2]
    have e3 : (4294967296 : Int) ^ (i + 1) * (s / 4294967296) = 4294967296 ^ i * (4294967296 * (s / 4294967296)) := by rw [Int.pow_succ, Int.mul_assoc]
    have e4 := Int.emod_add_mul_ediv s 4294967296
    have e5 := h.eq
    rw [e3]
    have e6 : (4294967296 : Int) ^ i * (s % 4294967296) + 4294967296 ^ i * (4294967296 * (s / 4294967296)) = 4294967296 ^ i * s := by rw [← Int.mul_add, e4]
    have e7 : (4294967296 : Int) ^ i * s = 4294967296 ^ i * c + 4294967296 ^ i * at0 x i + 4294967296 ^ i * at0 y i := by rw [hs, Int.mul_add, Int.mul_add]
    omega
theorem pow_mono_ {a b : Nat} (h : a ≤ b) : (4294967296 : Int) ^ a ≤ 4294967296 ^ b := by
  obtain ⟨k, rfl⟩ := Nat.exists_eq_add_of_le h
  rw [Int.pow_add]
  have h1 := pow_pos_ a
  have h2 := pow_pos_ k
  have h3 : (4294967296 : Int) ^ a * 1 ≤ 4294967296 ^ a * 4294967296 ^ k := Int.mul_le_mul_of_nonneg_left (by omega) (by omega)
  omega
theorem PlusInv.done {x y : List Int} {n : Nat} {l : List Int} {c : Int} (h : PlusInv x y n (n + 1) l c) (hx : InW x) (hy : InW y) (h1 : x.length ≤ n) (h2 : y.length ≤ n) : val l = val x + val y := by
  have e := h.eq
  rw [List.take_of_length_le (by rw [h.len]; omega), List.take_of_length_le (by omega), List.take_of_length_le (by omega)] at e
  have a1 := val_lt hx
  have a2 := val_lt hy
  have b0 := val_nonneg h.inw
  have p1 : (4294967296 : Int) ^ x.length ≤ 4294967296 ^ n := pow_mono_ h1
  have p2 : (4294967296 : Int) ^ y.length ≤ 4294967296 ^ n := pow_mono_ h2
  have p3 : (4294967296 : Int) ^ (n + 1) = 4294967296 ^ n * 4294967296 := Int.pow_succ ..
  have hp := pow_pos_ n
  have hc0 := h.c0
  have hc1 := h.c1
  have : c = 0 := by
    by_cases hc : c = 1
    · subst hc; omega
    · omega
  subst this
  omega
set_option maxRecDepth 20000 in
theorem plus_s (x y : List Int) (hx : InW x) (hy : InW y) (h1 : x.length ≤ 35184372088832) (h2 : y.length ≤ 35184372088832) : CallsS Tryz.prog 211 [.one (wS x), .one (wS y)] (.v (.one (nS (val x + val y).toNat))) := by
  refine calls Tryz.func211 rfl (by rfl) (by rfl) (by kernel_rfl) ?_
  obtain ⟨n, hn⟩ : ∃ n : Nat, (if (x.length : Int) < y.length then (y.length : Int) else x.length) = n := ⟨max x.length y.length, by split <;> omega⟩
  have hn1 : x.length ≤ n := by split at hn <;> omega
  have hn2 : y.length ≤ n := by split at hn <;> omega
  have hn3 : n ≤ 35184372088832 := by split at hn <;> omega
  have w : IntKind.i64.wrap ((n : Int) + 1) = ((n + 1 : Nat) : Int) := by rw [wrap_i64 _ (by omega) (by omega)]; rfl
  have hn' : (if x.length < y.length then (y.length : Int) else x.length) = n := by rw [← hn]; split <;> split <;> omega
  simp -dsimp -implicitDefEqProofs [Tryz.f211, hn', w]
  refine ⟨⟨by omega, by omega, by omega⟩, ?_⟩
  refine sw_loop_e (fun p : {p : Nat × List Int × Int // PlusInv x y n p.1 p.2.1 p.2.2} => SS.of [(0, .v (.one (wS x))), (1, .v (.one (wS y))), (5, I .i64 n), (6, .v (.one (.ms 0 0 (n + 1) 1 true))), (7, I .u64 p.1.2.2), (8, I .i64 p.1.1)] [(0, oS p.1.2.1)] 1)
    (fun p => n + 1 - p.1.1) ⟨(0, List.replicate (n + 1) 0, 0), ⟨by simp, by simp, by intro z hz; rw [List.eq_of_mem_replicate hz]; omega, by simp, by simp, by simp [val]⟩⟩ (by kernel_rfl) (Le.to (by simp) (by simp) (by simp)) ?_
  rintro ⟨⟨i, l, c⟩, hp⟩
  simp only at hp
  by_cases hi : i ≤ n
  · have hi' : ¬ n < i := by omega
    have ax := at0_W hx i
    have ay := at0_W hy i
    have c0 := hp.c0
    have c1 := hp.c1
    have hlen := hp.len
    have wi : IntKind.i64.wrap ((i : Int) + 1) = ((i + 1 : Nat) : Int) := by rw [wrap_i64 _ (by omega) (by omega)]; rfl
    by_cases a1 : i < x.length
    · by_cases a2 : i < y.length
      · have hS : IntKind.u64.wrap (IntKind.u64.wrap (c + IntKind.u64.wrap x[i]) + IntKind.u64.wrap y[i]) = c + at0 x i + at0 y i := by
          have e1 := at0_lt a1
          have e2 := at0_lt a2
          rw [wrap_u64_id x[i] (by omega) (by omega), wrap_u64_id (c + x[i]) (by omega) (by omega)]
          rw [wrap_u64_id y[i] (by omega) (by omega), wrap_u64_id _ (by omega) (by omega)]
          omega
        simp -dsimp -implicitDefEqProofs (disch := omega) [hi, hlen, wi, a1, a2, List.getElem?_cons_zero]
        refine ⟨by omega, Again.by ⟨(i + 1, l.set i ((c + at0 x i + at0 y i) % 4294967296), (c + at0 x i + at0 y i) / 4294967296), hp.step hx hy hi rfl⟩ (Le.to ?_ ?_ ?_) ?_⟩
        all_goals simp [hS, shr32, word_of (c + at0 x i + at0 y i) (by omega) (by omega)]
        all_goals omega
      · have hS : IntKind.u64.wrap (c + IntKind.u64.wrap x[i]) = c + at0 x i + at0 y i := by
          have e1 := at0_lt a1
          have e2 := at0_ge (x := y) (i := i) (by omega)
          rw [wrap_u64_id x[i] (by omega) (by omega), wrap_u64_id (c + x[i]) (by omega) (by omega)]
          omega
        simp -dsimp -implicitDefEqProofs (disch := omega) [hi, hlen, wi, a1, a2, List.getElem?_cons_zero]
        refine ⟨by omega, Again.by ⟨(i + 1, l.set i ((c + at0 x i + at0 y i) % 4294967296), (c + at0 x i + at0 y i) / 4294967296), hp.step hx hy hi rfl⟩ (Le.to ?_ ?_ ?_) ?_⟩
        all_goals simp [hS, shr32, word_of (c + at0 x i + at0 y i) (by omega) (by omega)]
        all_goals omega
    · by_cases a2 : i < y.length
      · have hS : IntKind.u64.wrap (c + IntKind.u64.wrap y[i]) = c + at0 x i + at0 y i := by
          have e1 := at0_ge (x := x) (i := i) (by omega)
          have e2 := at0_lt a2
          rw [wrap_u64_id y[i] (by omega) (by omega), wrap_u64_id _ (by omega) (by omega)]
          omega
        simp -dsimp -implicitDefEqProofs (disch := omega) [hi, hlen, wi, a1, a2, List.getElem?_cons_zero]
        refine ⟨by omega, Again.by ⟨(i + 1, l.set i ((c + at0 x i + at0 y i) % 4294967296), (c + at0 x i + at0 y i) / 4294967296), hp.step hx hy hi rfl⟩ (Le.to ?_ ?_ ?_) ?_⟩
        all_goals simp [hS, shr32, word_of (c + at0 x i + at0 y i) (by omega) (by omega)]
        all_goals omega
      · have hS : c + at0 x i + at0 y i = c := by
          have e1 := at0_ge (x := x) (i := i) (by omega)
          have e2 := at0_ge (x := y) (i := i) (by omega)
          omega
        simp -dsimp -implicitDefEqProofs (disch := omega) [hi, hlen, wi, a1, a2, List.getElem?_cons_zero]
        refine ⟨by omega, Again.by ⟨(i + 1, l.set i ((c + at0 x i + at0 y i) % 4294967296), (c + at0 x i + at0 y i) / 4294967296), hp.step hx hy hi rfl⟩ (Le.to ?_ ?_ ?_) ?_⟩
        all_goals simp [hS, shr32, word_of c (by omega) (by omega)]
        all_goals omega
  · have hi2 : i = n + 1 := by have := hp.hi; omega
    subst hi2
    have hv := hp.done hx hy hn1 hn2
    have hlen := hp.len
    have hne : ¬ ((n : Int) + 1 ≤ n) := by omega
    have hlt : (n : Int) < n + 1 := by omega
    simp -dsimp -implicitDefEqProofs [hlen, hne, hlt]
    have ht := trimR_s l hp.inw (by omega)
    rw [hv] at ht
    refine eCall.of ht (by simp [hlen]) ?_
    simp -dsimp -implicitDefEqProofs
end Go.Proofs.YtaljbebkooppiaaGreat.Sh

namespace Go.Proofs.YtaljbebkooppiaaGreat.Sh
open Go Go.RowKit
theorem PlusInv.done2 {x y : List Int} {n : Nat} {l : List Int} {c : Int} (h : PlusInv x y n n l c) (h1 : x.length ≤ n) (h2 : y.length ≤ n) : val (l.set n c) = val x + val y ∧ InW (l.set n c) := by
  have e := h.eq
  have hl := h.len
  rw [List.take_of_length_le (l := x) (by omega), List.take_of_length_le (l := y) (by omega)] at e
  have c0 := h.c0
  have c1 := h.c1
  refine ⟨?_, ?_⟩
  · have e1 : val ((l.set n c).take (n + 1)) = val ((l.set n c).take n) + 4294967296 ^ n * at0 (l.set n c) n := val_take_succ _ _
    rw [List.take_of_length_le (by simp; omega), List.take_set_of_le (Nat.le_refl n)] at e1
    have e2 : at0 (l.set n c) n = c := by simp [at0, hl]
    rw [e1, e2]; exact e
  · intro z hz
    rcases List.mem_or_eq_of_mem_set hz with hz | rfl
    · exact h.inw z hz
    · omega
set_option maxRecDepth 20000 in
theorem add_s (a b : List Int) (ha : InW a) (hb : InW b) (h1 : a.length ≤ 35184372088832) (h2 : b.length ≤ 35184372088832) : CallsS Tryz.prog 215 [.one (wS a), .one (wS b)] (.v (.one (nS (val a + val b).toNat))) := by
  refine calls Tryz.func215 rfl (by rfl) (by rfl) (by kernel_rfl) ?_
  by_cases hlt : a.length < b.length
  · have w : IntKind.i64.wrap ((b.length : Int) + 1) = ((b.length + 1 : Nat) : Int) := by rw [wrap_i64 _ (by omega) (by omega)]; rfl
    simp -dsimp -implicitDefEqProofs [Tryz.f215, hlt, w]
    refine ⟨⟨by omega, by omega, by omega⟩, ?_⟩
    refine sw_loop_e (fun p : {p : Nat × List Int × Int // PlusInv b a b.length p.1 p.2.1 p.2.2 ∧ p.1 ≤ b.length} => SS.of [(0, .v (.one (wS b))), (1, .v (.one (wS a))), (4, .v (.one .nils)), (5, .v (.one (.ms 0 0 (b.length + 1) 1 true))), (6, I .u64 p.1.2.2), (21, I .i64 b.length), (22, I .i64 p.1.1)] [(0, oS p.1.2.1)] 1)
      (fun p => b.length - p.1.1) ⟨(0, List.replicate (b.length + 1) 0, 0), ⟨by simp, by simp, by intro z hz; rw [List.eq_of_mem_replicate hz]; omega, by simp, by simp, by simp [val]⟩, by simp⟩ (by kernel_rfl) (Le.to (by simp) (by simp) (by simp)) ?_
    rintro ⟨⟨i, l, c⟩, hp, hil⟩
    simp only at hp hil
    have c0 := hp.c0
    have c1 := hp.c1
    have hlen := hp.len
    by_cases a1 : i < b.length
    · have ax := at0_W hb i
      have ay := at0_W ha i
      have wi : IntKind.i64.wrap ((i : Int) + 1) = ((i + 1 : Nat) : Int) := by rw [wrap_i64 _ (by omega) (by omega)]; rfl
      have e1 := at0_lt a1
      by_cases a2 : i < a.length
      · have e2 := at0_lt a2
        have hS : IntKind.u64.wrap (IntKind.u64.wrap (IntKind.u64.wrap b[i] + c) + IntKind.u64.wrap a[i]) = c + at0 b i + at0 a i := by
          rw [wrap_u64_id b[i] (by omega) (by omega), wrap_u64_id (b[i] + c) (by omega) (by omega), wrap_u64_id a[i] (by omega) (by omega), wrap_u64_id _ (by omega) (by omega)]
          omega
        simp -dsimp -implicitDefEqProofs (disch := omega) [hlen, wi, a1, a2, List.getElem?_cons_zero]
        refine ⟨by omega, by omega, Again.by ⟨(i + 1, l.set i ((c + at0 b i + at0 a i) % 4294967296), (c + at0 b i + at0 a i) / 4294967296), hp.step hb ha (by omega) rfl, by simp only; omega⟩ (Le.to ?_ ?_ ?_) ?_⟩
        all_goals simp [hS, shr32, wrap_u32]
        all_goals omega
      · have e2 := at0_ge (x := a) (i := i) (by omega)
        have hS : IntKind.u64.wrap (IntKind.u64.wrap b[i] + c) = c + at0 b i + at0 a i := by
          rw [wrap_u64_id b[i] (by omega) (by omega), wrap_u64_id (b[i] + c) (by omega) (by omega)]
          omega
        simp -dsimp -implicitDefEqProofs (disch := omega) [hlen, wi, a1, a2, List.getElem?_cons_zero]
        refine ⟨by omega, by omega, Again.by ⟨(i + 1, l.set i ((c + at0 b i + at0 a i) % 4294967296), (c + at0 b i + at0 a i) / 4294967296), hp.step hb ha (by omega) rfl, by simp only; omega⟩ (Le.to ?_ ?_ ?_) ?_⟩
        all_goals simp [hS, shr32, wrap_u32]
        all_goals omega
    · have hi2 : i = b.length := by omega
      subst hi2
      obtain ⟨hv, hw⟩ := hp.done2 (Nat.le_refl _) (by omega)
      have hlt2 : (b.length : Int) < b.length + 1 := by omega
      have wc : IntKind.u32.wrap c = c := wrap_u32_id c (by omega) (by omega)
      simp -dsimp -implicitDefEqProofs [hlen, hlt2, wc]
      have ht := trimF_s _ hw (by simp; omega)
      rw [hv] at ht
      refine eCall.of ht (by simp [hlen]) ?_
      simp -dsimp -implicitDefEqProofs [Int.add_comm]
  · have w : IntKind.i64.wrap ((a.length : Int) + 1) = ((a.length + 1 : Nat) : Int) := by rw [wrap_i64 _ (by omega) (by omega)]; rfl
    simp -dsimp -implicitDefEqProofs [Tryz.f215, hlt, w]
    refine ⟨⟨by omega, by omega, by omega⟩, ?_⟩
    refine sw_loop_e (fun p : {p : Nat × List Int × Int // PlusInv a b a.length p.1 p.2.1 p.2.2 ∧ p.1 ≤ a.length} => SS.of [(0, .v (.one (wS a))), (1, .v (.one (wS b))), (4, .v (.one .nils)), (5, .v (.one (.ms 0 0 (a.length + 1) 1 true))), (6, I .u64 p.1.2.2), (21, I .i64 a.length), (22, I .i64 p.1.1)] [(0, oS p.1.2.1)] 1)
      (fun p => a.length - p.1.1) ⟨(0, List.replicate (a.length + 1) 0, 0), ⟨by simp, by simp, by intro z hz; rw [List.eq_of_mem_replicate hz]; omega, by simp, by simp, by simp [val]⟩, by simp⟩ (by kernel_rfl) (Le.to (by simp) (by simp) (by simp)) ?_
    rintro ⟨⟨i, l, c⟩, hp, hil⟩
    simp only at hp hil
    have c0 := hp.c0
    have c1 := hp.c1
    have hlen := hp.len
    by_cases a1 : i < a.length
    · have ax := at0_W ha i
      have ay := at0_W hb i
      have wi : IntKind.i64.wrap ((i : Int) + 1) = ((i + 1 : Nat) : Int) := by rw [wrap_i64 _ (by omega) (by omega)]; rfl
      have e1 := at0_lt a1
      by_cases a2 : i < b.length
      · have e2 := at0_lt a2
        have hS : IntKind.u64.wrap (IntKind.u64.wrap (IntKind.u64.wrap a[i] + c) + IntKind.u64.wrap b[i]) = c + at0 a i + at0 b i := by
          rw [wrap_u64_id a[i] (by omega) (by omega), wrap_u64_id (a[i] + c) (by omega) (by omega), wrap_u64_id b[i] (by omega) (by omega), wrap_u64_id _ (by omega) (by omega)]
          omega
        simp -dsimp -implicitDefEqProofs (disch := omega) [hlen, wi, a1, a2, List.getElem?_cons_zero]
        refine ⟨by omega, by omega, Again.by ⟨(i + 1, l.set i ((c + at0 a i + at0 b i) % 4294967296), (c + at0 a i + at0 b i) / 4294967296), hp.step ha hb (by omega) rfl, by simp only; omega⟩ (Le.to ?_ ?_ ?_) ?_⟩
        all_goals simp [hS, shr32, wrap_u32]
        all_goals omega
      · have e2 := at0_ge (x := b) (i := i) (by omega)
        have hS : IntKind.u64.wrap (IntKind.u64.wrap a[i] + c) = c + at0 a i + at0 b i := by
          rw [wrap_u64_id a[i] (by omega) (by omega), wrap_u64_id (a[i] + c) (by omega) (by omega)]
          omega
        simp -dsimp -implicitDefEqProofs (disch := omega) [hlen, wi, a1, a2, List.getElem?_cons_zero]
        refine ⟨by omega, by omega, Again.by ⟨(i + 1, l.set i ((c + at0 a i + at0 b i) % 4294967296), (c + at0 a i + at0 b i) / 4294967296), hp.step ha hb (by omega) rfl, by simp only; omega⟩ (Le.to ?_ ?_ ?_) ?_⟩
        all_goals simp [hS, shr32, wrap_u32]
        all_goals omega
    · have hi2 : i = a.length := by omega
      subst hi2
      obtain ⟨hv, hw⟩ := hp.done2 (Nat.le_refl _) (by omega)
      have hlt2 : (a.length : Int) < a.length + 1 := by omega
      have wc : IntKind.u32.wrap c = c := wrap_u32_id c (by omega) (by omega)
      simp -dsimp -implicitDefEqProofs [hlen, hlt2, wc]
      have ht := trimF_s _ hw (by simp; omega)
      rw [hv] at ht
      refine eCall.of ht (by simp [hlen]) ?_
      simp -dsimp -implicitDefEqProofs 
end Go.Proofs.YtaljbebkooppiaaGreat.Sh

namespace Go.Proofs.YtaljbebkooppiaaGreat.Sh
open Go Go.RowKit
structure MinusInv (x y : List Int) (i : Nat) (l : List Int) (c : Int) : Prop where
  hi : i ≤ x.length
  len : l.length = x.length
  inw : InW l
  c0 : 0 ≤ c
  c1 : c ≤ 1
  eq : val (l.take i) + val (y.take i) = val (x.take i) + 4294967296 ^ i * c
theorem MinusInv.step {x y : List Int} {i : Nat} {l : List Int} {c : Int} (h : MinusInv x y i l c) (hx : InW x) (hy : InW y) (hi : i < x.length) {v c' : Int} (hc : 0 ≤ c' ∧ c' ≤ 1) (hv : 0 ≤ v ∧ v < 4294967296) (he : v + at0 y i + c = at0 x i + 4294967296 * c') :
    MinusInv x y (i + 1) (l.set i v) c' := by
  have hl : i < l.length := by rw [h.len]; omega
  refine ⟨by omega, by simp [h.len], ?_, by omega, by omega, ?_⟩
  · intro z hz
    rcases List.mem_or_eq_of_mem_set hz with hz | rfl
    · exact h.inw z hz
    · omega
  · rw [val_take_succ x, val_take_succ y, val_take_succ (l.set i _)]
    have e1 : (l.set i v).take i = l.take i := by rw [List.take_set_of_le (Nat.le_refl i)]
    have e2 : at0 (l.set i v) i = v := by simp [at0, hl]
    rw [e1, e2]
    have e3 : (4294967296 : Int) ^ (i + 1) * c' = 4294967296 ^ i * (4294967296 * c') := by rw [Int.pow_succ, Int.mul_assoc]
    have e5 := h.eq
    rw [e3]
    have e6 : (4294967296 : Int) ^ i * v + 4294967296 ^ i * at0 y i + 4294967296 ^ i * c = 4294967296 ^ i * at0 x i + 4294967296 ^ i * (4294967296 * c') := by rw [← Int.mul_add, ← Int.mul_add, ← Int.mul_add, he]
    omega
theorem MinusInv.done {x y : List Int} {l : List Int} {c : Int} (h : MinusInv x y x.length l c) (hx : InW x) (hy : InW y) (hyx : y.length ≤ x.length) (hle : val y ≤ val x) : val l = val x - val y := by
  have e := h.eq
  rw [List.take_of_length_le (by rw [h.len]; omega), List.take_of_length_le hyx, List.take_of_length_le (Nat.le_refl _)] at e
  have hc0 := h.c0
  have hc1 := h.c1
  have b1 := val_lt h.inw
  have b0 := val_nonneg h.inw
  rw [h.len] at b1
  have y0 := val_nonneg hy
  have : c = 0 := by
    by_cases hc : c = 1
    · subst hc; omega
    · omega
  subst this
  omega
set_option maxRecDepth 20000 in
theorem minus_s (x y : List Int) (hx : InW x) (hy : InW y) (h1 : x.length ≤ 35184372088832) (h2 : y.length ≤ x.length) (hle : val y ≤ val x) : CallsS Tryz.prog 212 [.one (wS x), .one (wS y)] (.v (.one (nS (val x - val y).toNat))) := by
  refine calls Tryz.func212 rfl (by rfl) (by rfl) (by kernel_rfl) ?_
  simp -dsimp -implicitDefEqProofs [Tryz.f212]
  refine ⟨⟨by omega, by omega⟩, ?_⟩
  refine sw_loop_e (fun p : {p : Nat × List Int × Int // MinusInv x y p.1 p.2.1 p.2.2} => SS.of [(0, .v (.one (wS x))), (1, .v (.one (wS y))), (4, .v (.one .nils)), (5, .v (.one (.ms 0 0 x.length 1 true))), (6, I .u64 p.1.2.2), (7, I .i64 p.1.1)] [(0, oS p.1.2.1)] 1)
    (fun p => x.length - p.1.1) ⟨(0, List.replicate x.length 0, 0), ⟨by simp, by simp, by intro z hz; rw [List.eq_of_mem_replicate hz]; omega, by simp, by simp, by simp [val]⟩⟩ (by kernel_rfl) (Le.to (by simp) (by simp) (by simp)) ?_
  rintro ⟨⟨i, l, c⟩, hp⟩
  simp only at hp
  have c0 := hp.c0
  have c1 := hp.c1
  have hlen := hp.len
  by_cases a1 : i < x.length
  · have ax : 0 ≤ x[i] ∧ x[i] < 4294967296 := hx _ (List.getElem_mem a1)
    have wi : IntKind.i64.wrap ((i : Int) + 1) = ((i + 1 : Nat) : Int) := by rw [wrap_i64 _ (by omega) (by omega)]; rfl
    have e1 := at0_lt a1
    by_cases a2 : i < y.length
    · have ay : 0 ≤ y[i] ∧ y[i] < 4294967296 := hy _ (List.getElem_mem a2)
      have e2 := at0_lt a2
      by_cases hd : x[i] < c + y[i]
      · simp -dsimp -implicitDefEqProofs (disch := omega) [hlen, wi, a1, a2, hd, wrap_u64_id, List.getElem?_cons_zero]
        repeat refine And.intro (by omega) ?_
        refine (Again.by ⟨(i + 1, l.set i (x[i] + 4294967296 - (c + y[i])), 1), hp.step (v := x[i] + 4294967296 - (c + y[i])) (c' := 1) hx hy a1 (by omega) (by omega) (by omega)⟩ (Le.to ?_ ?_ ?_) ?_)
        all_goals simp (disch := omega) [wrap_u64_id, wrap_u32_id, word_id]
        all_goals omega
      · simp -dsimp -implicitDefEqProofs (disch := omega) [hlen, wi, a1, a2, hd, wrap_u64_id, List.getElem?_cons_zero]
        repeat refine And.intro (by omega) ?_
        refine (Again.by ⟨(i + 1, l.set i (x[i] - (c + y[i])), 0), hp.step (v := x[i] - (c + y[i])) (c' := 0) hx hy a1 (by omega) (by omega) (by omega)⟩ (Le.to ?_ ?_ ?_) ?_)
        all_goals simp (disch := omega) [wrap_u64_id, wrap_u32_id, word_id]
        all_goals omega
    · have e2 := at0_ge (x := y) (i := i) (by omega)
      by_cases hd : x[i] < c
      · simp -dsimp -implicitDefEqProofs (disch := omega) [hlen, wi, a1, a2, hd, wrap_u64_id, List.getElem?_cons_zero]
        repeat refine And.intro (by omega) ?_
        refine (Again.by ⟨(i + 1, l.set i (x[i] + 4294967296 - c), 1), hp.step (v := x[i] + 4294967296 - c) (c' := 1) hx hy a1 (by omega) (by omega) (by omega)⟩ (Le.to ?_ ?_ ?_) ?_)
        all_goals simp (disch := omega) [wrap_u64_id, wrap_u32_id, word_id]
        all_goals omega
      · simp -dsimp -implicitDefEqProofs (disch := omega) [hlen, wi, a1, a2, hd, wrap_u64_id, List.getElem?_cons_zero]
        repeat refine And.intro (by omega) ?_
        refine (Again.by ⟨(i + 1, l.set i (x[i] - c), 0), hp.step (v := x[i] - c) (c' := 0) hx hy a1 (by omega) (by omega) (by omega)⟩ (Le.to ?_ ?_ ?_) ?_)
        all_goals simp (disch := omega) [wrap_u64_id, wrap_u32_id, word_id]
        all_goals omega
  · have hi2 : i = x.length := by have := hp.hi; omega
    subst hi2
    have hv := hp.done hx hy h2 hle
    simp -dsimp -implicitDefEqProofs [hlen]
    have ht := trimR_s l hp.inw (by omega)
    rw [hv] at ht
    refine eCall.of ht (by simp [hlen]) ?_
    simp -dsimp -implicitDefEqProofs
set_option maxRecDepth 20000 in
theorem sub_s (x y : List Int) (hx : InW x) (hy : InW y) (h1 : x.length ≤ 35184372088832) (h2 : y.length ≤ x.length) (hle : val y ≤ val x) : CallsS Tryz.prog 216 [.one (wS x), .one (wS y)] (.v (.one (nS (val x - val y).toNat))) := by
  refine calls Tryz.func216 rfl (by rfl) (by rfl) (by kernel_rfl) ?_
  simp -dsimp -implicitDefEqProofs [Tryz.f216]
  refine ⟨⟨by omega, by omega⟩, ?_⟩
  refine sw_loop_e (fun p : {p : Nat × List Int × Int // MinusInv x y p.1 p.2.1 p.2.2} => SS.of [(0, .v (.one (wS x))), (1, .v (.one (wS y))), (4, .v (.one .nils)), (5, .v (.one (.ms 0 0 x.length 1 true))), (6, I .u64 p.1.2.2), (14, I .i64 x.length), (15, I .i64 p.1.1)] [(0, oS p.1.2.1)] 1)
    (fun p => x.length - p.1.1) ⟨(0, List.replicate x.length 0, 0), ⟨by simp, by simp, by intro z hz; rw [List.eq_of_mem_replicate hz]; omega, by simp, by simp, by simp [val]⟩⟩ (by kernel_rfl) (Le.to (by simp) (by simp) (by simp)) ?_
  rintro ⟨⟨i, l, c⟩, hp⟩
  simp only at hp
  have c0 := hp.c0
  have c1 := hp.c1
  have hlen := hp.len
  by_cases a1 : i < x.length
  · have ax : 0 ≤ x[i] ∧ x[i] < 4294967296 := hx _ (List.getElem_mem a1)
    have wi : IntKind.i64.wrap ((i : Int) + 1) = ((i + 1 : Nat) : Int) := by rw [wrap_i64 _ (by omega) (by omega)]; rfl
    have e1 := at0_lt a1
    by_cases a2 : i < y.length
    · have ay : 0 ≤ y[i] ∧ y[i] < 4294967296 := hy _ (List.getElem_mem a2)
      have e2 := at0_lt a2
      by_cases hd : x[i] < c + y[i]
      · simp -dsimp -implicitDefEqProofs (disch := omega) [hlen, wi, a1, a2, hd, wrap_u64_id, List.getElem?_cons_zero]
        repeat refine And.intro (by omega) ?_
        refine (Again.by ⟨(i + 1, l.set i (x[i] + 4294967296 - (c + y[i])), 1), hp.step (v := x[i] + 4294967296 - (c + y[i])) (c' := 1) hx hy a1 (by omega) (by omega) (by omega)⟩ (Le.to ?_ ?_ ?_) ?_)
        all_goals simp (disch := omega) [wrap_u64_id, wrap_u32_id, word_id]
        all_goals omega
      · simp -dsimp -implicitDefEqProofs (disch := omega) [hlen, wi, a1, a2, hd, wrap_u64_id, List.getElem?_cons_zero]
        repeat refine And.intro (by omega) ?_
        refine (Again.by ⟨(i + 1, l.set i (x[i] - (c + y[i])), 0), hp.step (v := x[i] - (c + y[i])) (c' := 0) hx hy a1 (by omega) (by omega) (by omega)⟩ (Le.to ?_ ?_ ?_) ?_)
        all_goals simp (disch := omega) [wrap_u64_id, wrap_u32_id, word_id]
        all_goals omega
    · have e2 := at0_ge (x := y) (i := i) (by omega)
      by_cases hd : x[i] < c
      · simp -dsimp -implicitDefEqProofs (disch := omega) [hlen, wi, a1, a2, hd, wrap_u64_id, List.getElem?_cons_zero]
        repeat refine And.intro (by omega) ?_
        refine (Again.by ⟨(i + 1, l.set i (x[i] + 4294967296 - c), 1), hp.step (v := x[i] + 4294967296 - c) (c' := 1) hx hy a1 (by omega) (by omega) (by omega)⟩ (Le.to ?_ ?_ ?_) ?_)
        all_goals simp (disch := omega) [wrap_u64_id, wrap_u32_id, word_id]
        all_goals omega
      · simp -dsimp -implicitDefEqProofs (disch := omega) [hlen, wi, a1, a2, hd, wrap_u64_id, List.getElem?_cons_zero]
        repeat refine And.intro (by omega) ?_
        refine (Again.by ⟨(i + 1, l.set i (x[i] - c), 0), hp.step (v := x[i] - c) (c' := 0) hx hy a1 (by omega) (by omega) (by omega)⟩ (Le.to ?_ ?_ ?_) ?_)
        all_goals simp (disch := omega) [wrap_u64_id, wrap_u32_id, word_id]
        all_goals omega
  · have hi2 : i = x.length := by have := hp.hi; omega
    subst hi2
    have hv := hp.done hx hy h2 hle
    simp -dsimp -implicitDefEqProofs [hlen]
    have ht := trimF_s l hp.inw (by omega)
    rw [hv] at ht
    refine eCall.of ht (by simp [hlen]) ?_
    simp -dsimp -implicitDefEqProofs
end Go.Proofs.YtaljbebkooppiaaGreat.Sh

namespace Go.Proofs.YtaljbebkooppiaaGreat.Sh
open Go Go.RowKit
theorem val_set (l : List Int) (j : Nat) (v : Int) (h : j < l.length) : val (l.set j v) = val l + 4294967296 ^ j * (v - at0 l j) := by
  induction l generalizing j with
  | nil => simp at h
  | cons a l ih =>
    cases j with
    | zero => simp [val, at0]; omega
    | succ j =>
      have := ih j (by simpa using h)
      simp only [List.set_cons_succ, val_cons, this]
      have e : at0 (a :: l) (j + 1) = at0 l j := by simp [at0]
      rw [e, Int.pow_succ]
      grind
structure TimesInv (x y : List Int) (i : Nat) (l : List Int) : Prop where
  hi : i ≤ x.length
  len : l.length = x.length + y.length
  inw : InW l
  eq : val (l.take (i + y.length)) = val (x.take i) * val y
structure RowInv (x y : List Int) (i k : Nat) (l : List Int) (c : Int) : Prop where
  hk : k ≤ y.length
  len : l.length = x.length + y.length
  inw : InW l
  c0 : 0 ≤ c
  c1 : c < 4294967296
  eq : val (l.take (i + y.length)) + 4294967296 ^ (i + k) * c = val (x.take i) * val y + 4294967296 ^ i * (at0 x i * val (y.take k))
theorem TimesInv.start {x y l : List Int} {i : Nat} (h : TimesInv x y i l) : RowInv x y i 0 l 0 :=
  ⟨by omega, h.len, h.inw, by omega, by omega, by simp [h.eq, val]⟩
theorem val_replicate (n : Nat) : val (List.replicate n 0) = 0 := by
  induction n with
  | zero => rfl
  | succ n ih => rw [List.replicate_succ, val_cons, ih]; rfl
theorem prod_lt {a b : Int} (ha : 0 ≤ a ∧ a < 4294967296) (hb : 0 ≤ b ∧ b < 4294967296) : 0 ≤ a * b ∧ a * b ≤ 18446744065119617025 := by
  refine ⟨Int.mul_nonneg ha.1 hb.1, ?_⟩
  have := Int.mul_le_mul (show a ≤ 4294967295 by omega) (show b ≤ 4294967295 by omega) hb.1 (by omega)
  omega
theorem RowInv.step {x y l : List Int} {i k : Nat} {c : Int} (h : RowInv x y i k l c) (hx : InW x) (hy : InW y) (hi : i < x.length) (hk : k < y.length) {s : Int} (hs : s = at0 x i * at0 y k + at0 l (i + k) + c) :
    RowInv x y i (k + 1) (l.set (i + k) (s % 4294967296)) (s / 4294967296) := by
  have ax := at0_W hx i
  have ay := at0_W hy k
  have al := at0_W h.inw (i + k)
  have p := prod_lt ax ay
  have c0 := h.c0
  have c1 := h.c1
  have hl : i + k < (l.take (i + y.length)).length := by rw [List.length_take, h.len]; omega
  refine ⟨by omega, by simp [h.len], ?_, by omega, by omega, ?_⟩
  · intro z hz
    rcases List.mem_or_eq_of_mem_set hz with hz | rfl
    · exact h.inw z hz
    · omega
  · rw [List.take_set, val_set _ _ _ hl, val_take_succ y]
    have e1 : at0 (l.take (i + y.length)) (i + k) = at0 l (i + k) := by
      unfold at0; rw [List.getElem?_take_of_lt (by omega)]
    rw [e1]
    have e2 := h.eq
    have e4 := Int.emod_add_mul_ediv s 4294967296
    have e5 : (4294967296 : Int) ^ (i + (k + 1)) = 4294967296 ^ (i + k) * 4294967296 := by rw [← Nat.add_assoc, Int.pow_succ]
    have e6 : (4294967296 : Int) ^ (i + k) = 4294967296 ^ i * 4294967296 ^ k := Int.pow_add ..
    rw [e5]
    generalize hP : (4294967296 : Int) ^ (i + k) = P at *
    generalize hA : (4294967296 : Int) ^ i = A at *
    generalize hB : (4294967296 : Int) ^ k = B at *
    generalize s % 4294967296 = r at *
    generalize s / 4294967296 = q at *
    generalize val (x.take i) * val y = T at *
    generalize val (y.take k) = V at *
    generalize val (l.take (i + y.length)) = L at *
    grind
theorem RowInv.done {x y l : List Int} {i : Nat} {c : Int} (h : RowInv x y i y.length l c) (hi : i < x.length) : TimesInv x y (i + 1) (l.set (i + y.length) c) := by
  have c0 := h.c0
  have c1 := h.c1
  refine ⟨by omega, by simp [h.len], ?_, ?_⟩
  · intro z hz
    rcases List.mem_or_eq_of_mem_set hz with hz | rfl
    · exact h.inw z hz
    · omega
  · rw [show i + 1 + y.length = i + y.length + 1 by omega, val_take_succ, val_take_succ x, List.take_set_of_le (Nat.le_refl _)]
    have e1 : at0 (l.set (i + y.length) c) (i + y.length) = c := by
      have : i + y.length < l.length := by rw [h.len]; omega
      simp [at0, this]
    have e2 := h.eq
    rw [List.take_of_length_le (l := y) (Nat.le_refl _)] at e2
    rw [e1, e2]
    generalize (4294967296 : Int) ^ i = A at *
    grind
set_option maxRecDepth 20000 in
theorem times_s (x y : List Int) (hx : InW x) (hy : InW y) (h1 : x.length ≤ 17592186044416) (h2 : y.length ≤ 17592186044416) : CallsS Tryz.prog 72 [.one (wS x), .one (wS y)] (.v (.one (nS (val x * val y).toNat))) := by
  refine calls Tryz.func72 rfl (by rfl) (by rfl) (by kernel_rfl) ?_
  have w : IntKind.i64.wrap ((x.length : Int) + y.length) = ((x.length + y.length : Nat) : Int) := by rw [wrap_i64 _ (by omega) (by omega)]; rfl
  have tn : ((x.length : Int) + y.length).toNat = x.length + y.length := by omega
  simp -dsimp -implicitDefEqProofs [Tryz.f72, w]
  repeat refine And.intro (by omega) ?_
  refine sw_loop_e (fun p : {p : Nat × List Int // TimesInv x y p.1 p.2} => SS.of [(0, .v (.one (wS x))), (1, .v (.one (wS y))), (4, .v (.one .nils)), (5, .v (.one (.ms 0 0 (x.length + y.length) 1 true))), (6, I .i64 p.1.1)] [(0, oS p.1.2)] 1)
    (fun p => x.length - p.1.1) ⟨(0, List.replicate (x.length + y.length) 0), ⟨by simp, by simp, by intro z hz; rw [List.eq_of_mem_replicate hz]; omega, ?_⟩⟩ (by kernel_rfl) (Le.to (by simp [tn]) (by simp [tn]) (by simp)) ?_
  · simp [val_replicate, val]
  rintro ⟨⟨i, l⟩, hp⟩
  simp only at hp
  have hlen := hp.len
  by_cases a1 : i < x.length
  · have ax : 0 ≤ x[i] ∧ x[i] < 4294967296 := hx _ (List.getElem_mem a1)
    have e1 := at0_lt a1
    have wi : IntKind.i64.wrap ((i : Int) + 1) = ((i + 1 : Nat) : Int) := by rw [wrap_i64 _ (by omega) (by omega)]; rfl
    simp -dsimp -implicitDefEqProofs [a1]
    refine sw_loop_e (fun p : {p : Nat × List Int × Int // RowInv x y i p.1 p.2.1 p.2.2} => SS.of [(0, .v (.one (wS x))), (1, .v (.one (wS y))), (4, .v (.one .nils)), (5, .v (.one (.ms 0 0 (x.length + y.length) 1 true))), (6, I .i64 i), (7, I .u64 p.1.2.2), (8, I .i64 p.1.1)] [(0, oS p.1.2.1)] 1)
      (fun p => y.length - p.1.1) ⟨(0, l, 0), hp.start⟩ (by kernel_rfl) (Le.to (by simp) (by simp) (by simp)) ?_
    rintro ⟨⟨k, l, c⟩, hr⟩
    simp only at hr
    have hlen := hr.len
    have c0 := hr.c0
    have c1 := hr.c1
    by_cases a2 : k < y.length
    · have ay : 0 ≤ y[k] ∧ y[k] < 4294967296 := hy _ (List.getElem_mem a2)
      have e2 := at0_lt a2
      have wik : IntKind.i64.wrap ((i : Int) + k) = ((i + k : Nat) : Int) := by rw [wrap_i64 _ (by omega) (by omega)]; rfl
      have a3 : i + k < l.length := by omega
      have al : 0 ≤ l[i + k] ∧ l[i + k] < 4294967296 := hr.inw _ (List.getElem_mem a3)
      have e3 := at0_lt a3
      have pr := prod_lt ax ay
      have tik : ((i : Int) + k).toNat = i + k := by omega
      have wk : IntKind.i64.wrap ((k : Int) + 1) = ((k + 1 : Nat) : Int) := by rw [wrap_i64 _ (by omega) (by omega)]; rfl
      simp -dsimp -implicitDefEqProofs (disch := omega) [a1, a2, a3, wik, wk, tik, hlen, wrap_u64_id, List.getElem?_cons_zero]
      repeat refine And.intro (by omega) ?_
      refine Again.by ⟨(k + 1, l.set (i + k) ((at0 x i * at0 y k + at0 l (i + k) + c) % 4294967296), (at0 x i * at0 y k + at0 l (i + k) + c) / 4294967296), hr.step hx hy a1 a2 rfl⟩ (Le.to ?_ ?_ ?_) ?_
      all_goals simp (disch := omega) [e1, e2, e3, tik, shr32, wrap_u64_id, wrap_u32_id, word_of]
      all_goals omega
    · have hk2 : k = y.length := by have := hr.hk; omega
      subst hk2
      have wc : IntKind.u32.wrap c = c := wrap_u32_id c (by omega) (by omega)
      have wim : IntKind.i64.wrap ((i : Int) + y.length) = ((i + y.length : Nat) : Int) := by rw [wrap_i64 _ (by omega) (by omega)]; rfl
      have tim : ((i : Int) + y.length).toNat = i + y.length := by omega
      simp -dsimp -implicitDefEqProofs [hlen, wi, wim, tim]
      repeat refine And.intro (by omega) ?_
      refine Again.by ⟨(i + 1, l.set (i + y.length) c), hr.done a1⟩ (Le.to ?_ ?_ ?_) ?_
      all_goals simp [wc]
      all_goals omega
  · have hi2 : i = x.length := by have := hp.hi; omega
    subst hi2
    have hv := hp.eq
    rw [List.take_of_length_le (by omega), List.take_of_length_le (Nat.le_refl _)] at hv
    simp -dsimp -implicitDefEqProofs [hlen]
    have ht := trimR_s l hp.inw (by omega)
    rw [hv] at ht
    refine eCall.of ht (by simp [hlen]) ?_
    simp -dsimp -implicitDefEqProofs
end Go.Proofs.YtaljbebkooppiaaGreat.Sh

namespace Go.Proofs.YtaljbebkooppiaaGreat.Sh
open Go Go.RowKit
theorem flatten_words (k : IntKind) (l : List Int) : (l.map fun x => [S1.int k x]).flatten = l.map fun x => .int k x := by
  induction l with
  | nil => rfl
  | cons a l ih => simp [ih]
theorem putL_at (p : List S1) : ∀ (l cs : List S1), cs.length = l.length → putL (p ++ cs) p.length l = p ++ l := by
  intro l
  induction l generalizing p with
  | nil => intro cs h; simp at h; subst h; rfl
  | cons a l ih =>
    intro cs h
    cases cs with
    | nil => simp at h
    | cons b cs =>
      simp only [putL]
      have e : (p ++ b :: cs).set p.length a = (p ++ [a]) ++ cs := by simp
      have := ih (p ++ [a]) cs (by simpa using h)
      rw [e]
      rw [List.length_append] at this
      simpa using this
theorem putL_all (l cs : List S1) (h : cs.length = l.length) : putL cs 0 l = l := by simpa using putL_at [] l cs h
set_option maxRecDepth 20000 in
theorem own_s (x : List Int) (h1 : x.length ≤ 35184372088832) : CallsS Tryz.prog 201 [.one (wS x)] (.v (.one (wS x))) := by
  refine calls Tryz.func201 rfl (by rfl) (by rfl) (by kernel_rfl) ?_
  have e : (x.map fun x => [S1.int .u32 x]).flatten = x.map fun x => .int .u32 x := flatten_words _ _
  have e2 : putL (List.replicate x.length (S1.int .u32 0)) 0 (x.map fun x => .int .u32 x) = x.map fun x => .int .u32 x := putL_all _ _ (by simp)
  have e4 : List.take x.length (x.map fun x => S1.int .u32 x) = x.map fun x => .int .u32 x := List.take_of_length_le (by simp)
  simp -dsimp -implicitDefEqProofs [Tryz.f201, e, e2, e4]
  exact ⟨by omega, by omega⟩
set_option maxRecDepth 20000 in
theorem wone_s (x : List Int) : CallsS Tryz.prog 198 [.one (wS x)] (B (decide (x = [1]))) := by
  refine calls Tryz.func198 rfl (by rfl) (by rfl) (by kernel_rfl) ?_
  match x with
  | [] => simp -dsimp -implicitDefEqProofs [Tryz.f198]
  | [a] => by_cases h : a = 1 <;> simp -dsimp -implicitDefEqProofs [Tryz.f198, h]
  | a :: b :: l =>
    have : ¬ ((l.length : Int) + 1 + 1 = 1) := by omega
    simp -dsimp -implicitDefEqProofs [Tryz.f198, this]
theorem toW_one : toW 1 = [1] := by rw [toW_pos (by decide)]; simp [toW_zero]
set_option maxRecDepth 20000 in
theorem oneR_s : CallsS Tryz.prog 116 [] (.v (.one (nS 1))) := by
  refine calls Tryz.func116 rfl (by rfl) (by rfl) (by kernel_rfl) ?_
  simp -dsimp -implicitDefEqProofs [Tryz.f116, slots, toW_one, rowsOf]
theorem val_two (n : Int) : val [n % 4294967296, n / 4294967296] = n := by simp [val]; omega
set_option maxRecDepth 20000 in
theorem of_s (n : Nat) (h : n < 18446744073709551616) : CallsS Tryz.prog 200 [.one (.int .u64 n)] (.v (.one (nS n))) := by
  refine calls Tryz.func200 rfl (by rfl) (by rfl) (by kernel_rfl) ?_
  simp -dsimp -implicitDefEqProofs [Tryz.f200, slots]
  have ht := trimF_s [(n : Int) % 4294967296, (n : Int) / 4294967296] (InW.cons (by omega) (by omega) (InW.cons (by omega) (by omega) InW.nil)) (by simp)
  rw [val_two] at ht
  refine eCall.of ht (by simp [rowsOf, shr32, wrap_u32, List.range_succ]; omega) ?_
  simp -dsimp -implicitDefEqProofs
set_option maxRecDepth 20000 in
theorem wide_s (n : Nat) (h : n < 18446744073709551616) : CallsS Tryz.prog 135 [.one (.int .u64 n)] (.v (.one (nS n))) := by
  refine calls Tryz.func135 rfl (by rfl) (by rfl) (by kernel_rfl) ?_
  simp -dsimp -implicitDefEqProofs [Tryz.f135, slots]
  have ht := trimR_s [(n : Int) % 4294967296, (n : Int) / 4294967296] (InW.cons (by omega) (by omega) (InW.cons (by omega) (by omega) InW.nil)) (by simp)
  rw [val_two] at ht
  refine eCall.of ht (by simp (disch := omega) [rowsOf, shr32, word_of, wrap_u32_id, List.range_succ]) ?_
  simp -dsimp -implicitDefEqProofs
end Go.Proofs.YtaljbebkooppiaaGreat.Sh

