/- A part of the proof: R59, R60, R55, R61, R62, R63, R56, R57, R64, R65, R66, R68 -/
import Derived.Test.YtmgaoecfipkjbaaGreatL19
set_option linter.unusedSimpArgs false
set_option linter.unusedVariables false
set_option linter.unusedSectionVars false
/- The first of a row that none behind it is ahead of, as the program finds it. -/
namespace Go.Proofs.YtmgaoecfipkjbaaGreat.Sh
open Go Go.RowKit

def rowO : Option Li → List S1
  | none => [.int .i64 0, .int .i64 0, .int .i64 0, .nils, .bool false, .nils, .nils]
  | some l => rowLi l
@[simp] theorem rowO_none : rowO none = [.int .i64 0, .int .i64 0, .int .i64 0, .nils, .bool false, .nils, .nils] := rfl
@[simp] theorem rowO_some (l : Li) : rowO (some l) = rowLi l := rfl
def rowM : Option Rat → List S1
  | none => [.bool false, .nils, .nils]
  | some q => rowFr (frQ q)
@[simp] theorem rowM_none : rowM none = [.bool false, .nils, .nils] := rfl
@[simp] theorem rowM_some (q : Rat) : rowM (some q) = rowFr (frQ q) := rfl
def itemsQ (l : List Rat) : List (List SV) := l.map fun q => [fS q]
theorem mst_some {α : Type} (ahd : α → α → Bool) (m : Option α) (x : α) : (mst ahd m x).isSome = true := by
  unfold mst; split; rfl; split <;> rfl
theorem mst_mem {α : Type} (ahd : α → α → Bool) : ∀ (l : List α) (m : Option α) {y : α}, l.foldl (mst ahd) m = some y → y ∈ l ∨ m = some y
  | [], m, y, h => .inr h
  | x :: l, m, y, h => by
    rcases mst_mem ahd l _ h with h | h
    · exact .inl (List.mem_cons_of_mem _ h)
    · unfold mst at h
      split at h
      · cases h; exact .inl (List.mem_cons_self ..)
      · split at h
        · cases h; exact .inl (List.mem_cons_self ..)
        · exact .inr h

set_option maxRecDepth 20000 in
theorem mostL_s {f f2 : Nat} {caps : List S1} (L : List Li) (hit : IterS Tryz.prog f caps (itemsL L)) (ahd : Li → Li → Bool) (hf : ∀ x ∈ L, ∀ y ∈ L, CallsS Tryz.prog f2 [liS x, liS y] (B (ahd x y))) :
    CallsS Tryz.prog 80 [.one (.fn f caps), .one (.fn f2 [])] (.tup [.agg (rowO (L.foldl (mst ahd) none)), .one (.bool (L.foldl (mst ahd) none).isSome)]) := by
  have hil : (itemsL L).length = L.length := by simp [itemsL]
  have hfull : ∀ {b : Nat}, L.length ≤ b → L.take b = L := fun h => List.take_of_length_le h
  refine calls_sep 1 (fun _ : Unit => SS.of [(4, .v (.one (.mp 1 0))), (5, .v (.one (.mp 2 0)))] [(1, ⟨39, rowO (L.foldl (mst ahd) none)⟩), (2, ⟨4, [.bool (L.foldl (mst ahd) none).isSome]⟩)] 3) Tryz.func80 rfl (by rfl) (by rfl) (by rfl) (by kernel_rfl) (by kernel_rfl) (by rfl) (by kernel_rfl) (by kernel_rfl) (by simp) (by simp) ?_ ?_
  rotate_left
  · intro _
    cases hm : L.foldl (mst ahd) none with
    | none => simp -dsimp -implicitDefEqProofs
    | some y => simp -dsimp -implicitDefEqProofs
  simp -dsimp -implicitDefEqProofs
  refine sw_range_e [0, 1, 2] (fun k => SS.of [(3, .v (.one (.mp 0 0))), (4, .v (.one (.mp 1 0))), (5, .v (.one (.mp 2 0))), (7, .v (.one (.fn f caps)))] [(0, ⟨44, [.fn f2 []]⟩), (1, ⟨39, rowO ((L.take k).foldl (mst ahd) none)⟩), (2, ⟨4, [.bool ((L.take k).foldl (mst ahd) none).isSome]⟩)] 3)
    hit (by simp) (by kernel_rfl) (fun it hit => by obtain ⟨i, -, rfl⟩ := List.mem_map.1 hit; rfl) (Le.to (by simp) (by simp) (by simp)) (fun k => ⟨rfl, rfl, ?_, ?_, rfl, rfl⟩) (fun k w0 ok0 hb => stable_nil) ?_ ?_
  · intro o ob ho
    simp at ho
    grind
  · cases hm : (L.take k).foldl (mst ahd) none <;> simp
  · intro n hn
    rw [hil] at hn
    have hx : (itemsL L)[n] = [liS L[n]] := by simp [itemsL]
    rw [hx, List.take_add_one, List.getElem?_eq_getElem hn, Option.toList_some, List.foldl_append]
    cases hm : (L.take n).foldl (mst ahd) none with
    | none =>
      simp -dsimp -implicitDefEqProofs [mst]
    | some y =>
      have hy : y ∈ L := by
        rcases mst_mem ahd _ _ hm with h | h
        · exact List.mem_of_mem_take h
        · cases h
      simp -dsimp -implicitDefEqProofs
      refine eCall.of (hf _ (List.getElem_mem hn) y hy) (by simp) ?_
      cases e : ahd L[n] y <;> simp -dsimp -implicitDefEqProofs [mst, e]
  · rw [hil]
    simp only [hfull (Nat.le_refl _)]
    simp -dsimp -implicitDefEqProofs
    exact Cut.by () (Le.to (by simp) (by simp) (by simp))

set_option maxRecDepth 20000 in
theorem mostQ_s {f f2 : Nat} {caps : List S1} (L : List Rat) (hit : IterS Tryz.prog f caps (itemsQ L)) (ahd : Rat → Rat → Bool) (hf : ∀ x ∈ L, ∀ y ∈ L, CallsS Tryz.prog f2 [fS x, fS y] (B (ahd x y))) :
    CallsS Tryz.prog 90 [.one (.fn f caps), .one (.fn f2 [])] (.tup [.agg (rowM (L.foldl (mst ahd) none)), .one (.bool (L.foldl (mst ahd) none).isSome)]) := by
  have hil : (itemsQ L).length = L.length := by simp [itemsQ]
  have hfull : ∀ {b : Nat}, L.length ≤ b → L.take b = L := fun h => List.take_of_length_le h
  refine calls_sep 1 (fun _ : Unit => SS.of [(4, .v (.one (.mp 1 0))), (5, .v (.one (.mp 2 0)))] [(1, ⟨37, rowM (L.foldl (mst ahd) none)⟩), (2, ⟨4, [.bool (L.foldl (mst ahd) none).isSome]⟩)] 3) Tryz.func90 rfl (by rfl) (by rfl) (by rfl) (by kernel_rfl) (by kernel_rfl) (by rfl) (by kernel_rfl) (by kernel_rfl) (by simp) (by simp) ?_ ?_
  rotate_left
  · intro _
    cases hm : L.foldl (mst ahd) none with
    | none => simp -dsimp -implicitDefEqProofs
    | some y => simp -dsimp -implicitDefEqProofs
  simp -dsimp -implicitDefEqProofs
  refine sw_range_e [0, 1, 2] (fun k => SS.of [(3, .v (.one (.mp 0 0))), (4, .v (.one (.mp 1 0))), (5, .v (.one (.mp 2 0))), (7, .v (.one (.fn f caps)))] [(0, ⟨61, [.fn f2 []]⟩), (1, ⟨37, rowM ((L.take k).foldl (mst ahd) none)⟩), (2, ⟨4, [.bool ((L.take k).foldl (mst ahd) none).isSome]⟩)] 3)
    hit (by simp) (by kernel_rfl) (fun it hit => by obtain ⟨i, -, rfl⟩ := List.mem_map.1 hit; rfl) (Le.to (by simp) (by simp) (by simp)) (fun k => ⟨rfl, rfl, ?_, ?_, rfl, rfl⟩) (fun k w0 ok0 hb => stable_nil) ?_ ?_
  · intro o ob ho
    simp at ho
    grind
  · cases hm : (L.take k).foldl (mst ahd) none <;> simp
  · intro n hn
    rw [hil] at hn
    have hx : (itemsQ L)[n] = [fS L[n]] := by simp [itemsQ]
    rw [hx, List.take_add_one, List.getElem?_eq_getElem hn, Option.toList_some, List.foldl_append]
    cases hm : (L.take n).foldl (mst ahd) none with
    | none =>
      simp -dsimp -implicitDefEqProofs [mst, frQ, ng]
    | some y =>
      have hy : y ∈ L := by
        rcases mst_mem ahd _ _ hm with h | h
        · exact List.mem_of_mem_take h
        · cases h
      simp -dsimp -implicitDefEqProofs
      refine eCall.of (hf _ (List.getElem_mem hn) y hy) (by simp [frQ, ng]) ?_
      cases e : ahd L[n] y <;> simp -dsimp -implicitDefEqProofs [mst, e, frQ, ng]
  · rw [hil]
    simp only [hfull (Nat.le_refl _)]
    simp -dsimp -implicitDefEqProofs
    exact Cut.by () (Le.to (by simp) (by simp) (by simp))
end Go.Proofs.YtmgaoecfipkjbaaGreat.Sh

/- The program's Truthful. -/
namespace Go.Proofs.YtmgaoecfipkjbaaGreat.Sh
open Go Go.RowKit

set_option maxRecDepth 20000 in
theorem rtruth_s (g : Gm) (r : List Ce) (h : Play g r) (l : Li) (ok : Bool) (hl : isTr g r l ok) : CallsS Tryz.prog 22 [gmS g, ruS r] (.tup [liS l, .one (.bool ok)]) := by
  have hf := h.fine
  obtain ⟨h1, -, -, h4, h5⟩ := sizeOk_all hf.sz
  refine calls Tryz.func22 rfl (by rfl) (by rfl) (by kernel_rfl) ?_
  simp -dsimp -implicitDefEqProofs [Tryz.f22]
  refine eCall.of (open_s g r h.seen h.good) (by simp) ?_
  simp -dsimp -implicitDefEqProofs
  refine sw_loop_e (fun p : {p : Nat // p ≤ g.agents.length ∧ ∀ a, a < p → NoA g r a} => SS.of [(4, .v (.one (.mp 2 0))), (5, .v (.one (.mp 3 0))), (6, .v (.one (.mp 4 0))), (21, I .i64 g.agents.length), (22, I .i64 p.1)] [(2, ⟨39, rowO none⟩), (3, ⟨4, [.bool false]⟩), (4, ⟨106, rowTb g r⟩)] 5)
    (fun p => g.agents.length - p.1) ⟨0, Nat.zero_le _, fun a ha => absurd ha (by simp)⟩ (by kernel_rfl) (Le.to (by simp) (by simp) (by simp)) ?_
  rintro ⟨a, hi, hp⟩
  by_cases a1 : a < g.agents.length
  · have wa : IntKind.i64.wrap ((a : Int) + 1) = ((a + 1 : Nat) : Int) := by rw [wrap_i64 _ (by omega) (by omega)]; rfl
    have hil : (itemsL (liesL g r a)).length = (liesL g r a).length := by simp [itemsL]
    simp -dsimp -implicitDefEqProofs [a1]
    refine eCall.of (lies_s g r a) (by simp) ?_
    simp -dsimp -implicitDefEqProofs
    refine sw_range_f [2, 3, 4] (fun _ => SS.of [(4, .v (.one (.mp 2 0))), (5, .v (.one (.mp 3 0))), (6, .v (.one (.mp 4 0))), (21, I .i64 g.agents.length), (22, I .i64 a), (27, .v (.one (.fn 144 [.rp true (rowTb g r), .rp true [.int .i64 (a : Int)]])))] [(2, ⟨39, rowO none⟩), (3, ⟨4, [.bool false]⟩), (4, ⟨106, rowTb g r⟩)] 5)
      (fun k => ∀ y ∈ (liesL g r a).take k, ¬ 0 < y.gain) (by simp) (lies1_it g r h a a1) (by simp) (by kernel_rfl) (fun it hit => by obtain ⟨i, -, rfl⟩ := List.mem_map.1 hit; rfl) (Le.to (by simp) (by simp) (by simp)) (fun k => ⟨rfl, rfl, ?_, by simp, rfl, rfl⟩) (fun k w0 ok0 hb => stable_nil) ?_ ?_
    · intro o ob ho
      simp at ho
      grind
    · intro k hk hF
      rw [hil] at hk
      have hx : (itemsL (liesL g r a))[k] = [liS (liesL g r a)[k]] := by simp [itemsL]
      have hmz := (mem_lies h a1 (List.getElem_mem hk)).1
      have hz := (cap_mz (show mz (liesL g r a)[k].gain ≤ 2048 by omega)).2
      have hsg := fsign_s (frQ (liesL g r a)[k].gain) (frQ_ok (by omega))
      rw [fix_frQ hz] at hsg
      rw [hx]
      simp -dsimp -implicitDefEqProofs
      refine eCall.of hsg (by simp [frQ, ng]) ?_
      by_cases c1 : 0 < (liesL g r a)[k].gain
      · have hdr : liesL g r a = (liesL g r a).take k ++ (liesL g r a)[k] :: (liesL g r a).drop (k + 1) := by rw [← List.drop_eq_getElem_cons hk, List.take_append_drop]
        obtain ⟨n, t, hfa, e⟩ := lies_first h a1 hdr hF c1 hp
        obtain ⟨rfl, rfl⟩ := hl.at hfa
        simp -dsimp -implicitDefEqProofs [sgnQ_pos.2 c1, ← e]
      · simp -dsimp -implicitDefEqProofs [mt sgnQ_pos.1 c1]
        rw [List.take_add_one, List.getElem?_eq_getElem hk, Option.toList_some]
        intro y hy
        rcases List.mem_append.1 hy with hy | hy
        · exact hF y hy
        · rw [List.mem_singleton.1 hy]; exact c1
    · intro hF
      rw [hil, List.take_length] at hF
      have hno := lies_none h a1 hF
      simp -dsimp -implicitDefEqProofs
      refine Again.by ⟨a + 1, a1, fun a' ha' => ?_⟩ (Le.to (by simp [wa]) (by simp) (by simp)) (by simp; omega)
      by_cases e' : a' = a
      · subst e'; exact hno
      · exact hp a' (by omega)
  have hi2 : a = g.agents.length := by omega
  subst hi2
  obtain ⟨rfl, rfl⟩ := hl.none hp
  simp -dsimp -implicitDefEqProofs
  refine eCall.of rzero_s (by simp) ?_
  simp -dsimp -implicitDefEqProofs [noLi, frQ, ng]

set_option maxRecDepth 20000 in
theorem rtruthNo_s (g : Gm) (r : List Ce) (h : Seen g r) (hg : ¬ Good g r) : CallsS Tryz.prog 22 [gmS g, ruS r] (.tup [li0, .one (.bool false)]) := by
  refine calls Tryz.func22 rfl (by rfl) (by rfl) (by kernel_rfl) ?_
  simp -dsimp -implicitDefEqProofs [Tryz.f22]
  refine eCall.of (openNo_s g r h hg) (by simp) ?_
  simp -dsimp -implicitDefEqProofs
end Go.Proofs.YtmgaoecfipkjbaaGreat.Sh

/- The lie that is ahead; a profile's weight. -/
namespace Go.Proofs.YtmgaoecfipkjbaaGreat.Sh
open Go Go.RowKit

set_option maxRecDepth 20000 in
theorem gains1_s (x y : Li) (hx : x.ok) (hy : y.ok) : CallsS Tryz.prog 81 [liS x, liS y] (B (decide (y.gain < x.gain))) := by
  have x2 := hx.2
  have y2 := hy.2
  have hc := fcmp_s (frQ x.gain) (frQ y.gain) (frQ_ok (by omega)) (frQ_ok (by omega))
  rw [fix_frQ x2, fix_frQ y2] at hc
  refine calls Tryz.func81 rfl (by rfl) (by rfl) (by kernel_rfl) ?_
  simp -dsimp -implicitDefEqProofs [Tryz.f81]
  refine eCall.of hc (by simp [frQ, ng]) ?_
  by_cases c : y.gain < x.gain
  · simp -dsimp -implicitDefEqProofs [cmpQ_pos.2 c, c]
  · simp -dsimp -implicitDefEqProofs [mt cmpQ_pos.1 c, c]

set_option maxRecDepth 20000 in
theorem aim2_s (p q : Rat) (hp : sz p ≤ 4096) (hq : sz q ≤ 4096) : CallsS Tryz.prog 91 [fS p, fS q] (B (decide (p < q))) := by
  have hc := fcmp_s (frQ p) (frQ q) (frQ_ok (by omega)) (frQ_ok (by omega))
  rw [fix_frQ hp, fix_frQ hq] at hc
  refine calls Tryz.func91 rfl (by rfl) (by rfl) (by kernel_rfl) ?_
  simp -dsimp -implicitDefEqProofs [Tryz.f91]
  refine eCall.of hc (by simp [frQ, ng]) ?_
  by_cases c : p < q
  · simp -dsimp -implicitDefEqProofs [cmpQ_neg.2 c, c]
  · simp -dsimp -implicitDefEqProofs [mt cmpQ_neg.1 c, c]

/-- The product of the weights of a profile's kinds. -/
def wgtTo (g : Gm) (n : Nat) : Nat → Rat
  | 0 => 1
  | i + 1 => wgtTo g n i * (kdAt g i (kOf g n i)).weight.fix
def wgt (g : Gm) (n : Nat) : Rat := wgtTo g n g.agents.length

theorem wgtTo_mz {g : Gm} {r : List Ce} (h : Play g r) {n : Nat} (hn : n < r.length) : ∀ i, i ≤ g.agents.length → mz (wgtTo g n i) ≤ 3 * i + 1
  | 0, _ => by show mz 1 ≤ 1; decide +kernel
  | i + 1, hi => by
    have hs : Spot g r i n := ⟨h, hi, hn⟩
    obtain ⟨k1, k2⟩ := hs.kof
    have hk := (h.kd (List.getElem_mem hs.ha) (List.getElem_mem k2)).1.w
    have ih := wgtTo_mz h hn i (by omega)
    rw [wgtTo, kdAt_eq hs.ha k2]
    have := mz_mul (wgtTo g n i) (g.agents[i].kinds[kOf g n i]).weight.fix
    omega

set_option maxRecDepth 20000 in
theorem weight_s (g : Gm) (r : List Ce) (h : Play g r) (n : Nat) (hn : n < r.length) : CallsS Tryz.prog 95 [gmS g, .one (intsS (atG g n))] (.v (fS (wgt g n))) := by
  have hf := h.fine
  obtain ⟨h1, -, -, h4, h5⟩ := sizeOk_all hf.sz
  have hrl := h.good.2.2.1
  have hal := atG_length g n
  have mk := fmake_s 1 1 (by decide) (by decide) (by decide) (by decide) (by decide)
  rw [one_div_one] at mk
  have hid := index_s g hf (atG g n) (by omega) _ (.inl ⟨at_isProf (by omega), rfl⟩)
  rw [whr_at (show n < prodK g.agents by omega)] at hid
  refine calls Tryz.func95 rfl (by rfl) (by rfl) (by kernel_rfl) ?_
  simp -dsimp -implicitDefEqProofs [Tryz.f95]
  refine eCall.of hid (by simp) ?_
  simp -dsimp -implicitDefEqProofs [show ¬ ((n : Int) < 0) by omega]
  refine eCall.of mk (by simp) ?_
  simp -dsimp -implicitDefEqProofs [hal]
  refine sw_loop_e (fun p : {p : Nat // p ≤ g.agents.length} => SS.of [(2, .v (.one (.mp 0 0))), (4, .v (.one (.mp 1 0))), (5, .v (.one (.mp 2 0))), (19, .v (.one (intsS (atG g n)))), (20, I .i64 g.agents.length), (21, I .i64 p.1)] [(0, ⟨26, rowGm g⟩), (1, ⟨37, [.bool false, .nils, .nils]⟩), (2, ⟨37, rowFr (frQ (wgtTo g n p.1))⟩)] 3)
    (fun p => g.agents.length - p.1) ⟨0, Nat.zero_le _⟩ (by kernel_rfl) (Le.to (by simp) (by simp [wgtTo, frQ, ng]) (by simp)) ?_
  rintro ⟨i, hi⟩
  by_cases a1 : i < g.agents.length
  · have wi : IntKind.i64.wrap ((i : Int) + 1) = ((i + 1 : Nat) : Int) := by rw [wrap_i64 _ (by omega) (by omega)]; rfl
    have hs : Spot g r i n := ⟨h, a1, hn⟩
    obtain ⟨k1, k2⟩ := hs.kof
    have a2 : i < (atG g n).length := by omega
    have k1' : (atG g n)[i] = (kOf g n i : Int) := by rw [List.getElem?_eq_getElem a2] at k1; exact Option.some.inj k1
    have hkd := (h.kd (List.getElem_mem a1) (List.getElem_mem k2)).1
    have m0 := wgtTo_mz h hn i hi
    have m1 := wgtTo_mz h hn (i + 1) a1
    have z0 := (cap_mz (show mz (wgtTo g n i) ≤ 2048 by omega)).2
    obtain ⟨c1, z1⟩ := cap_mz (show mz (wgtTo g n (i + 1)) ≤ 2048 by omega)
    have hmu := fmul_s (frQ (wgtTo g n i)) (g.agents[i].kinds[kOf g n i]).weight (frQ_ok (by omega)) hkd.ok.2.1
    rw [fix_frQ z0, show wgtTo g n i * (g.agents[i].kinds[kOf g n i]).weight.fix = wgtTo g n (i + 1) by rw [wgtTo, kdAt_eq a1 k2], c1] at hmu
    simp -dsimp -implicitDefEqProofs [a1, a2, k1', k2, wi, hal]
    refine eCall.of hmu (by simp [frQ, ng]) ?_
    simp -dsimp -implicitDefEqProofs
    exact Again.by ⟨i + 1, a1⟩ (Le.to (by simp [wi]) (by simp [frQ, ng]) (by simp)) (by simp; omega)
  have hi2 : i = g.agents.length := by omega
  subst hi2
  simp -dsimp -implicitDefEqProofs [wgt, frQ, ng]
  rfl
end Go.Proofs.YtmgaoecfipkjbaaGreat.Sh

/- The program's Gains. -/
namespace Go.Proofs.YtmgaoecfipkjbaaGreat.Sh
open Go Go.RowKit

theorem ifne {α : Type} {a b : Nat} [Decidable (a = b)] {x y : α} (h : ¬ a = b) : (if a = b then x else y) = y := if_neg h

theorem li_ok {g : Gm} {r : List Ce} {a : Nat} (h : Play g r) (ha : a < g.agents.length) {x : Li} (hx : x ∈ liesL g r a) : x.ok := by
  obtain ⟨h1, h2⟩ := mem_lies h ha hx
  have := (sizeOk_all h.fine.sz).1
  exact ⟨by unfold lenOk; omega, (cap_mz (by omega)).2⟩

set_option maxRecDepth 20000 in
theorem rgains_s (g : Gm) (r : List Ce) (h : Play g r) : CallsS Tryz.prog 25 [gmS g, ruS r] (.v (.one (lisS (gainsL g r)))) := by
  have hf := h.fine
  obtain ⟨h1, -, -, h4, h5⟩ := sizeOk_all hf.sz
  have hgl : (gainsL g r).length = g.agents.length := by simp [gainsL]
  refine calls Tryz.func25 rfl (by rfl) (by rfl) (by kernel_rfl) ?_
  simp -dsimp -implicitDefEqProofs [Tryz.f25]
  refine eCall.of (open_s g r h.seen h.good) (by simp) ?_
  simp -dsimp -implicitDefEqProofs
  refine sw_loop_e (fun p : {p : Nat × Nat // p.1 ≤ g.agents.length ∧ (p.1 ≠ 0 → p.2 ≠ 0)} => SS.of [(5, .v (.one (.mp 2 0))), (7, if p.1.1 = 0 then .v (.one .nils) else .v (.one (.ms (p.1.2 + 2) 0 p.1.1 7 true))), (21, I .i64 g.agents.length), (22, I .i64 p.1.1)] ((2, ⟨106, rowTb g r⟩) :: if p.1.1 = 0 then [] else [(p.1.2 + 2, ⟨39, flat rowLi ((gainsL g r).take p.1.1)⟩)]) (p.1.2 + 3))
    (fun p => g.agents.length - p.1.1) ⟨(0, 0), Nat.zero_le _, fun h => absurd rfl h⟩ (by kernel_rfl) (Le.to (by simp) (by simp) (by simp)) ?_
  rintro ⟨⟨a, c⟩, hi, hc⟩
  simp only at hi hc
  by_cases a1 : a < g.agents.length
  · have wa : IntKind.i64.wrap ((a : Int) + 1) = ((a + 1 : Nat) : Int) := by rw [wrap_i64 _ (by omega) (by omega)]; rfl
    have hfl := flat_snoc (f := rowLi) (bestN g r a r.length) ((gainsL g r).take a)
    have hsn := takeSnoc (gainsL g r) a (by omega)
    rw [show (gainsL g r)[a]'(by omega) = bestN g r a r.length by simp [gainsL]] at hsn
    rw [← hsn, best_top h a1] at hfl
    have hll : ((gainsL g r).take a).length = a := by simp; omega
    have hmo := mostL_s (liesL g r a) (lies1_it g r h a a1) gtL (fun x hx y hy => gains1_s x y (li_ok h a1 hx) (li_ok h a1 hy))
    have hmm : ∀ y, topL g r a = some y → y ∈ liesL g r a := fun y hy => (mst_mem gtL _ _ hy).resolve_right (by simp)
    rw [show (liesL g r a).foldl (mst gtL) none = topL g r a from rfl] at hmo
    by_cases a0 : a = 0
    · have hte : (gainsL g r).take a = [] := by rw [a0]; rfl
      rw [hte, flat_nil, List.nil_append] at hfl
      have hif : ∀ {α : Type} (x y : α), (if a = 0 then x else y) = x := fun x y => if_pos a0
      have hc0 := a0
      simp -dsimp -implicitDefEqProofs [a1, hif, hif]
      refine eCall.of (lies_s g r a) (by simp) ?_
      simp -dsimp -implicitDefEqProofs [hif]
      refine eCall.of hmo (by simp) ?_
      cases ht : topL g r a with
      | none =>
        rw [ht] at hfl
        simp -dsimp -implicitDefEqProofs [hif]
        refine eCall.of rzero_s (by simp) ?_
        simp -dsimp -implicitDefEqProofs [slots, hll, hif, hif]
        try refine ⟨by omega, ?_⟩
        exact Again.by ⟨(a + 1, c + 3), by omega, by simp⟩ (Le.to (by simp [wa, i64_1, a0]) (by simp [hfl, orNo, noLi, frQ, ng, hif]) (by simp)) (by simp; omega)
      | some y =>
        rw [ht] at hfl
        have hmz := (mem_lies h a1 (hmm y ht)).1
        have hz := (cap_mz (show mz y.gain ≤ 2048 by omega)).2
        have hsg := fsign_s (frQ y.gain) (frQ_ok (by omega))
        rw [fix_frQ hz] at hsg
        simp -dsimp -implicitDefEqProofs [hif]
        refine eCall.of hsg (by simp [frQ, ng]) ?_
        by_cases c1 : 0 < y.gain
        · rw [orNo, if_pos c1] at hfl
          have c2 : ¬ sgnQ y.gain ≤ 0 := Int.not_le.2 (sgnQ_pos.2 c1)
          simp -dsimp -implicitDefEqProofs [c2, slots, hll, hif, hif]
          try refine ⟨by omega, ?_⟩
          exact Again.by ⟨(a + 1, c + 3), by omega, by simp⟩ (Le.to (by simp [wa, i64_1, a0]) (by simp [hfl, frQ, ng, hif]) (by simp)) (by simp; omega)
        · rw [orNo, if_neg c1] at hfl
          have c2 : sgnQ y.gain ≤ 0 := Int.not_lt.1 (mt sgnQ_pos.1 c1)
          simp -dsimp -implicitDefEqProofs [c2, hif]
          refine eCall.of rzero_s (by simp) ?_
          simp -dsimp -implicitDefEqProofs [slots, hll, hif, hif]
          try refine ⟨by omega, ?_⟩
          exact Again.by ⟨(a + 1, c + 3), by omega, by simp⟩ (Le.to (by simp [wa, i64_1, a0]) (by simp [hfl, noLi, frQ, ng, hif]) (by simp)) (by simp; omega)
    · have hc0 := hc a0
      have hif : ∀ {α : Type} (x y : α), (if a = 0 then x else y) = y := fun x y => if_neg a0
      simp -dsimp -implicitDefEqProofs [a1, hif, a0, hc0]
      refine eCall.of (lies_s g r a) (by simp) ?_
      simp -dsimp -implicitDefEqProofs [a0, hc0]
      refine eCall.of hmo (by simp) ?_
      cases ht : topL g r a with
      | none =>
        rw [ht] at hfl
        simp -dsimp -implicitDefEqProofs [a0, hc0]
        refine eCall.of rzero_s (by simp) ?_
        simp -dsimp -implicitDefEqProofs [slots, hll, hif, a0, hc0]
        try refine ⟨by omega, ?_⟩
        exact Again.by ⟨(a + 1, c + 3), by omega, by simp⟩ (Le.to (by simp [wa, i64_1, a0, hc0]) (by simp [hfl, orNo, noLi, frQ, ng, a0, hc0]) (by simp)) (by simp; omega)
      | some y =>
        rw [ht] at hfl
        have hmz := (mem_lies h a1 (hmm y ht)).1
        have hz := (cap_mz (show mz y.gain ≤ 2048 by omega)).2
        have hsg := fsign_s (frQ y.gain) (frQ_ok (by omega))
        rw [fix_frQ hz] at hsg
        simp -dsimp -implicitDefEqProofs [a0, hc0]
        refine eCall.of hsg (by simp [frQ, ng]) ?_
        by_cases c1 : 0 < y.gain
        · rw [orNo, if_pos c1] at hfl
          have c2 : ¬ sgnQ y.gain ≤ 0 := Int.not_le.2 (sgnQ_pos.2 c1)
          simp -dsimp -implicitDefEqProofs [c2, slots, hll, hif, a0, hc0]
          try refine ⟨by omega, ?_⟩
          exact Again.by ⟨(a + 1, c + 3), by omega, by simp⟩ (Le.to (by simp [wa, i64_1, a0, hc0]) (by simp [hfl, frQ, ng, a0, hc0]) (by simp)) (by simp; omega)
        · rw [orNo, if_neg c1] at hfl
          have c2 : sgnQ y.gain ≤ 0 := Int.not_lt.1 (mt sgnQ_pos.1 c1)
          simp -dsimp -implicitDefEqProofs [c2, a0, hc0]
          refine eCall.of rzero_s (by simp) ?_
          simp -dsimp -implicitDefEqProofs [slots, hll, hif, a0, hc0]
          try refine ⟨by omega, ?_⟩
          exact Again.by ⟨(a + 1, c + 3), by omega, by simp⟩ (Le.to (by simp [wa, i64_1, a0, hc0]) (by simp [hfl, noLi, frQ, ng, a0, hc0]) (by simp)) (by simp; omega)
  have hi2 : a = g.agents.length := by omega
  subst hi2
  have n0 : ¬ g.agents.length = 0 := fun e => h.good.2.1.ag (List.length_eq_zero_iff.1 e)
  have hc0 := hc n0
  have htk : (gainsL g r).take g.agents.length = gainsL g r := List.take_of_length_le (by omega)
  simp -dsimp -implicitDefEqProofs [n0, htk, hgl, hc0]
end Go.Proofs.YtmgaoecfipkjbaaGreat.Sh

/- The program's Aim. -/
namespace Go.Proofs.YtmgaoecfipkjbaaGreat.Sh
open Go Go.RowKit

def useQ (g : Gm) (r : List Ce) (n a : Nat) : Rat := hasQ (ceAt r n) (kdAt g a (kOf g n a)) a
def usesP (g : Gm) (r : List Ce) (n p : Nat) : List Rat := (List.range p).map (useQ g r n)
def usesTo (g : Gm) (r : List Ce) (n : Nat) : List Rat := (List.range n).flatMap fun n => usesP g r n g.agents.length
def usesL (g : Gm) (r : List Ce) : List Rat := usesTo g r r.length
theorem usesTo_succ (g : Gm) (r : List Ce) (n : Nat) : usesTo g r (n + 1) = usesTo g r n ++ usesP g r n g.agents.length := by
  unfold usesTo; rw [List.range_succ, List.flatMap_append]; simp
theorem usesTo_pre (g : Gm) (r : List Ce) {n N : Nat} (h : n ≤ N) : usesTo g r n <+: usesTo g r N := by
  unfold usesTo
  obtain ⟨d, rfl⟩ : ∃ d, N = n + d := ⟨N - n, by omega⟩
  rw [List.range_add, List.flatMap_append]
  exact List.prefix_append _ _
theorem usesP_step (g : Gm) (r : List Ce) (n p : Nat) : usesP g r n (p + 1) = usesP g r n p ++ [useQ g r n p] := by
  unfold usesP; rw [List.range_succ, List.map_append]; rfl
theorem uses_pre (g : Gm) (r : List Ce) {n p : Nat} (hn : n < r.length) (h : p ≤ g.agents.length) : usesTo g r n ++ usesP g r n p <+: usesL g r := by
  have h1 := usesTo_pre g r (n := n + 1) (N := r.length) hn
  rw [usesTo_succ] at h1
  obtain ⟨d, hd⟩ : ∃ d, g.agents.length = p + d := ⟨g.agents.length - p, by omega⟩
  have h2 : usesP g r n p <+: usesP g r n g.agents.length := by
    unfold usesP; rw [hd, List.range_add, List.map_append]; exact List.prefix_append _ _
  obtain ⟨t, ht⟩ := h2
  rw [← ht, ← List.append_assoc] at h1
  exact (List.prefix_append _ _).trans h1

theorem Spot.use {g : Gm} {r : List Ce} {a n : Nat} (h : Spot g r a n) : mz (useQ g r n a) ≤ 222 ∧ CallsS Tryz.prog 89 [tbS g r, ceS (r[n]'h.hn), .one (.int .i64 (a : Int)), .one (.int .i64 (kOf g n a : Int))] (.v (fS (useQ g r n a))) := by
  obtain ⟨k1, k2⟩ := h.kof
  have hP := h.pair h.hn k2
  have e : useQ g r n a = hasQ (r[n]'h.hn) ((g.agents[a]'h.ha).kinds[kOf g n a]) a := by unfold useQ; rw [ceAt_eq h.hn, kdAt_eq h.ha k2]
  rw [e]
  exact ⟨hP.has, rhas_s g r _ a (kOf g n a) h.ha k2 hP⟩
theorem mem_uses {g : Gm} {r : List Ce} (h : Play g r) {q : Rat} (hq : q ∈ usesL g r) : mz q ≤ 222 := by
  obtain ⟨n, hn, hq⟩ := List.mem_flatMap.1 hq
  obtain ⟨a, ha, rfl⟩ := List.mem_map.1 hq
  exact (Spot.use ⟨h, List.mem_range.1 ha, List.mem_range.1 hn⟩).1

set_option maxRecDepth 20000 in
set_option maxHeartbeats 1000000 in
theorem aim1_it (g : Gm) (r : List Ce) (h : Play g r) : IterS Tryz.prog 87 [.rp true (rowTb g r), .rp true [cesS r]] (itemsQ (usesL g r)) := by
  have hf := h.fine
  obtain ⟨h1, -, -, h4, h5⟩ := sizeOk_all hf.sz
  have hrl := h.good.2.2.1
  have hpl := profs_length g
  refine iterS2 Tryz.func87 rfl (by rfl) (by kernel_rfl) (by rfl) (by kernel_rfl) ?_
  intro v J S base hy hJ0
  simp -dsimp -implicitDefEqProofs [Tryz.f87]
  refine eCall.of (places_s g r) (by simp) ?_
  simp -dsimp -implicitDefEqProofs
  have hstab : ∀ pre, pre <+: itemsQ (usesL g r) → ∀ w0 ok0, base w0 ok0 → Stable w0.Z (J pre) := fun pre hpre w0 ok0 hb => by
    rcases List.eq_nil_or_concat pre with e | ⟨p, x, e⟩
    · subst e; exact hJ0 w0 ok0 hb
    · rw [List.concat_eq_append] at e
      subst e; exact (hy p x hpre).st1 w0 ok0 hb
  have hpre : ∀ n, n ≤ r.length → itemsQ (usesTo g r n) <+: itemsQ (usesL g r) := fun n hn => by
    obtain ⟨t, ht⟩ := usesTo_pre g r hn
    exact ⟨itemsQ t, by unfold usesL; rw [← ht]; simp [itemsQ]⟩
  refine sw_range_e [0] (fun k => (SS.of [(1, .v (.one (.rp true (rowTb g r)))), (2, .v (.one (.rp true [cesS r]))), (3, .v (.one (.mp 0 0))), (9, .v (.one (.fn 154 [.rp true (rowTb g r)])))] [(0, ⟨118, [.val v]⟩)] 1).wx ⟨[], J (itemsQ (usesTo g r (min k r.length))), base⟩)
    (places1_it g r (by omega)) (by simp) (by kernel_rfl) (fun it hit => by obtain ⟨i, -, rfl⟩ := List.mem_map.1 hit; rfl) (Le.toX (by simp) (by simp) (by simp) (by simp [usesTo, itemsQ])) (fun k => ⟨rfl, rfl, ?_, by simp, rfl, rfl⟩) (fun k w0 ok0 hb => hstab _ (hpre _ (Nat.min_le_right _ _)) w0 ok0 hb) ?_ ?_
  · intro o ob ho
    simp at ho
    simp [ho]
  · intro n hn
    rw [itemsP_len, hpl, ← hrl] at hn
    have hpn : (profs g)[n]?.getD [] = atG g n := by rw [profs_at (by omega)]; rfl
    have hal := atG_length g n
    have e1 : min n r.length = n := by omega
    have e2 : min (n + 1) r.length = n + 1 := by omega
    have hpw : ∀ p, p ≤ g.agents.length → itemsQ (usesTo g r n ++ usesP g r n p) <+: itemsQ (usesL g r) := fun p hp => by
      obtain ⟨t, ht⟩ := uses_pre g r hn hp
      exact ⟨itemsQ t, by rw [← ht]; simp [itemsQ]⟩
    rw [itemsP_get]
    simp -dsimp -implicitDefEqProofs [itemP, hpn, e1, e2]
    refine sw_loop_e (fun p : {p : Nat // p ≤ g.agents.length} => (SS.of [(1, .v (.one (.rp true (rowTb g r)))), (2, .v (.one (.rp true [cesS r]))), (3, .v (.one (.mp 0 0))), (4, I .i64 n), (12, .v (.one (intsS (atG g n)))), (13, I .i64 g.agents.length), (14, I .i64 p.1)]
        [(0, ⟨118, [.val v]⟩)] 1).wx ⟨[], J (itemsQ (usesTo g r n ++ usesP g r n p.1)), base⟩)
      (fun p => g.agents.length - p.1) ⟨0, Nat.zero_le _⟩ (by kernel_rfl) (Le.toX (by simp [hal]) (by simp) (by simp) (by simp [usesP, e1])) ?_
    rintro ⟨a, ha⟩
    by_cases a1 : a < g.agents.length
    · have wa : IntKind.i64.wrap ((a : Int) + 1) = ((a + 1 : Nat) : Int) := by rw [wrap_i64 _ (by omega) (by omega)]; rfl
      have hsp : Spot g r a n := ⟨h, a1, hn⟩
      obtain ⟨k1, k2⟩ := hsp.kof
      have al : a < (atG g n).length := by rw [atG_length]; exact a1
      have k1' : (atG g n)[a] = (kOf g n a : Int) := by rw [List.getElem?_eq_getElem al] at k1; exact Option.some.inj k1
      have hyi := hy (itemsQ (usesTo g r n ++ usesP g r n a)) [fS (useQ g r n a)] (by
        have := hpw (a + 1) a1
        rw [usesP_step, ← List.append_assoc] at this
        simpa [itemsQ] using this)
      have hnx : itemsQ (usesTo g r n ++ usesP g r n a) ++ [[fS (useQ g r n a)]] = itemsQ (usesTo g r n ++ usesP g r n (a + 1)) := by rw [usesP_step]; simp [itemsQ]
      rw [hnx] at hyi
      simp -dsimp -implicitDefEqProofs [a1, al, k1', hn]
      refine eCall.of hsp.use.2 (by simp) ?_
      simp -dsimp -implicitDefEqProofs
      refine ⟨.inr (by kernel_rfl), ?_⟩
      refine spec_yield (v := v) (args := [fS (useQ g r n a)]) (C1 := J (itemsQ (usesTo g r n ++ usesP g r n (a + 1)))) (C2 := S) (by simp) (by simpa using hyi) (by simp [frQ, ng]) ?_ ?_
      · simp -dsimp -implicitDefEqProofs
        exact Again.by ⟨a + 1, a1⟩ (Le.toX (by simp [wa]) (by simp) (by simp) (by simp)) (by simp; omega)
      · simp -dsimp -implicitDefEqProofs
    have ha2 : a = g.agents.length := by omega
    subst ha2
    have e3 := usesTo_succ g r n
    simp -dsimp -implicitDefEqProofs [e2, e3]
  · simp -dsimp -implicitDefEqProofs [itemsP_len, hpl, ← hrl]
    exact .inl rfl
end Go.Proofs.YtmgaoecfipkjbaaGreat.Sh

/- The program's Aim. -/
namespace Go.Proofs.YtmgaoecfipkjbaaGreat.Sh
open Go Go.RowKit

def paidQ (c : Ce) : Rat := cap (sumQ (c.pay.map FR.fix))
def totTo (g : Gm) (r : List Ce) (n : Nat) : Nat → Rat
  | 0 => 0
  | i + 1 => cap (totTo g r n i + cap (sumQ (dotL (ceAt r n).lot (kdAt g i (kOf g n i)).worth)))
def partQ (g : Gm) (r : List Ce) (n : Nat) : Rat := if g.aim = 1 then totTo g r n g.agents.length else paidQ (ceAt r n)
def aimTo (g : Gm) (r : List Ce) : Nat → Rat
  | 0 => 0
  | n + 1 => cap (aimTo g r n + cap (wgt g n * partQ g r n))
def ltQ (x y : Rat) : Bool := decide (x < y)
def lowQ (g : Gm) (r : List Ce) : Rat := ((usesL g r).foldl (mst ltQ) none).getD 0
def aimQ (g : Gm) (r : List Ce) : Rat := if g.aim = 2 then lowQ g r else aimTo g r r.length

theorem sz0 : sz 0 ≤ 4096 := by decide +kernel
theorem totTo_sz (g : Gm) (r : List Ce) (n : Nat) : ∀ i, sz (totTo g r n i) ≤ 4096
  | 0 => sz0
  | _ + 1 => sz_cap _
theorem partQ_sz (g : Gm) (r : List Ce) (n : Nat) : sz (partQ g r n) ≤ 4096 := by
  unfold partQ; split
  · exact totTo_sz g r n _
  · exact sz_cap _
theorem aimTo_sz (g : Gm) (r : List Ce) : ∀ n, sz (aimTo g r n) ≤ 4096
  | 0 => sz0
  | _ + 1 => sz_cap _

theorem wgt_sz {g : Gm} {r : List Ce} (h : Play g r) {n : Nat} (hn : n < r.length) : sz (wgt g n) ≤ 4096 := by
  have := wgtTo_mz h hn g.agents.length (Nat.le_refl _)
  have := (sizeOk_all h.fine.sz).1
  exact (cap_mz (show mz (wgt g n) ≤ 2048 by unfold wgt; omega)).2

theorem dot4_s {g : Gm} {r : List Ce} {a n : Nat} (h : Spot g r a n) : CallsS Tryz.prog 93 [.one (frsS (r[n]'h.hn).lot), .one (frsS ((g.agents[a]'h.ha).kinds[kOf g n a]'h.kof.2).worth)] (.v (fS (cap (sumQ (dotL (ceAt r n).lot (kdAt g a (kOf g n a)).worth))))) := by
  obtain ⟨k1, k2⟩ := h.kof
  have hP := h.pair h.hn k2
  rw [ceAt_eq h.hn, kdAt_eq h.ha k2]
  exact fdot_s _ _ hP.cf.ok.2.2.1 hP.kf.ok.2.2.2.2 (by have := hP.six; omega) hP.len

theorem uses_ne {g : Gm} {r : List Ce} (h : Play g r) : usesL g r ≠ [] := by
  have h1 : 0 < r.length := by
    have := prod_pos (l := g.agents) (fun a ha => (h.good.2.1.all a ha).1) g.agents.length (Nat.le_refl _)
    rw [List.take_length, ← h.good.2.2.1] at this
    exact this
  have h2 : 0 < g.agents.length := List.length_pos_iff.2 h.good.2.1.ag
  have : useQ g r 0 0 ∈ usesL g r := List.mem_flatMap.2 ⟨0, List.mem_range.2 h1, List.mem_map.2 ⟨0, List.mem_range.2 h2, rfl⟩⟩
  exact List.ne_nil_of_mem this
theorem mst_isSome {α : Type} (ahd : α → α → Bool) {l : List α} (h : l ≠ []) : (l.foldl (mst ahd) none).isSome = true := by
  rcases List.eq_nil_or_concat l with e | ⟨p, x, e⟩
  · exact absurd e h
  · rw [e, List.concat_eq_append, List.foldl_append]; exact mst_some ahd _ x
theorem uses_some {g : Gm} {r : List Ce} (h : Play g r) : (usesL g r).foldl (mst ltQ) none = some (lowQ g r) := by
  obtain ⟨q, hq⟩ := Option.isSome_iff_exists.1 (mst_isSome ltQ (uses_ne h))
  rw [lowQ, hq]; rfl

set_option maxRecDepth 20000 in
set_option maxHeartbeats 1000000 in
theorem raim_s (g : Gm) (r : List Ce) (h : Play g r) : CallsS Tryz.prog 35 [gmS g, ruS r] (.v (fS (aimQ g r))) := by
  have hf := h.fine
  obtain ⟨h1, -, -, h4, h5⟩ := sizeOk_all hf.sz
  have hrl := h.good.2.2.1
  have hpl := profs_length g
  refine calls Tryz.func35 rfl (by rfl) (by rfl) (by kernel_rfl) ?_
  simp -dsimp -implicitDefEqProofs [Tryz.f35]
  refine eCall.of (open_s g r h.seen h.good) (by simp) ?_
  by_cases c2 : g.aim = 2
  · have c2' := eq_true c2
    have hq : ∀ x ∈ usesL g r, sz x ≤ 4096 := fun x hx => (cap_mz (by have := mem_uses h hx; omega)).2
    have hmo := mostQ_s (usesL g r) (aim1_it g r h) ltQ (fun x hx y hy => aim2_s x y (hq x hx) (hq y hy))
    have hai : aimQ g r = lowQ g r := if_pos c2
    simp -dsimp -implicitDefEqProofs [c2']
    refine eCall.of hmo (by simp) ?_
    rw [hai, lowQ]
    cases hm : (usesL g r).foldl (mst ltQ) none with
    | none => rw [uses_some h] at hm; cases hm
    | some q => simp -dsimp -implicitDefEqProofs [frQ, ng]
  have hai : aimQ g r = aimTo g r r.length := if_neg c2
  simp -dsimp -implicitDefEqProofs [c2]
  refine eCall.of rzero_s (by simp) ?_
  simp -dsimp -implicitDefEqProofs
  refine eCall.of (places_s g r) (by simp) ?_
  simp -dsimp -implicitDefEqProofs
  refine sw_range_e [0, 1, 2, 3, 4] (fun k => SS.of [(2, .v (.one (.mp 0 0))), (3, .v (.one (.mp 1 0))), (4, .v (.one (.mp 2 0))), (5, .v (.one (.mp 3 0))), (10, .v (.one (.mp 4 0))), (38, .v (.one (.fn 154 [.rp true (rowTb g r)])))]
      [(0, ⟨26, rowGm g⟩), (1, ⟨29, [cesS r]⟩), (2, ⟨37, [.bool false, .nils, .nils]⟩), (3, ⟨106, rowTb g r⟩), (4, ⟨37, rowFr (frQ (aimTo g r k))⟩)] 5)
    (places1_it g r (by omega)) (by simp) (by kernel_rfl) (fun it hit => by obtain ⟨i, -, rfl⟩ := List.mem_map.1 hit; rfl) (Le.to (by simp) (by simp [aimTo, frQ, ng]) (by simp)) (fun k => ⟨rfl, rfl, ?_, by simp, rfl, rfl⟩) (fun k w0 ok0 hb => stable_nil) ?_ ?_
  · intro o ob ho
    simp at ho
    grind
  · intro n hn
    rw [itemsP_len, hpl, ← hrl] at hn
    have hpn : (profs g)[n]?.getD [] = atG g n := by rw [profs_at (by omega)]; rfl
    have hal := atG_length g n
    have hce := h.ce (List.getElem_mem hn)
    have hpay := fsum_s r[n].pay hce.1.ok.2.2.2 (by have := hce.2.2; omega)
    rw [show cap (sumQ (r[n].pay.map FR.fix)) = paidQ (ceAt r n) by rw [paidQ, ceAt_eq hn]] at hpay
    have hwz := wgt_sz h hn
    have hpz := partQ_sz g r n
    have haz := aimTo_sz g r n
    have hmu := fmul_s (frQ (wgt g n)) (frQ (partQ g r n)) (frQ_ok (by omega)) (frQ_ok (by omega))
    rw [fix_frQ hwz, fix_frQ hpz] at hmu
    have hcz := sz_cap (wgt g n * partQ g r n)
    have had := fadd_s (frQ (aimTo g r n)) (frQ (cap (wgt g n * partQ g r n))) (frQ_ok (by omega)) (frQ_ok (by omega))
    rw [fix_frQ haz, fix_frQ hcz, show cap (aimTo g r n + cap (wgt g n * partQ g r n)) = aimTo g r (n + 1) from rfl] at had
    rw [itemsP_get]
    simp -dsimp -implicitDefEqProofs [itemP, hpn, hn]
    refine eCall.of hpay (by simp) ?_
    by_cases c1 : g.aim = 1
    · have hpt : partQ g r n = totTo g r n g.agents.length := if_pos c1
      have c1' := eq_true c1
      simp -dsimp -implicitDefEqProofs [c1']
      refine eCall.of rzero_s (by simp) ?_
      simp -dsimp -implicitDefEqProofs
      refine sw_loop_e (fun p : {p : Nat // p ≤ g.agents.length} => SS.of [(2, .v (.one (.mp 0 0))), (3, .v (.one (.mp 1 0))), (4, .v (.one (.mp 2 0))), (5, .v (.one (.mp 3 0))), (10, .v (.one (.mp 4 0))), (12, .v (.one (intsS (atG g n)))), (13, .v (.one (.mp 5 0))), (14, .v (.one (.mp 6 0))), (53, .v (.one (intsS (atG g n)))), (54, I .i64 g.agents.length), (55, I .i64 p.1)]
          [(0, ⟨26, rowGm g⟩), (1, ⟨29, [cesS r]⟩), (2, ⟨37, [.bool false, .nils, .nils]⟩), (3, ⟨106, rowTb g r⟩), (4, ⟨37, rowFr (frQ (aimTo g r n))⟩), (5, ⟨60, rowCe r[n]⟩), (6, ⟨37, rowFr (frQ (totTo g r n p.1))⟩)] 7)
        (fun p => g.agents.length - p.1) ⟨0, Nat.zero_le _⟩ (by kernel_rfl) (Le.to (by simp [hal]) (by simp [totTo, frQ, ng]) (by simp)) ?_
      rintro ⟨a, ha⟩
      by_cases a1 : a < g.agents.length
      · have wa : IntKind.i64.wrap ((a : Int) + 1) = ((a + 1 : Nat) : Int) := by rw [wrap_i64 _ (by omega) (by omega)]; rfl
        have hsp : Spot g r a n := ⟨h, a1, hn⟩
        obtain ⟨k1, k2⟩ := hsp.kof
        have al : a < (atG g n).length := by rw [atG_length]; exact a1
        have k1' : (atG g n)[a] = (kOf g n a : Int) := by rw [List.getElem?_eq_getElem al] at k1; exact Option.some.inj k1
        have htz := totTo_sz g r n a
        have hdz := sz_cap (sumQ (dotL (ceAt r n).lot (kdAt g a (kOf g n a)).worth))
        have hda := fadd_s (frQ (totTo g r n a)) (frQ (cap (sumQ (dotL (ceAt r n).lot (kdAt g a (kOf g n a)).worth)))) (frQ_ok (by omega)) (frQ_ok (by omega))
        rw [fix_frQ htz, fix_frQ hdz, show cap (totTo g r n a + cap (sumQ (dotL (ceAt r n).lot (kdAt g a (kOf g n a)).worth))) = totTo g r n (a + 1) from rfl] at hda
        simp -dsimp -implicitDefEqProofs [a1, al, k1', k2]
        refine eCall.of (dot4_s hsp) (by simp) ?_
        simp -dsimp -implicitDefEqProofs
        refine eCall.of hda (by simp [frQ, ng]) ?_
        simp -dsimp -implicitDefEqProofs
        exact Again.by ⟨a + 1, a1⟩ (Le.to (by simp [wa]) (by simp [frQ, ng]) (by simp)) (by simp; omega)
      have ha2 : a = g.agents.length := by omega
      subst ha2
      rw [← hpt]
      simp -dsimp -implicitDefEqProofs
      refine eCall.of (weight_s g r h n hn) (by simp) ?_
      simp -dsimp -implicitDefEqProofs
      refine eCall.of hmu (by simp [frQ, ng]) ?_
      simp -dsimp -implicitDefEqProofs
      refine eCall.of had (by simp [frQ, ng]) ?_
      simp -dsimp -implicitDefEqProofs [frQ, ng]
    · have hpt : partQ g r n = paidQ (ceAt r n) := if_neg c1
      simp -dsimp -implicitDefEqProofs [c1]
      refine eCall.of (weight_s g r h n hn) (by simp) ?_
      simp -dsimp -implicitDefEqProofs
      rw [hpt] at hmu
      refine eCall.of hmu (by simp [frQ, ng]) ?_
      simp -dsimp -implicitDefEqProofs
      rw [hpt] at had
      refine eCall.of had (by simp [frQ, ng]) ?_
      simp -dsimp -implicitDefEqProofs [frQ, ng]
  · simp -dsimp -implicitDefEqProofs [itemsP_len, hpl, ← hrl, hai, frQ, ng]

set_option maxRecDepth 20000 in
theorem raimNo_s (g : Gm) (r : List Ce) (h : Seen g r) (hg : ¬ Good g r) : CallsS Tryz.prog 35 [gmS g, ruS r] (.v (fS 0)) := by
  refine calls Tryz.func35 rfl (by rfl) (by rfl) (by kernel_rfl) ?_
  simp -dsimp -implicitDefEqProofs [Tryz.f35]
  refine eCall.of (openNo_s g r h hg) (by simp) ?_
  simp -dsimp -implicitDefEqProofs
  refine eCall.of rzero_s (by simp) ?_
  simp -dsimp -implicitDefEqProofs [frQ, ng]

set_option maxRecDepth 20000 in
theorem rgainsNo_s (g : Gm) (r : List Ce) (h : Seen g r) (hg : ¬ Good g r) : CallsS Tryz.prog 25 [gmS g, ruS r] (.v (.one (lisS []))) := by
  refine calls Tryz.func25 rfl (by rfl) (by rfl) (by kernel_rfl) ?_
  simp -dsimp -implicitDefEqProofs [Tryz.f25]
  refine eCall.of (openNo_s g r h hg) (by simp) ?_
  simp -dsimp -implicitDefEqProofs

set_option maxRecDepth 20000 in
theorem gainsRNo_s (g : Gm) (r : List Ce) (h : Seen g r) (hg : ¬ Good g r) : CallsS Tryz.prog 21 [gmS g, ruS r] (.v (.one (lisS []))) := by
  obtain ⟨e, he, h0⟩ := isGood_of g r
  have h0 : ¬ e = 0 := fun h => hg (h0.1 h)
  refine calls Tryz.func21 rfl (by rfl) (by rfl) (by kernel_rfl) ?_
  simp -dsimp -implicitDefEqProofs [Tryz.f21]
  refine eCall.of (rightR4_s g r h e he) (by simp) ?_
  simp -dsimp -implicitDefEqProofs [h0]
end Go.Proofs.YtmgaoecfipkjbaaGreat.Sh

/- The game of the fixed calls. -/
namespace Go.Proofs.YtmgaoecfipkjbaaGreat.Sh
open Go Go.RowKit

def wholeL (l : List Int) : List FR := l.map fun (x : Int) => frQ (x : Rat)

set_option maxRecDepth 20000 in
theorem whole4_s (l : List Int) (hl : l.length ≤ 1048576) (hi : InI l) : CallsS Tryz.prog 142 [.one (intsS l)] (.v (.one (frsS (wholeL l)))) := by
  have hwl : (wholeL l).length = l.length := by simp [wholeL]
  refine calls Tryz.func142 rfl (by rfl) (by rfl) (by kernel_rfl) ?_
  simp -dsimp -implicitDefEqProofs [Tryz.f142]
  refine sw_loop_e (fun p : {p : Nat × Nat × Nat // p.1 ≤ l.length ∧ p.2.2 ≤ p.2.1 ∧ (p.1 ≠ 0 → p.2.2 < p.2.1)} => SS.of [(0, .v (.one (intsS l))), (3, if p.1.1 = 0 then .v (.one .nils) else .v (.one (.ms p.1.2.2 0 p.1.1 3 true))), (4, I .i64 p.1.1)] (if p.1.1 = 0 then [] else [(p.1.2.2, ⟨37, flat rowFr ((wholeL l).take p.1.1)⟩)]) p.1.2.1)
    (fun p => l.length - p.1.1) ⟨(0, 0, 0), Nat.zero_le _, Nat.le_refl _, fun h => absurd rfl h⟩ (by kernel_rfl) (Le.to (by simp) (by simp) (by simp)) ?_
  rintro ⟨⟨i, c, o⟩, hi2, hoc, hoc'⟩
  simp only at hi2 hoc hoc'
  by_cases a1 : i < l.length
  · have wi : IntKind.i64.wrap ((i : Int) + 1) = ((i + 1 : Nat) : Int) := by rw [wrap_i64 _ (by omega) (by omega)]; rfl
    obtain ⟨x0, x1⟩ := hi _ (List.getElem_mem a1)
    have hfl := flat_snoc (f := rowFr) (frQ (l[i] : Rat)) ((wholeL l).take i)
    have hsn := takeSnoc (wholeL l) i (by omega)
    rw [show (wholeL l)[i]'(by omega) = frQ (l[i] : Rat) by simp [wholeL]] at hsn
    rw [← hsn] at hfl
    have hll : ((wholeL l).take i).length = i := by simp; omega
    have hin := intR_s l[i] x0 x1
    generalize (l[i] : Rat) = q at *
    by_cases i0 : i = 0
    · subst i0
      simp -dsimp -implicitDefEqProofs [a1, wi, slots]
      refine eCall.of hin (by simp) ?_
      rw [List.take_zero, flat_nil, List.nil_append] at hfl
      simp -dsimp -implicitDefEqProofs [a1, wi, slots]
      exact Again.by ⟨(1, c + 2, c + 1), by omega, by simp only; omega, by simp only; omega⟩ (Le.to (by simp [i64_1]) (by simp [hfl, frQ, ng]) (by simp)) (by simp; omega)
    · have oc1 : ¬ o = c := by have := hoc' i0; omega
      simp -dsimp -implicitDefEqProofs [a1, wi, i0, slots, hll, oc1]
      refine eCall.of hin (by simp) ?_
      simp -dsimp -implicitDefEqProofs [a1, wi, i0, slots, hll, oc1]
      refine ⟨by omega, ?_⟩
      exact Again.by ⟨(i + 1, c + 2, c + 1), by omega, by simp only; omega, by simp only; omega⟩ (Le.to (by simp [wi]) (by simp [hfl, frQ, ng]) (by simp)) (by simp; omega)
  have hi3 : i = l.length := by omega
  subst hi3
  by_cases i0 : l.length = 0
  · have e : l = [] := List.length_eq_zero_iff.1 i0
    simp -dsimp -implicitDefEqProofs [i0, e, wholeL]
  · have htk : (wholeL l).take l.length = wholeL l := List.take_of_length_le (by omega)
    simp -dsimp -implicitDefEqProofs [i0, htk, hwl]

def kd4 (name : ByteArray) (l : List Int) : Kd := ⟨name, frQ 1, frQ 0, wholeL l⟩
set_option maxRecDepth 20000 in
theorem kind4_s (name : ByteArray) (l : List Int) (hl : l.length ≤ 1048576) (hi : InI l) : CallsS Tryz.prog 141 [.one (.str name), .one (intsS l)] (.v (.agg (rowKd (kd4 name l)))) := by
  have i0 := intR_s 0 (by decide) (by decide)
  have i1 := intR_s 1 (by decide) (by decide)
  refine calls Tryz.func141 rfl (by rfl) (by rfl) (by kernel_rfl) ?_
  simp -dsimp -implicitDefEqProofs [Tryz.f141]
  refine eCall.of i1 (by simp) ?_
  simp -dsimp -implicitDefEqProofs
  refine eCall.of i0 (by simp) ?_
  simp -dsimp -implicitDefEqProofs
  refine eCall.of (whole4_s l hl hi) (by simp) ?_
  simp -dsimp -implicitDefEqProofs [kd4, frQ, ng]
end Go.Proofs.YtmgaoecfipkjbaaGreat.Sh

/- The game and the rule of the fixed calls. -/
namespace Go.Proofs.YtmgaoecfipkjbaaGreat.Sh
open Go Go.RowKit

def nmLow : ByteArray := ⟨#[108, 111, 119]⟩
def nmHigh : ByteArray := ⟨#[104, 105, 103, 104]⟩
def nmMid : ByteArray := ⟨#[109, 105, 100]⟩
def nmAnn : ByteArray := ⟨#[97, 110, 110]⟩
def nmBob : ByteArray := ⟨#[98, 111, 98]⟩
def nmNone : ByteArray := ⟨#[110, 111, 110, 101]⟩
def saleG : Gm := ⟨[⟨nmAnn, [kd4 nmLow [0, 1, 0], kd4 nmHigh [0, 3, 0]]⟩, ⟨nmBob, [kd4 nmMid [0, 0, 2]]⟩], [nmNone, nmAnn, nmBob], true, false, 1, []⟩
def soldR (p : Int) : List Ce := [⟨wholeL [0, 0, 1], wholeL [0, 1]⟩, ⟨wholeL [0, 1, 0], wholeL [p, 0]⟩]

theorem inI_of {l : List Int} (h : (l.all fun x => decide (-9223372036854775808 ≤ x) && decide (x < 9223372036854775808)) = true) : InI l := by
  intro x hx
  have := List.all_eq_true.1 h x hx
  simpa using this

set_option maxRecDepth 20000 in
theorem sold4_s (p : Int) (h0 : 0 ≤ p) (h1 : p < 1000) : CallsS Tryz.prog 71 [.one (.int .i64 p)] (.v (ruS (soldR p))) := by
  refine calls Tryz.func71 rfl (by rfl) (by rfl) (by kernel_rfl) ?_
  simp -dsimp -implicitDefEqProofs [Tryz.f71, slots, List.range_succ]
  refine eCall.of (whole4_s [0, 0, 1] (by decide) (inI_of (by decide))) (by simp [rowsOf, List.range_succ]) ?_
  simp -dsimp -implicitDefEqProofs [slots, List.range_succ]
  refine eCall.of (whole4_s [0, 1] (by decide) (inI_of (by decide))) (by simp [rowsOf, List.range_succ]) ?_
  simp -dsimp -implicitDefEqProofs [slots, List.range_succ]
  refine eCall.of (whole4_s [0, 1, 0] (by decide) (inI_of (by decide))) (by simp [rowsOf, List.range_succ]) ?_
  simp -dsimp -implicitDefEqProofs [slots, List.range_succ]
  refine eCall.of (whole4_s [p, 0] (by simp) (fun x hx => by simp at hx; omega)) (by simp [rowsOf, List.range_succ]) ?_
  simp -dsimp -implicitDefEqProofs [slots, List.range_succ, soldR, rowsOf]

set_option maxRecDepth 20000 in
theorem sale4_s : CallsS Tryz.prog 70 [] (.v (gmS saleG)) := by
  refine calls Tryz.func70 rfl (by rfl) (by rfl) (by kernel_rfl) ?_
  simp -dsimp -implicitDefEqProofs [Tryz.f70, slots, List.range_succ]
  refine eCall.of (kind4_s nmLow [0, 1, 0] (by decide) (inI_of (by decide))) (by simp [nmLow, rowsOf, List.range_succ]) ?_
  simp -dsimp -implicitDefEqProofs [slots, List.range_succ]
  refine eCall.of (kind4_s nmHigh [0, 3, 0] (by decide) (inI_of (by decide))) (by simp [nmHigh, rowsOf, List.range_succ]) ?_
  simp -dsimp -implicitDefEqProofs [slots, List.range_succ]
  refine eCall.of (kind4_s nmMid [0, 0, 2] (by decide) (inI_of (by decide))) (by simp [nmMid, rowsOf, List.range_succ]) ?_
  simp -dsimp -implicitDefEqProofs [slots, List.range_succ, saleG, nmAnn, nmBob, nmNone, rowsOf]
end Go.Proofs.YtmgaoecfipkjbaaGreat.Sh

/- The sale and what is sold: what is known of them. No program in sight. -/
namespace Go.Proofs.YtmgaoecfipkjbaaGreat.Sh
open Go Go.RowKit

instance (f : FR) : Decidable f.ok := decidable_of_iff ((∀ x ∈ f.num, 0 ≤ x ∧ x < 4294967296) ∧ (∀ x ∈ f.den, 0 ≤ x ∧ x < 4294967296) ∧ f.num.length ≤ 140737488355328 ∧ f.den.length ≤ 140737488355328) ⟨fun ⟨a, b, c, d⟩ => ⟨a, b, c, d⟩, fun ⟨a, b, c, d⟩ => ⟨a, b, c, d⟩⟩
instance {α : Type} (l : List α) : Decidable (lenOk l) := by unfold lenOk; infer_instance
instance (k : Kd) : Decidable k.ok := by unfold Kd.ok; infer_instance
instance (a : Ag) : Decidable a.ok := by unfold Ag.ok; infer_instance
instance (c : Ce) : Decidable c.ok := by unfold Ce.ok; infer_instance
instance (l : List ByteArray) : Decidable (NamesOk l) := by unfold NamesOk; infer_instance
instance (n : Nat) (k : Kd) : Decidable (RKd n k) := by unfold RKd; infer_instance
instance (l : List FR) : Decidable (OneIn l) := by unfold OneIn; infer_instance
instance (l : List FR) : Decidable (LotOk l) := by unfold LotOk; infer_instance
instance (g : Gm) (c : Ce) : Decidable (FitsOk g c) := by unfold FitsOk; infer_instance
instance (g : Gm) (r : List Ce) (a n : Nat) : Decidable (NoN g r a n) := by unfold NoN; infer_instance
instance (g : Gm) (r : List Ce) (a : Nat) : Decidable (NoA g r a) := by unfold NoA; infer_instance

theorem sale_ok : saleG.ok := ⟨by decide +kernel, by decide +kernel, by decide +kernel, by decide +kernel, by decide +kernel, fun n hn => (by cases hn), ⟨by decide +kernel, by decide +kernel⟩⟩
theorem sale_right : RightOk saleG := ⟨by simp [saleG], by simp [saleG], by decide +kernel, by decide +kernel, by decide +kernel, fun a ha => ⟨by revert a; simp [saleG], by revert a; decide +kernel, by revert a; decide +kernel⟩, fun i h => absurd h (by simp [saleG])⟩

theorem sold_play {p : Int} (h : p = 0 ∨ p = 2) : Play saleG (soldR p) := by
  rcases h with rfl | rfl
  · exact ⟨⟨sale_ok, by decide +kernel, by decide +kernel, fun c hc => ⟨by revert c; decide +kernel, by revert c; decide +kernel, by revert c; decide +kernel⟩⟩, by decide +kernel, by decide +kernel, sale_right, by decide +kernel, by decide +kernel⟩
  · exact ⟨⟨sale_ok, by decide +kernel, by decide +kernel, fun c hc => ⟨by revert c; decide +kernel, by revert c; decide +kernel, by revert c; decide +kernel⟩⟩, by decide +kernel, by decide +kernel, sale_right, by decide +kernel, by decide +kernel⟩

theorem sold_true : isTr saleG (soldR 2) (noLi 0 0) true := .inr ⟨by decide +kernel, rfl, rfl⟩
theorem sold_plain : PlainOk saleG (soldR 2) := ⟨(sold_play (.inr rfl)).good, by decide +kernel⟩
def liWant : Li := ⟨0, 0, 1, [0, 0], 1⟩
theorem sold_lie : isTr saleG (soldR 0) liWant false := .inl ⟨0, 0, 1, ⟨by decide +kernel, by decide +kernel, by decide +kernel, by decide +kernel, by decide +kernel, by decide +kernel, by decide +kernel⟩, by kernel_rfl, rfl⟩
theorem sold_gains : gainsL saleG (soldR 0) = [liWant, noLi 1 0] := by kernel_rfl
theorem sold_aim : aimQ saleG (soldR 2) = 5 := by kernel_rfl
theorem want_ok : liWant.ok := ⟨by decide +kernel, by decide +kernel⟩
end Go.Proofs.YtmgaoecfipkjbaaGreat.Sh

/- The calls whose answers the document fixes. -/
namespace Go.Proofs.YtmgaoecfipkjbaaGreat.Sh
open Go Go.RowKit

theorem draw01 : isDraw [frQ 0, frQ 1] (frQ 0).fix (1, 0) := by
  refine .inr (.inr ⟨⟨?_, ?_⟩, ?_, ?_, ?_⟩)
  · decide +kernel
  · decide +kernel
  · decide +kernel
  · decide +kernel
  · kernel_rfl

set_option maxRecDepth 20000 in
set_option maxHeartbeats 1000000 in
theorem fixed_s : CallsS Tryz.prog 19 [] (B true) := by
  have p0 := sold_play (.inl rfl)
  have p2 := sold_play (.inr rfl)
  have i0 := intR_s 0 (by decide) (by decide)
  have i1 := intR_s 1 (by decide) (by decide)
  have i5 := intR_s 5 (by decide) (by decide)
  have q0 : (frQ 0).ok := by decide +kernel
  have q1 : (frQ 1).ok := by decide +kernel
  have hg := rgains_s saleG (soldR 0) p0
  rw [sold_gains] at hg
  have ha := raim_s saleG (soldR 2) p2
  rw [sold_aim] at ha
  have hd := draw_s [frQ 0, frQ 1] (frQ 0) (by intro f hf; simp at hf; rcases hf with rfl | rfl <;> assumption) q0 (by decide) (1, 0) draw01
  have hs1 := sameLie_s liWant liWant want_ok want_ok true (by simp)
  have hs5 := sameR_s (frQ 5) (frQ 5) (by decide +kernel) (by decide +kernel)
  refine calls_cut 7 (fun _ : Unit => SS.of [(1, .v (.one (.mp 0 0))), (4, .v (.one (.mp 2 0))), (6, .v (.one (lisS [liWant, noLi 1 0]))), (9, .v (.one (.mp 5 0)))] [(0, ⟨26, rowGm saleG⟩), (2, ⟨39, rowLi liWant⟩), (5, ⟨39, rowLi liWant⟩)] 6) Tryz.func19 rfl (by rfl) (by rfl) (by rfl) (by kernel_rfl) (by kernel_rfl) ?_ ?_
  rotate_left
  · intro _
    simp -dsimp -implicitDefEqProofs
    refine eCall.of hs1 (by simp [liWant, frQ, ng, rowsOf, List.range_succ]) ?_
    simp -dsimp -implicitDefEqProofs
    refine eCall.of hs1 (by simp [liWant, frQ, ng, rowsOf, List.range_succ]) ?_
    simp -dsimp -implicitDefEqProofs
    refine eCall.of (sold4_s 2 (by decide) (by decide)) (by simp) ?_
    simp -dsimp -implicitDefEqProofs
    refine eCall.of ha (by simp) ?_
    simp -dsimp -implicitDefEqProofs
    refine eCall.of i5 (by simp) ?_
    simp -dsimp -implicitDefEqProofs
    refine eCall.of hs5 (by simp [frQ, ng]) ?_
    simp -dsimp -implicitDefEqProofs
    refine eCall.of (sold4_s 2 (by decide) (by decide)) (by simp) ?_
    simp -dsimp -implicitDefEqProofs
    refine eCall.of (rplain_s saleG (soldR 2) p2.seen true (by simp [sold_plain])) (by simp) ?_
    simp -dsimp -implicitDefEqProofs
  simp -dsimp -implicitDefEqProofs
  refine eCall.of sale4_s (by simp) ?_
  simp -dsimp -implicitDefEqProofs
  refine eCall.of (sold4_s 2 (by decide) (by decide)) (by simp) ?_
  simp -dsimp -implicitDefEqProofs
  refine eCall.of (rtruth_s saleG (soldR 2) p2 (noLi 0 0) true sold_true) (by simp) ?_
  simp -dsimp -implicitDefEqProofs
  refine eCall.of (sold4_s 0 (by decide) (by decide)) (by simp) ?_
  simp -dsimp -implicitDefEqProofs
  refine eCall.of (rtruth_s saleG (soldR 0) p0 liWant false sold_lie) (by simp) ?_
  simp -dsimp -implicitDefEqProofs
  refine eCall.of (sold4_s 0 (by decide) (by decide)) (by simp) ?_
  simp -dsimp -implicitDefEqProofs
  refine eCall.of hg (by simp) ?_
  simp -dsimp -implicitDefEqProofs
  refine eCall.of i0 (by simp) ?_
  simp -dsimp -implicitDefEqProofs
  refine eCall.of i1 (by simp) ?_
  simp -dsimp -implicitDefEqProofs [slots, List.range_succ]
  refine eCall.of i0 (by simp) ?_
  simp -dsimp -implicitDefEqProofs [rowsOf, List.range_succ]
  refine eCall.of hd (by simp [frQ, ng]) ?_
  simp -dsimp -implicitDefEqProofs [noLi]
  refine eCall.of (sold4_s 2 (by decide) (by decide)) (by simp) ?_
  simp -dsimp -implicitDefEqProofs
  refine eCall.of (rright_s saleG (soldR 2) p2.seen 0 (.inr (.inr ⟨p2.good, rfl⟩))) (by simp) ?_
  simp -dsimp -implicitDefEqProofs [slots, List.range_succ]
  refine eCall.of i1 (by simp) ?_
  simp -dsimp -implicitDefEqProofs [slots, rowsOf, List.range_succ]
  exact Cut.by () (Le.fzF [4] (Le.to (by simp [noLi]) (by simp [liWant, frQ, ng, rowsOf, List.range_succ]) (by simp)))
end Go.Proofs.YtmgaoecfipkjbaaGreat.Sh

/- What the statements do not look at; lies that are none. -/
namespace Go.Proofs.YtmgaoecfipkjbaaGreat.Sh
open Go Go.RowKit

set_option maxRecDepth 20000 in
theorem bey4_s (g : Gm) (r : List Ce) (hg : g.ok) (hl : lenOk r) (hr : ∀ c ∈ r, c.ok) : CallsS Tryz.prog 14 [gmS g, ruS r] (B (far g || beyondRule r)) := by
  refine calls Tryz.func14 rfl (by rfl) (by rfl) (by kernel_rfl) ?_
  simp -dsimp -implicitDefEqProofs [Tryz.f14]
  refine eCall.of (far_s g hg) (by simp) ?_
  cases e : far g with
  | true => simp -dsimp -implicitDefEqProofs
  | false =>
    simp -dsimp -implicitDefEqProofs
    refine eCall.of (beyondRule_s r hl hr) (by simp) ?_
    simp -dsimp -implicitDefEqProofs

theorem six_of {r : List Ce} (hr : ∀ c ∈ r, c.ok) (h2 : beyondRule r = false) : ∀ c ∈ r, CeSix c := by
  unfold beyondRule at h2
  simp only [Bool.or_eq_false_iff, decide_eq_false_iff_not] at h2
  refine fun c hc => CeSix.of (hr c hc) ?_ ?_
  all_goals
    have h3 := h2.1.1
    have h4 : bruW c = false := by
      cases e : bruW c with
      | false => rfl
      | true => rw [List.any_eq_true.2 ⟨c, hc, e⟩] at h3; cases h3
    unfold bruW at h4
    simp only [Bool.or_eq_false_iff] at h4
    intro f hf
  · have := wideF_no h4.1 f hf; omega
  · have := wideF_no h4.2 f hf; omega
theorem seen_of {g : Gm} {r : List Ce} (hg : g.ok) (hr : ∀ c ∈ r, c.ok) (h1 : far g = false) (h2 : beyondRule r = false) : Seen g r := by
  have h6 := six_of hr h2
  unfold far at h1
  unfold beyondRule at h2
  simp only [Bool.or_eq_false_iff, decide_eq_false_iff_not] at h1 h2
  exact ⟨hg, h1.1.1, by omega, fun c hc => (h6 c hc).fine (hr c hc)⟩

set_option maxRecDepth 20000 in
theorem sameLi0_s : CallsS Tryz.prog 23 [li0, li0] (B true) := by
  have hsi := sameInts_s [] [] (by decide) (by decide)
  have hf : (FR.mk false [] []).ok := by decide +kernel
  have hsm := sameR_s ⟨false, [], []⟩ ⟨false, [], []⟩ hf hf
  refine calls Tryz.func23 rfl (by rfl) (by rfl) (by kernel_rfl) ?_
  simp -dsimp -implicitDefEqProofs [Tryz.f23]
  refine eCall.of hsi (by simp) ?_
  simp -dsimp -implicitDefEqProofs
  refine eCall.of hsm (by simp) ?_
  simp -dsimp -implicitDefEqProofs

set_option maxRecDepth 20000 in
theorem lawRight_s (g : Gm) (r : List Ce) (hg : g.ok) (hl : lenOk r) (hr : ∀ c ∈ r, c.ok) : CallsS Tryz.prog 3 [gmS g, ruS r] (B true) := by
  refine calls Tryz.func3 rfl (by rfl) (by rfl) (by kernel_rfl) ?_
  simp -dsimp -implicitDefEqProofs [Tryz.f3]
  refine eCall.of (bey4_s g r hg hl hr) (by simp) ?_
  cases h1 : far g with
  | true => simp -dsimp -implicitDefEqProofs
  | false =>
  cases h2 : beyondRule r with
  | true => simp -dsimp -implicitDefEqProofs
  | false =>
  have hs := seen_of hg hr h1 h2
  obtain ⟨e, he, -⟩ := isGood_of g r
  obtain ⟨b, hb⟩ : ∃ b : Bool, (b = true ↔ PlainOk g r) := by
    by_cases h : PlainOk g r
    · exact ⟨true, by simp [h]⟩
    · exact ⟨false, by simp [h]⟩
  simp -dsimp -implicitDefEqProofs
  refine eCall.of (rightR4_s g r hs e he) (by simp) ?_
  simp -dsimp -implicitDefEqProofs
  refine eCall.of (plainR4_s g r hs b hb) (by simp) ?_
  simp -dsimp -implicitDefEqProofs
  refine eCall.of (rright_s g r hs e he) (by simp) ?_
  simp -dsimp -implicitDefEqProofs
  refine eCall.of (rplain_s g r hs b hb) (by simp) ?_
  simp -dsimp -implicitDefEqProofs
  refine eCall.of fixed_s (by simp) ?_
  simp -dsimp -implicitDefEqProofs

theorem isTr_of {g : Gm} {r : List Ce} : ∃ l ok, isTr g r l ok := by
  by_cases h : ∀ a, a < g.agents.length → NoA g r a
  · exact ⟨_, _, .inr ⟨h, rfl, rfl⟩⟩
  · have : ∃ a n t, FirstAt g r a n t := by
      have least : ∀ (p : Nat → Prop), (∃ n, p n) → ∃ n, p n ∧ ∀ m, m < n → ¬ p m := by
        intro p ⟨n, hn⟩
        induction n using Nat.strongRecOn with
        | _ n ih =>
          by_cases hm : ∃ m, m < n ∧ p m
          · obtain ⟨m, h1, h2⟩ := hm; exact ih m h1 h2
          · exact ⟨n, hn, fun m h1 h2 => hm ⟨m, h1, h2⟩⟩
      obtain ⟨a, ha, ha0⟩ := least (fun a => a < g.agents.length ∧ ¬ NoA g r a) (Classical.byContradiction fun hc => h fun a ha => Classical.byContradiction fun hn => hc ⟨a, ha, hn⟩)
      obtain ⟨n, hn, hn0⟩ := least (fun n => n < r.length ∧ ¬ NoN g r a n) (Classical.byContradiction fun hc => ha.2 fun n hn => Classical.byContradiction fun hx => hc ⟨n, hn, hx⟩)
      obtain ⟨t, ht, ht0⟩ := least (fun t => t < kl g a ∧ 0 < gainQ g r a n t) (Classical.byContradiction fun hc => hn.2 fun t ht hx => hc ⟨t, ht, hx⟩)
      exact ⟨a, n, t, ha.1, hn.1, ht.1, ht.2, fun a' h1 => Classical.byContradiction fun hx => ha0 a' h1 ⟨by have := ha.1; omega, hx⟩, fun n' h1 => Classical.byContradiction fun hx => hn0 n' h1 ⟨by have := hn.1; omega, hx⟩, fun t' h1 hx => ht0 t' h1 ⟨by have := ht.1; omega, hx⟩⟩
    obtain ⟨a, n, t, h⟩ := this
    exact ⟨_, _, .inl ⟨a, n, t, h, rfl, rfl⟩⟩

theorem isTr.ok {g : Gm} {r : List Ce} (h : Play g r) {l : Li} {ok : Bool} (hl : isTr g r l ok) : l.ok := by
  rcases hl with ⟨a, n, t, hf, rfl, -⟩ | ⟨-, rfl, -⟩
  · have hs : Spot g r a n := ⟨h, hf.ha, hf.hn⟩
    have ht := hf.ht
    rw [kl_eq hf.ha] at ht
    have h1 := hs.gain_mz ht
    have h2 := atG_length g n
    have h3 := (sizeOk_all h.fine.sz).1
    exact ⟨by show lenOk (atG g n); unfold lenOk; omega, (cap_mz (show mz (gainQ g r a n t) ≤ 2048 by omega)).2⟩
  · exact ⟨by decide, by decide +kernel⟩

theorem gains_ok {g : Gm} {r : List Ce} (h : Play g r) : ∀ l ∈ gainsL g r, l.ok := by
  intro l hl
  obtain ⟨a, ha, rfl⟩ := List.mem_map.1 hl
  have ha := List.mem_range.1 ha
  rw [best_top h ha]
  cases e : topL g r a with
  | none => exact ⟨by show lenOk []; decide, by show sz 0 ≤ 4096; decide +kernel⟩
  | some y =>
    have hy := (mst_mem gtL _ _ e).resolve_right (by simp)
    unfold orNo
    simp only
    split
    · exact li_ok h ha hy
    · exact ⟨by show lenOk []; decide, by show sz 0 ≤ 4096; decide +kernel⟩

set_option maxRecDepth 20000 in
theorem lawTruthful_s (g : Gm) (r : List Ce) (hg : g.ok) (hl : lenOk r) (hr : ∀ c ∈ r, c.ok) : CallsS Tryz.prog 4 [gmS g, ruS r] (B true) := by
  refine calls Tryz.func4 rfl (by rfl) (by rfl) (by kernel_rfl) ?_
  simp -dsimp -implicitDefEqProofs [Tryz.f4]
  refine eCall.of (bey4_s g r hg hl hr) (by simp) ?_
  cases h1 : far g with
  | true => simp -dsimp -implicitDefEqProofs
  | false =>
  cases h2 : beyondRule r with
  | true => simp -dsimp -implicitDefEqProofs
  | false =>
  have hs := seen_of hg hr h1 h2
  by_cases hgd : Good g r
  · have hp : Play g r := ⟨hs, h1, hgd⟩
    obtain ⟨l, ok, htr⟩ := isTr_of (g := g) (r := r)
    have hlo := htr.ok hp
    have hgl : (gainsL g r).length ≤ 1048576 := by
      have := (sizeOk_all hp.fine.sz).1
      simp [gainsL]; omega
    simp -dsimp -implicitDefEqProofs
    refine eCall.of (truthR_s g r hp l ok htr) (by simp) ?_
    simp -dsimp -implicitDefEqProofs
    refine eCall.of (gainsR_s g r hp) (by simp) ?_
    simp -dsimp -implicitDefEqProofs
    refine eCall.of (rtruth_s g r hp l ok htr) (by simp) ?_
    simp -dsimp -implicitDefEqProofs
    refine eCall.of (sameLie_s l l hlo hlo true (by simp)) (by simp) ?_
    simp -dsimp -implicitDefEqProofs
    refine eCall.of (rgains_s g r hp) (by simp) ?_
    simp -dsimp -implicitDefEqProofs
    refine eCall.of (sameLies_s (gainsL g r) (gainsL g r) (gains_ok hp) (gains_ok hp) hgl true (by simp)) (by simp) ?_
    simp -dsimp -implicitDefEqProofs
    refine eCall.of fixed_s (by simp) ?_
    simp -dsimp -implicitDefEqProofs
  · simp -dsimp -implicitDefEqProofs
    refine eCall.of (truthNo_s g r hs hgd) (by simp) ?_
    simp -dsimp -implicitDefEqProofs
    refine eCall.of (gainsRNo_s g r hs hgd) (by simp) ?_
    simp -dsimp -implicitDefEqProofs
    refine eCall.of (rtruthNo_s g r hs hgd) (by simp) ?_
    simp -dsimp -implicitDefEqProofs
    refine eCall.of sameLi0_s (by simp) ?_
    simp -dsimp -implicitDefEqProofs
    refine eCall.of (rgainsNo_s g r hs hgd) (by simp) ?_
    simp -dsimp -implicitDefEqProofs
    refine eCall.of (sameLies_s [] [] (by simp) (by simp) (by decide) true (by simp)) (by simp) ?_
    simp -dsimp -implicitDefEqProofs
    refine eCall.of fixed_s (by simp) ?_
    simp -dsimp -implicitDefEqProofs
end Go.Proofs.YtmgaoecfipkjbaaGreat.Sh

/- Index of any game; Exact; Worth. -/
namespace Go.Proofs.YtmgaoecfipkjbaaGreat.Sh
open Go Go.RowKit

def isIdx2 (g : Gm) (p : List Int) (e : Int) : Prop := ((sizeOk g = true ∧ RightOk g) ∧ isProf g p ∧ e = whr g p) ∨ (¬ ((sizeOk g = true ∧ RightOk g) ∧ isProf g p) ∧ e = -1)
theorem isIdx2_of (g : Gm) (p : List Int) : ∃ e, isIdx2 g p e := by
  by_cases h : (sizeOk g = true ∧ RightOk g) ∧ isProf g p
  · exact ⟨_, .inl ⟨h.1, h.2, rfl⟩⟩
  · exact ⟨_, .inr ⟨h, rfl⟩⟩

set_option maxRecDepth 20000 in
theorem sidx_s (g : Gm) (r : List Ce) (h : Seen g r) (p : List Int) (hl : p.length ≤ 140737488355328) (e : Int) (he : isIdx2 g p e) : CallsS Tryz.prog 96 [gmS g, .one (intsS p)] (I .i64 e) := by
  by_cases hr : sizeOk g = true ∧ RightOk g
  · refine index_s g (h.fine hr) p hl e ?_
    rcases he with ⟨-, h1, h2⟩ | ⟨h1, h2⟩
    · exact .inl ⟨h1, h2⟩
    · exact .inr ⟨fun hp => h1 ⟨hr, hp⟩, h2⟩
  · have he' : e = -1 := by
      rcases he with ⟨h1, -, -⟩ | ⟨-, h2⟩
      · exact absurd h1 hr
      · exact h2
    subst he'
    obtain ⟨e, h1, h2⟩ := isRight_of g
    have h0 : ¬ e = 0 := fun h => hr (h2.1 h)
    refine calls Tryz.func96 rfl (by rfl) (by rfl) (by kernel_rfl) ?_
    simp -dsimp -implicitDefEqProofs [Tryz.f96]
    refine eCall.of (sright_s g h.ok h.bey e h1) (by simp) ?_
    simp -dsimp -implicitDefEqProofs [h0]

set_option maxRecDepth 20000 in
theorem ridx_s (g : Gm) (r : List Ce) (hs : Seen g r) (p : List Int) (hl : p.length ≤ 140737488355328) (e : Int) (he : isIdx2 g p e) : CallsS Tryz.prog 37 [gmS g, .one (intsS p)] (I .i64 e) := by
  refine calls Tryz.func37 rfl (by rfl) (by rfl) (by kernel_rfl) ?_
  obtain ⟨e1, h1, h2⟩ := isRight_of g
  simp -dsimp -implicitDefEqProofs [Tryz.f37]
  refine eCall.of (right_s g hs.ok hs.bey e1 h1) (by simp) ?_
  by_cases hr : sizeOk g = true ∧ RightOk g
  · have h := hs.fine hr
    obtain ⟨g1, -, -, h4, -⟩ := sizeOk_all h.sz
    have h0 : e1 = 0 := h2.2 hr
    subst h0
    have bad : ¬ isProf g p → e = -1 := fun hn => by
      rcases he with he | he
      · exact absurd he.2.1 hn
      · exact he.2
    by_cases pl : p.length = g.agents.length
    · simp -dsimp -implicitDefEqProofs [pl]
      refine sw_loop_e (fun q : {q : Nat // q ≤ g.agents.length ∧ profTo g p q} => SS.of [(1, .v (.one (intsS p))), (2, .v (.one (.mp 0 0))), (5, I .i64 (whrTo g p q.1)), (6, I .i64 q.1)] [(0, ⟨26, rowGm g⟩)] 1)
        (fun q => g.agents.length - q.1) ⟨0, Nat.zero_le _, fun j hj => absurd hj (by omega)⟩ (by kernel_rfl) (Le.to (by simp [whrTo]) (by simp) (by simp)) ?_
      rintro ⟨i, hi, hp⟩
      by_cases a1 : i < g.agents.length
      · have wi : IntKind.i64.wrap ((i : Int) + 1) = ((i + 1 : Nat) : Int) := by rw [wrap_i64 _ (by omega) (by omega)]; rfl
        have a2 : i < p.length := by omega
        have hw := whrTo_step (g := g) (p := p) (List.getElem?_eq_getElem a1) (List.getElem?_eq_getElem a2)
        obtain ⟨w1, w2⟩ := whrTo_ok h hi hp
        have hk := h4 _ (List.getElem_mem a1)
        by_cases c1 : p[i] < 0
        · have hb := bad (fun hh => by
            obtain ⟨A, x, e1, e2, e3, e4⟩ := hh.2 i a1
            rw [List.getElem?_eq_getElem a2] at e2
            obtain rfl := Option.some.inj e2
            omega)
          simp -dsimp -implicitDefEqProofs [a1, a2, pl, c1, hb]
        by_cases c2 : (g.agents[i].kinds.length : Int) ≤ p[i]
        · have hb := bad (fun hh => by
            obtain ⟨A, x, e1, e2, e3, e4⟩ := hh.2 i a1
            rw [List.getElem?_eq_getElem a2] at e2
            rw [List.getElem?_eq_getElem a1] at e1
            obtain rfl := Option.some.inj e2
            obtain rfl := Option.some.inj e1
            omega)
          simp -dsimp -implicitDefEqProofs [a1, a2, pl, c1, c2, hb]
        have hp2 : profTo g p (i + 1) := fun j hj => by
          by_cases e : j = i
          · subst e; exact ⟨_, _, List.getElem?_eq_getElem a1, List.getElem?_eq_getElem a2, by omega, by omega⟩
          · exact hp j (by omega)
        obtain ⟨w3, w4⟩ := whrTo_ok h a1 hp2
        have wm : IntKind.i64.wrap (whrTo g p i * (g.agents[i].kinds.length : Int)) = whrTo g p i * (g.agents[i].kinds.length : Int) := by
          rw [hw] at w4
          have := Int.mul_nonneg w1 (Int.natCast_nonneg g.agents[i].kinds.length)
          rw [wrap_i64 _ (by omega) (by omega)]
        have wa : IntKind.i64.wrap (whrTo g p i * (g.agents[i].kinds.length : Int) + p[i]) = whrTo g p (i + 1) := by
          rw [hw] at w3 w4 ⊢
          rw [wrap_i64 _ (by omega) (by omega)]
        simp -dsimp -implicitDefEqProofs [a1, a2, pl, c1, c2]
        exact Again.by ⟨i + 1, a1, hp2⟩ (Le.to (by simp [wi, wm, wa]) (by simp) (by simp)) (by simp; omega)
      have hi2 : i = g.agents.length := by omega
      subst hi2
      have hb : e = whr g p := by
        rcases he with he | he
        · exact he.2.2
        · exact absurd ⟨hr, pl, hp⟩ he.1
      simp -dsimp -implicitDefEqProofs [pl, hb, whr]
    · have hb := bad (fun hh => pl hh.1)
      simp -dsimp -implicitDefEqProofs [show ¬ (p.length : Int) = g.agents.length by omega, hb]
  · have he' : e = -1 := by
      rcases he with ⟨h1, -, -⟩ | ⟨-, h2⟩
      · exact absurd h1 hr
      · exact h2
    have h0 : ¬ e1 = 0 := fun h => hr (h2.1 h)
    simp -dsimp -implicitDefEqProofs [h0, he']

set_option maxRecDepth 20000 in
theorem exact_s (f : FR) (hf : f.ok) : CallsS Tryz.prog 41 [frS f, frS f] (B true) := by
  have l1 := hf.lnum
  have l2 := hf.lden
  refine calls Tryz.func41 rfl (by rfl) (by rfl) (by kernel_rfl) ?_
  simp -dsimp -implicitDefEqProofs [Tryz.f41]
  refine sw_loop_e (fun p : {p : Nat // p ≤ f.num.length} => SS.of [(2, .v (.one (.mp 0 0))), (3, .v (.one (.mp 1 0))), (5, I .i64 p.1)] [(0, ⟨37, rowFr f⟩), (1, ⟨37, rowFr f⟩)] 2)
    (fun p => f.num.length - p.1) ⟨0, Nat.zero_le _⟩ (by kernel_rfl) (Le.to (by simp) (by simp) (by simp)) ?_
  rintro ⟨i, hi⟩
  by_cases a1 : i < f.num.length
  · have wi : IntKind.i64.wrap ((i : Int) + 1) = ((i + 1 : Nat) : Int) := by rw [wrap_i64 _ (by omega) (by omega)]; rfl
    simp -dsimp -implicitDefEqProofs [a1]
    exact Again.by ⟨i + 1, a1⟩ (Le.to (by simp [wi]) (by simp) (by simp)) (by simp; omega)
  have hi2 : i = f.num.length := by omega
  subst hi2
  simp -dsimp -implicitDefEqProofs
  refine sw_loop_e (fun p : {p : Nat // p ≤ f.den.length} => SS.of [(2, .v (.one (.mp 0 0))), (3, .v (.one (.mp 1 0))), (6, I .i64 p.1)] [(0, ⟨37, rowFr f⟩), (1, ⟨37, rowFr f⟩)] 2)
    (fun p => f.den.length - p.1) ⟨0, Nat.zero_le _⟩ (by kernel_rfl) (Le.to (by simp) (by simp) (by simp)) ?_
  rintro ⟨i, hi⟩
  by_cases a1 : i < f.den.length
  · have wi : IntKind.i64.wrap ((i : Int) + 1) = ((i + 1 : Nat) : Int) := by rw [wrap_i64 _ (by omega) (by omega)]; rfl
    simp -dsimp -implicitDefEqProofs [a1]
    exact Again.by ⟨i + 1, a1⟩ (Le.to (by simp [wi]) (by simp) (by simp)) (by simp; omega)
  have hi2 : i = f.den.length := by omega
  subst hi2
  simp -dsimp -implicitDefEqProofs
end Go.Proofs.YtmgaoecfipkjbaaGreat.Sh

