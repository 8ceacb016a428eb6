/- A part of the proof: R176, R177, R178, R179, R166, R181, R180, RowD, RowG -/
import Derived.Test.YtaljbebkooppiaaGreatV23
import Derived.Test.YtaljbebkooppiaaGreatV9
import Derived.Test.YtaljbebkooppiaaGreatV21
import Derived.Test.YtaljbebkooppiaaGreatV22
import Derived.Test.YtaljbebkooppiaaGreatV19
import Derived.Test.YtaljbebkooppiaaGreatV10
import Derived.Test.YtaljbebkooppiaaGreatV15
set_option linter.unusedSimpArgs false
set_option linter.unusedVariables false
set_option linter.unusedSectionVars false
namespace Go.Proofs.YtaljbebkooppiaaGreat.Sh
open Go Go.RowKit
section
variable {P : Program} {N : Nat} {σ : SS}
theorem sw_fz {id : Nat} {ops : Array Oper} {Q : Exit → SS → Prop} (F : List Nat) (σ' : SS) (hc : codeOM [] N (.region id ops true) = true) (h0 : Le (σ.fzF F) σ') (h : eM P N [] (.region id ops true) Q σ') : holdP (sw P N (.region id ops true) Q σ) :=
  sw_le (Le.fzF F h0) (eM_sound [] _ _ _ hc h)
end
def nm3 (i : Nat) : ByteArray := if i = 0 then ⟨#[111, 110, 101]⟩ else if i = 1 then ⟨#[116, 119, 111]⟩ else ⟨#[116, 104, 114, 101, 101]⟩
def clkW (values : List FR) (n i k : Nat) : List FR := (List.range (n + 1)).map fun j => if j = i + 1 then fxF (values.getD k ⟨false, [], []⟩) else frQ 0
def clkKd (values : List FR) (n i k : Nat) : Kd := ⟨(⟨#[97, 98, 99, 100]⟩ : ByteArray).extract k (k + 1), frQ 1, frQ 0, clkW values n i k⟩
def clkAg (values : List FR) (n i : Nat) : Ag := ⟨nm3 i, (List.range values.length).map (clkKd values n i)⟩
def clkGm (values : List FR) (n : Nat) : Gm := ⟨(List.range n).map (clkAg values n), ⟨#[110, 111, 98, 111, 100, 121]⟩ :: (List.range n).map nm3, true, false, 1, [⟨1, 0, 0, frQ 0, [], []⟩]⟩
set_option maxRecDepth 20000 in
set_option maxHeartbeats 4000000 in
theorem vcgame_s (values : List FR) (hv : ∀ f ∈ values, f.ok) (n : Nat) (hn : n ≤ 3) (hm : values.length ≤ 4) (hm0 : values ≠ []) (hn1 : 1 ≤ n) : CallsS Tryz.prog 48 [.one (frsS values), .one (.int .i64 (n : Int))] (.v (gmS (clkGm values n))) := by
  have n0 := vnum_s 0 (by decide) (by decide)
  have n1 := vnum_s 1 (by decide) (by decide)
  have hn3 : (n : Int) ≤ 3 := by omega
  have hnm : flat rowStr (clkGm values n).outs = .str ⟨#[110, 111, 98, 111, 100, 121]⟩ :: List.take n [.str ⟨#[111, 110, 101]⟩, .str ⟨#[116, 119, 111]⟩, .str ⟨#[116, 104, 114, 101, 101]⟩] := by
    match n, hn with
    | 0, _ => rfl
    | 1, _ => rfl
    | 2, _ => rfl
    | 3, _ => rfl
    | n + 4, h => omega
  have hnd : flat rowNd (clkGm values n).needs = rowNd ⟨1, 0, 0, frQ 0, [], []⟩ := by unfold clkGm; simp [flat, flat_snoc]
  obtain ⟨z, hz⟩ : ∃ z, z = frQ 0 := ⟨_, rfl⟩
  have hr0 : optRow [.bool false, .nils, .nils] rowFr (some z) = [S1.bool false, .sl true 1 ((toW 0).map fun x => [.int .u32 x]), .sl true 1 ((toW 1).map fun x => [.int .u32 x])] := by rw [hz]; rfl
  have hrl : (List.replicate (n + 1) z).length = n + 1 := by simp
  refine callsM [17] Tryz.func48 rfl (by rfl) (by rfl) (by kernel_rfl) ?_
  simp -dsimp -implicitDefEqProofs [Tryz.f48, hn, hn3, slots]
  refine ⟨fun x hx => ?_, by omega, ?_⟩
  · have hx := List.mem_of_mem_take hx
    simp at hx
    rcases hx with rfl | rfl | rfl <;> rfl
  refine eCall.of n0 (by simp) ?_
  simp -dsimp -implicitDefEqProofs [slots, hn, hn3]
  refine sw_loop_m [17] (fun q : {q : Nat × Nat // q.1 ≤ n} => SS.of [(0, .v (.one (frsS values))), (1, I .i64 n), (4, .v (.one (.mp 0 0))), (5, .v (.one (.mp 1 0))), (6, .v (.one (.mp 5 0))), (22, I .i64 n), (23, I .i64 q.1.1)]
      (([(0, ⟨31, [.nils, .nils, .bool false, .bool false, .int .i64 0, .nils]⟩), (1, ⟨181, [.str (nm3 0), .str (nm3 1), .str (nm3 2)]⟩), (3, ⟨9, flat rowStr (clkGm values n).outs⟩), (4, ⟨93, flat rowNd (clkGm values n).needs⟩), (5, ⟨31, [if q.1.1 = 0 then .nils else .ms (q.1.2 + 6) 0 q.1.1 2 true, .ms 3 0 (1 + n) 1 true, .bool true, .bool false, .int .i64 1, .ms 4 0 1 8 true]⟩)] : List (Nat × SObj)) ++ (if q.1.1 = 0 then [] else [(q.1.2 + 6, ⟨98, flat rowAg ((clkGm values n).agents.take q.1.1)⟩)] : List (Nat × SObj))) (q.1.2 + 7))
    (fun q => n - q.1.1) ⟨(0, 0), Nat.zero_le _⟩ (by kernel_rfl) (Le.to (by simp) (by simp [nm3, hnm, hnd, frQ, ng]) (by simp)) ?_
  rintro ⟨⟨i, c⟩, hi⟩
  simp only at hi
  by_cases a1 : i < n
  · have wi : IntKind.i64.wrap ((i : Int) + 1) = ((i + 1 : Nat) : Int) := by rw [wrap_i64 _ (by omega) (by omega)]; rfl
    have i3 : i < 3 := by omega
    have hnmi : [S1.str (nm3 0), S1.str (nm3 1), S1.str (nm3 2)][i]'(by simp; omega) = S1.str (nm3 i) := by
      match i, i3 with
      | 0, _ => rfl
      | 1, _ => rfl
      | 2, _ => rfl
    simp -dsimp -implicitDefEqProofs [a1, i3, hnmi]
    have nq1 : ∀ e, ¬ c = c + e + 1 := fun e => by omega
    have nq2 : ∀ e, ¬ c = c + e + 2 := fun e => by omega
    have nq3 : ∀ e, ¬ c = c + e + 3 := fun e => by omega
    have nq4 : ∀ e, ¬ c = c + e + 4 := fun e => by omega
    have nq5 : ∀ e, ¬ c + e + 1 = c := fun e => by omega
    have nq6 : ∀ e, ¬ c + e + 2 = c := fun e => by omega
    have nq7 : ∀ e, ¬ c + e + 3 = c := fun e => by omega
    have nq8 : ∀ e, ¬ c + e + 4 = c := fun e => by omega
    have nq9 : ∀ e, ¬ c + e + 5 = c := fun e => by omega
    have nq10 : ∀ e, ¬ c = c + e + 5 := fun e => by omega
    have hea : ∀ e, c + (e + 3) = c + e + 3 := fun e => by omega
    obtain ⟨kds, hkds⟩ : ∃ kds, kds = (List.range values.length).map (clkKd values n i) := ⟨_, rfl⟩
    have hkl : kds.length = values.length := by rw [hkds]; simp
    refine ⟨by omega, ?_⟩
    refine sw_loop_m [17] (fun q : {q : Nat × Nat // q.1 ≤ values.length} => SS.of [(0, .v (.one (frsS values))), (1, I .i64 n), (4, .v (.one (.mp 0 0))), (5, .v (.one (.mp 1 0))), (6, .v (.one (.mp 5 0))), (7, I .i64 i), (8, .v (.one (.mp (c + 7) 0))), (22, I .i64 n), (23, I .i64 i), (30, .v (.one (frsS values))), (31, I .i64 values.length), (32, I .i64 q.1.1)]
      (([(0, ⟨31, [.nils, .nils, .bool false, .bool false, .int .i64 0, .nils]⟩), (1, ⟨181, [.str (nm3 0), .str (nm3 1), .str (nm3 2)]⟩), (3, ⟨9, flat rowStr (clkGm values n).outs⟩), (4, ⟨93, flat rowNd (clkGm values n).needs⟩), (5, ⟨31, [if i = 0 then .nils else .ms (c + 6) 0 i 2 true, .ms 3 0 (1 + n) 1 true, .bool true, .bool false, .int .i64 1, .ms 4 0 1 8 true]⟩), (c + 7, ⟨98, [.str (nm3 i), if q.1.1 = 0 then .nils else .ms (c + q.1.2 + 8) 0 q.1.1 8 true]⟩)] : List (Nat × SObj)) ++ ((if q.1.1 = 0 then [] else [(c + q.1.2 + 8, ⟨102, flat rowKd (kds.take q.1.1)⟩)] : List (Nat × SObj)) ++ (if i = 0 then [] else [(c + 6, ⟨98, flat rowAg ((clkGm values n).agents.take i)⟩)] : List (Nat × SObj)))) (c + q.1.2 + 9))
      (fun q => values.length - q.1.1) ⟨(0, 0), Nat.zero_le _⟩ (by kernel_rfl) (Le.to (by simp) (by by_cases i0 : i = 0 <;> simp [i0]) (by simp)) ?_
    rintro ⟨⟨k, e⟩, hk⟩
    simp only at hk
    by_cases a2 : k < values.length
    · have wk : IntKind.i64.wrap ((k : Int) + 1) = ((k + 1 : Nat) : Int) := by rw [wrap_i64 _ (by omega) (by omega)]; rfl
      have wn : IntKind.i64.wrap ((n : Int) + 1) = ((n + 1 : Nat) : Int) := by rw [wrap_i64 _ (by omega) (by omega)]; rfl
      have hfx := ffix_s values[k] (hv _ (List.getElem_mem a2))
      simp -dsimp -implicitDefEqProofs [a2, wn]
      refine ⟨by omega, ?_⟩
      refine sw_loop_m [17] (fun q : {q : Nat // q ≤ n + 1} => SS.of [(0, .v (.one (frsS values))), (1, I .i64 n), (4, .v (.one (.mp 0 0))), (5, .v (.one (.mp 1 0))), (6, .v (.one (.mp 5 0))), (7, I .i64 i), (8, .v (.one (.mp (c + 7) 0))), (9, I .i64 k), (10, .v (.one (.mp (c + e + 9) 0))), (11, .v (.one (.ms (c + e + 10) 0 (n + 1) 3 true))), (22, I .i64 n), (23, I .i64 i), (30, .v (.one (frsS values))), (31, I .i64 values.length), (32, I .i64 k), (41, I .i64 (n + 1 : Nat)), (42, I .i64 q.1)]
        (([(0, ⟨31, [.nils, .nils, .bool false, .bool false, .int .i64 0, .nils]⟩), (1, ⟨181, [.str (nm3 0), .str (nm3 1), .str (nm3 2)]⟩), (3, ⟨9, flat rowStr (clkGm values n).outs⟩), (4, ⟨93, flat rowNd (clkGm values n).needs⟩), (5, ⟨31, [if i = 0 then .nils else .ms (c + 6) 0 i 2 true, .ms 3 0 (1 + n) 1 true, .bool true, .bool false, .int .i64 1, .ms 4 0 1 8 true]⟩), (c + 7, ⟨98, [.str (nm3 i), if k = 0 then .nils else .ms (c + e + 8) 0 k 8 true]⟩), (c + e + 9, ⟨26, rowFr values[k]⟩), (c + e + 10, ⟨26, flat (optRow [.bool false, .nils, .nils] rowFr) (filled id (List.replicate (n + 1) z) q.1)⟩)] : List (Nat × SObj)) ++ ((if k = 0 then [] else [(c + e + 8, ⟨102, flat rowKd (kds.take k)⟩)] : List (Nat × SObj)) ++ (if i = 0 then [] else [(c + 6, ⟨98, flat rowAg ((clkGm values n).agents.take i)⟩)] : List (Nat × SObj)))) (c + e + 11))
        (fun q => n + 1 - q.1) ⟨0, Nat.zero_le _⟩ (by kernel_rfl) (Le.to (by simp) (by by_cases i0 : i = 0 <;> by_cases k0 : k = 0 <;> simp [i0, k0, nq1, nq2, nq3, nq4, nq5, nq6, nq7, nq8, nq9, nq10, filled_zero, flat_rep _ rowFr]) (by simp)) ?_
      rintro ⟨j, hj⟩
      by_cases a3 : j < n + 1
      · have wj : IntKind.i64.wrap ((j : Int) + 1) = ((j + 1 : Nat) : Int) := by rw [wrap_i64 _ (by omega) (by omega)]; rfl
        have ml := filled_len id (List.replicate (n + 1) z) (i := j) (by omega)
        have mset := filled_set id (List.replicate (n + 1) z) j (by omega)
        have hset := set3_flat (f := optRow [.bool false, .nils, .nils] rowFr) (filled id (List.replicate (n + 1) z) j) j (some z) hr0 (by omega)
        rw [List.getElem_replicate, id] at mset
        rw [mset] at hset
        rw [hrl] at ml
        have a3' : (j : Int) < (n : Int) + 1 := by omega
        simp -dsimp -implicitDefEqProofs [a3, a3', nq1, nq2, nq3, nq4, nq5, nq6, nq7, nq8, nq9, nq10]
        refine eCall.of n0 (by simp) ?_
        simp -dsimp -implicitDefEqProofs [a3, a3', ml, nq1, nq2, nq3, nq4, nq5, nq6, nq7, nq8, nq9, nq10]
        refine ⟨by omega, ?_⟩
        exact Again.by ⟨j + 1, a3⟩ (Le.to (by simp [wj]) (by by_cases i0 : i = 0 <;> by_cases k0 : k = 0 <;> simp [i0, k0, nq1, nq2, nq3, nq4, nq5, nq6, nq7, nq8, nq9, nq10, hset]) (by simp)) (by simp; omega)
      have j2 : j = n + 1 := by omega
      subst j2
      have hff : flat (optRow [.bool false, .nils, .nils] rowFr) (filled id (List.replicate (n + 1) z) (n + 1)) = flat rowFr (List.replicate (n + 1) z) := by
        have := filled_full id (List.replicate (n + 1) z)
        rw [hrl] at this
        rw [this]
        simp [flat, optRow]
      have hr1 : rowFr (fxF values[k]) = [S1.bool (decide (values[k].fix.num < 0)), .sl true 1 ((toW values[k].fix.num.natAbs).map fun x => [.int .u32 x]), .sl true 1 ((toW values[k].fix.den).map fun x => [.int .u32 x])] := rfl
      have hset := set3_flat (f := rowFr) (List.replicate (n + 1) z) (i + 1) (fxF values[k]) hr1 (by simp; omega)
      have hw : (List.replicate (n + 1) z).set (i + 1) (fxF values[k]) = clkW values n i k := by
        refine List.ext_getElem (by simp [clkW]) fun j h1 h2 => ?_
        rw [List.getElem_set, List.getElem_replicate]
        simp only [clkW, List.getElem_map, List.getElem_range, hz]
        by_cases e : j = i + 1
        · rw [if_pos e.symm, if_pos e]; simp [a2]
        · rw [if_neg (fun e' => e e'.symm), if_neg e]
      rw [hw] at hset
      have hro := rowsOf_flat (f := rowFr) (clkW values n i k) (n + 1) (by simp [clkW])
      rw [← hset] at hro
      have hsz : (⟨#[97, 98, 99, 100]⟩ : ByteArray).size = 4 := rfl
      have hi1 : (i : Int) + 1 < (n : Int) + 1 := by omega
      have hi2 : i + 1 < n + 1 := by omega
      have hk4 : (k : Int) + 1 ≤ 4 := by omega
      have hk5 : k + 1 ≤ 4 := by omega
      have hfl := flat_snoc (f := rowKd) (kds[k]'(by omega)) (kds.take k)
      rw [← takeSnoc kds k (by omega)] at hfl
      have hkk : kds[k]'(by omega) = clkKd values n i k := by subst hkds; simp
      rw [hkk] at hfl
      have htl : min k kds.length = k := by omega
      simp -dsimp -implicitDefEqProofs [nq1, nq2, nq3, nq4, nq5, nq6, nq7, nq8, nq9, nq10]
      refine eCall.of hfx (by simp) ?_
      simp -dsimp -implicitDefEqProofs [nq1, nq2, nq3, nq4, nq5, nq6, nq7, nq8, nq9, nq10, wi, wk, hsz, hff, hi1, hi2, hk4, hk5, a2]
      refine ⟨by omega, by omega, ?_⟩
      refine sw_fz [c + e + 10] (SS.of [(0, .v (.one (frsS values))), (1, I .i64 n), (4, .v (.one (.mp 0 0))), (5, .v (.one (.mp 1 0))), (6, .v (.one (.mp 5 0))), (7, I .i64 i), (8, .v (.one (.mp (c + 7) 0))), (9, I .i64 k), (11, .v (.one (frsS (clkW values n i k)))), (22, I .i64 n), (23, I .i64 i), (30, .v (.one (frsS values))), (31, I .i64 values.length), (32, I .i64 k)]
        (([(0, ⟨31, [.nils, .nils, .bool false, .bool false, .int .i64 0, .nils]⟩), (1, ⟨181, [.str (nm3 0), .str (nm3 1), .str (nm3 2)]⟩), (3, ⟨9, flat rowStr (clkGm values n).outs⟩), (4, ⟨93, flat rowNd (clkGm values n).needs⟩), (5, ⟨31, [if i = 0 then .nils else .ms (c + 6) 0 i 2 true, .ms 3 0 (1 + n) 1 true, .bool true, .bool false, .int .i64 1, .ms 4 0 1 8 true]⟩), (c + 7, ⟨98, [.str (nm3 i), if k = 0 then .nils else .ms (c + e + 8) 0 k 8 true]⟩)] : List (Nat × SObj)) ++ ((if k = 0 then [] else [(c + e + 8, ⟨102, flat rowKd (kds.take k)⟩)] : List (Nat × SObj)) ++ (if i = 0 then [] else [(c + 6, ⟨98, flat rowAg ((clkGm values n).agents.take i)⟩)] : List (Nat × SObj)))) (c + e + 11)) (by kernel_rfl) (Le.to (by simp [hro, nq1, nq2, nq3, nq4, nq5, nq6, nq7, nq8, nq9, nq10]) (by by_cases i0 : i = 0 <;> by_cases k0 : k = 0 <;> simp [i0, k0, nq1, nq2, nq3, nq4, nq5, nq6, nq7, nq8, nq9, nq10]) (by simp)) ?_
      by_cases k0 : k = 0
      · subst k0
        have hif : ∀ {α : Type} (x y : α), (if 0 = 0 then x else y) = x := fun x y => if_pos rfl
        rw [List.take_zero, flat_nil, List.nil_append] at hfl
        simp -dsimp -implicitDefEqProofs [nq1, nq2, nq3, nq4, nq5, nq6, nq7, nq8, nq9, nq10, hif, wi, wk, hsz, i64_1]
        refine eCall.of n1 (by simp) ?_
        simp -dsimp -implicitDefEqProofs [nq1, nq2, nq3, nq4, nq5, nq6, nq7, nq8, nq9, nq10, hif, wi, wk, hsz, i64_1]
        refine eCall.of n0 (by simp) ?_
        simp -dsimp -implicitDefEqProofs [nq1, nq2, nq3, nq4, nq5, nq6, nq7, nq8, nq9, nq10, hif, wi, wk, hsz, i64_1, slots]
        simp [clkKd, frQ, ng] at hfl
        exact Again.by ⟨(1, e + 3), a2⟩ (Le.to (by simp [i64_1]) (by by_cases i0 : i = 0 <;> simp [i0, nq1, nq2, nq3, nq4, nq5, nq6, nq7, nq8, nq9, nq10, hfl, hea]) (by simp [hea])) (by simp <;> omega)
      · have hif : ∀ {α : Type} (x y : α), (if k = 0 then x else y) = y := fun x y => if_neg k0
        simp -dsimp -implicitDefEqProofs [nq1, nq2, nq3, nq4, nq5, nq6, nq7, nq8, nq9, nq10, hif, wi, wk, hsz, hk4]
        refine ⟨by omega, ?_⟩
        refine eCall.of n1 (by simp) ?_
        simp -dsimp -implicitDefEqProofs [nq1, nq2, nq3, nq4, nq5, nq6, nq7, nq8, nq9, nq10, hif, wi, wk, hsz, i64_1]
        refine eCall.of n0 (by simp) ?_
        simp -dsimp -implicitDefEqProofs [nq1, nq2, nq3, nq4, nq5, nq6, nq7, nq8, nq9, nq10, hif, wi, wk, hsz, slots, htl]
        simp [clkKd, frQ, ng] at hfl
        refine ⟨by omega, ?_⟩
        exact Again.by ⟨(k + 1, e + 3), a2⟩ (Le.to (by simp [wk]) (by by_cases i0 : i = 0 <;> simp [i0, nq1, nq2, nq3, nq4, nq5, nq6, nq7, nq8, nq9, nq10, hfl, hea]) (by simp [hea])) (by simp <;> omega)
    have k2 : k = values.length := by omega
    subst k2
    have hag : (clkGm values n).agents.length = n := by simp [clkGm]
    have hfl := flat_snoc (f := rowAg) ((clkGm values n).agents[i]'(by omega)) ((clkGm values n).agents.take i)
    rw [← takeSnoc (clkGm values n).agents i (by omega)] at hfl
    have hgi : (clkGm values n).agents[i]'(by omega) = ⟨nm3 i, kds⟩ := by subst hkds; simp [clkGm, clkAg]
    rw [hgi] at hfl
    have hrk := rowsOf_flat (f := rowKd) kds values.length hkl.symm
    have hkt : kds.take values.length = kds := List.take_of_length_le (by omega)
    have htl : min i (clkGm values n).agents.length = i := by omega
    have k0 : ¬ values.length = 0 := fun h => hm0 (List.length_eq_zero_iff.1 h)
    have hif : ∀ {α : Type} (x y : α), (if values.length = 0 then x else y) = y := fun x y => if_neg k0
    have hea2 : ∀ e, c + (e + 5) = c + e + 5 := fun e => by omega
    by_cases i0 : i = 0
    · subst i0
      have hif2 : ∀ {α : Type} (x y : α), (if 0 = 0 then x else y) = x := fun x y => if_pos rfl
      rw [List.take_zero, flat_nil, List.nil_append] at hfl
      simp at hfl
      simp -dsimp -implicitDefEqProofs [nq1, nq2, nq3, nq4, nq5, nq6, nq7, nq8, nq9, nq10, hif, hif2, slots, hkt, hrk, hm0, hkl]
      exact Again.by ⟨(1, c + e + 4), a1⟩ (Le.to (by simp [i64_1]) (by simp [nq1, nq2, nq3, nq4, nq5, nq6, nq7, nq8, nq9, nq10, hfl, hea, hea2]) (by simp)) (by simp <;> omega)
    · have hif2 : ∀ {α : Type} (x y : α), (if i = 0 then x else y) = y := fun x y => if_neg i0
      simp at hfl
      simp -dsimp -implicitDefEqProofs [nq1, nq2, nq3, nq4, nq5, nq6, nq7, nq8, nq9, nq10, hif, hif2, slots, hkt, hrk, hm0, hkl, htl]
      refine ⟨by omega, ?_⟩
      exact Again.by ⟨(i + 1, c + e + 4), a1⟩ (Le.to (by simp [wi]) (by simp [nq1, nq2, nq3, nq4, nq5, nq6, nq7, nq8, nq9, nq10, hfl, hea, hea2]) (by simp)) (by simp <;> omega)
  have hi2 : i = n := by omega
  subst hi2
  have hif : ∀ {α : Type} (x y : α), (if i = 0 then x else y) = y := fun x y => if_neg (by omega)
  have hag : (clkGm values i).agents.length = i := by simp [clkGm]
  have hou : (clkGm values i).outs.length = 1 + i := by simp [clkGm]; omega
  have hat : (clkGm values i).agents.take i = (clkGm values i).agents := List.take_of_length_le (by omega)
  have hra := rowsOf_flat (f := rowAg) (clkGm values i).agents i hag.symm
  have hrs := rowsOf_flat (f := rowStr) (clkGm values i).outs (1 + i) hou.symm
  have hrn := rowsOf_flat (f := rowNd) (clkGm values i).needs 1 rfl
  have hpay : (clkGm values i).pay = true := rfl
  have hlot : (clkGm values i).lots = false := rfl
  have haim : (clkGm values i).aim = 1 := rfl
  have hndl : (clkGm values i).needs.length = 1 := rfl
  simp -dsimp -implicitDefEqProofs [hif, hat, hra, hrs, hrn, hag, hou, hndl]
  exact ⟨rfl, rfl, rfl⟩
end Go.Proofs.YtaljbebkooppiaaGreat.Sh

namespace Go.Proofs.YtaljbebkooppiaaGreat.Sh
open Go Go.RowKit
theorem insC_two : (insC 2 [0, 0, -1]).length = 2 := by decide
theorem next_two : nextC 3 2 [0, 0, -1] (todoC 3 2 1 2 + 1) 1 2 ≠ none := by decide
theorem lastOk_two : LastOk 3 2 [0, 0, -1] := ⟨rfl, fun i hi => match i, hi with | 0, _ => by decide +revert | 1, _ => by decide +revert | 2, _ => by decide +revert, by decide⟩
theorem todo_two : todoC 3 2 1 2 < 23 + 1 := by decide
def twoT (values : List FR) : List Vn := (treeC 3 2).map (toV values 2)
set_option maxRecDepth 20000 in
set_option maxHeartbeats 4000000 in
theorem vclock2_s (values : List FR) (hv : ∀ f ∈ values, f.ok) (hl : values.length = 3) (hr : ∀ i (h : i + 1 < values.length), values[i].fix < values[i + 1].fix) : CallsS Tryz.prog 10 [.one (frsS values), .one (.int .i64 2)] (.tup [gmS (clkGm values 2), viS (twoT values), .one (.int .i64 0)]) := by
  have hne : values ≠ [] := fun e => by rw [e] at hl; simp at hl
  have hg := vgrow0_s values hv 2 (by decide) (by omega) 23 1 2 [0, 0, -1] (by rw [hl]; exact todo_two) (by decide) (by omega) (by decide) (by rw [hl]; exact lastOk_two) (by rw [insC_two]; decide) (by rw [hl]; exact next_two)
  have htr : (clkC values.length 2 (23 + 1) 1 2 [0, 0, -1] 0).map (toV values 2) = twoT values := by rw [hl]; rfl
  rw [htr] at hg
  obtain ⟨tt, htt⟩ : ∃ tt, tt = twoT values := ⟨_, rfl⟩
  rw [← htt] at hg ⊢
  have hcg := vcgame_s values hv 2 (by decide) (by omega) hne (by decide)
  refine callsM [23] Tryz.func10 rfl (by rfl) (by rfl) (by kernel_rfl) ?_
  simp -dsimp -implicitDefEqProofs [Tryz.f10, hl]
  refine sw_loop_m [23] (fun q : {q : Nat // 1 ≤ q ∧ q ≤ 3} => SS.of [(0, .v (.one (frsS values))), (1, .v (.one (.int .i64 2))), (4, .v (.one (.mp 0 0))), (5, .v (.one (.mp 1 0))), (6, I .i64 0), (7, I .i64 q.1)] [(0, ⟨31, [.nils, .nils, .bool false, .bool false, .int .i64 0, .nils]⟩), (1, ⟨34, [.nils]⟩)] 2)
    (fun q => 3 - q.1) ⟨1, by decide⟩ (by kernel_rfl) (Le.to (by simp) (by simp) (by simp)) ?_
  rintro ⟨i, hi1, hi⟩
  by_cases a1 : i < 3
  · obtain ⟨j, rfl⟩ : ∃ j, i = j + 1 := ⟨i - 1, by omega⟩
    have wi : IntKind.i64.wrap (((j + 1 : Nat) : Int) + 1) = ((j + 2 : Nat) : Int) := by rw [wrap_i64 _ (by omega) (by omega)]; omega
    have wj : IntKind.i64.wrap (((j + 1 : Nat) : Int) - 1) = (j : Int) := by rw [wrap_i64 _ (by omega) (by omega)]; omega
    have wi' : IntKind.i64.wrap ((j : Int) + 1 + 1) = (j : Int) + 1 + 1 := wrap_i64 _ (by omega) (by omega)
    have wj' : IntKind.i64.wrap (j : Int) = (j : Int) := wrap_i64 _ (by omega) (by omega)
    have j3 : j < values.length := by omega
    have j4 : j + 1 < values.length := by omega
    have hc := fcmp_s values[j] values[j + 1] (hv _ (List.getElem_mem _)) (hv _ (List.getElem_mem _))
    have hlt : cmpQ values[j].fix values[j + 1].fix = -1 := by unfold cmpQ; rw [if_pos (hr j j4)]
    rw [hlt] at hc
    have j2 : (j : Int) + 1 < 3 := by omega
    simp -dsimp -implicitDefEqProofs [hl, wi', wj', j2, j3, j4, show j < 3 by omega, show j + 1 < 3 by omega, show (j : Int) < 3 by omega]
    refine ⟨by omega, ?_⟩
    refine eCall.of hc (by simp) ?_
    simp -dsimp -implicitDefEqProofs [hl, wi', wj', j2, j3, j4, show j < 3 by omega, show j + 1 < 3 by omega, show (j : Int) < 3 by omega]
    exact Again.by ⟨j + 2, by omega, by omega⟩ (Le.to (by simp; omega) (by simp) (by simp)) (by simp; omega)
  obtain rfl : i = 3 := by omega
  simp -dsimp -implicitDefEqProofs [hl]
  refine sw_loop_m [23] (fun q : {q : Nat // q ≤ 2} => SS.of [(0, .v (.one (frsS values))), (1, .v (.one (.int .i64 2))), (4, .v (.one (.mp 0 0))), (5, .v (.one (.mp 1 0))), (6, I .i64 0), (8, I .i64 (if q.1 = 0 then 1 else if q.1 = 1 then 3 else 9)), (44, .v (.one (.int .i64 2))), (45, I .i64 q.1)] [(0, ⟨31, [.nils, .nils, .bool false, .bool false, .int .i64 0, .nils]⟩), (1, ⟨34, [.nils]⟩)] 2)
    (fun q => 2 - q.1) ⟨0, by decide⟩ (by kernel_rfl) (Le.to (by simp) (by simp) (by simp)) ?_
  rintro ⟨i, hi⟩
  have hw1 : IntKind.i64.wrap 3 = 3 := by decide
  have hw2 : IntKind.i64.wrap 9 = 9 := by decide
  have hw3 : IntKind.i64.wrap 1 = 1 := by decide
  have hw4 : IntKind.i64.wrap 2 = 2 := by decide
  match i, hi with
  | 0, _ =>
    simp -dsimp -implicitDefEqProofs [hl, hw1, hw2, hw3, hw4]
    exact Again.by ⟨1, by decide⟩ (Le.to (by simp [hw1]) (by simp) (by simp)) (by simp)
  | 1, _ =>
    simp -dsimp -implicitDefEqProofs [hl, hw1, hw2, hw3, hw4]
    exact Again.by ⟨2, by decide⟩ (Le.to (by simp [hw2]) (by simp) (by simp)) (by simp)
  | 2, _ =>
    simp -dsimp -implicitDefEqProofs [hl, hw1, hw2, hw3, hw4]
    refine sw_loop_m [23] (fun q : {q : Nat // q ≤ 2} => SS.of [(0, .v (.one (frsS values))), (1, .v (.one (.int .i64 2))), (4, .v (.one (.mp 0 0))), (5, .v (.one (.mp 1 0))), (6, I .i64 0), (9, .v (.one (.mp 2 0))), (10, .v (.one (.mp 3 0))), (67, .v (.one (.int .i64 2))), (68, I .i64 q.1)] [(0, ⟨31, [.nils, .nils, .bool false, .bool false, .int .i64 0, .nils]⟩), (1, ⟨34, [.nils]⟩), (2, ⟨88, rowCl values .nils 2⟩), (3, ⟨89, [.int .i64 (if q.1 = 0 then -1 else 0), .int .i64 (if q.1 ≤ 1 then -1 else 0), .int .i64 (-1)]⟩)] 4)
      (fun q => 2 - q.1) ⟨0, by decide⟩ (by kernel_rfl) (Le.to (by simp) (by simp) (by simp)) ?_
    rintro ⟨i, hi⟩
    match i, hi with
    | 0, _ =>
      simp -dsimp -implicitDefEqProofs [hw3]
      exact Again.by ⟨1, by decide⟩ (Le.to (by simp [hw3]) (by simp) (by simp)) (by simp)
    | 1, _ =>
      simp -dsimp -implicitDefEqProofs [hw4]
      exact Again.by ⟨2, by decide⟩ (Le.to (by simp [hw4]) (by simp) (by simp)) (by simp)
    | 2, _ =>
      simp -dsimp -implicitDefEqProofs
      refine eCall.lend [2] hg (by simp) (by simp) (by simp) ?_
      simp -dsimp -implicitDefEqProofs
      refine sw_draw_t [(83, 4)] (by kernel_rfl) (by kernel_rfl) (by kernel_rfl) ?_
      simp -dsimp -implicitDefEqProofs
      refine eCall.of hcg (by simp) ?_
      simp -dsimp -implicitDefEqProofs
end Go.Proofs.YtaljbebkooppiaaGreat.Sh

namespace Go.Proofs.YtaljbebkooppiaaGreat.Sh
open Go Go.RowKit
theorem okL_links {l : List Vn} (h : okL l = true) : Links l := by
  unfold okL at h
  rw [Bool.and_eq_true, List.all_eq_true, List.all_eq_true] at h
  obtain ⟨h1, h2⟩ := h
  refine ⟨(linksTo_iff l.length).2 fun i hi hq => ?_, fun j j0 hj => ?_⟩
  · have := h1 i (List.mem_range.2 hi)
    simp only [Bool.or_eq_true, beq_iff_eq, Bool.and_eq_true, decide_eq_true_eq, Option.isNone_iff_eq_none] at this
    rcases this with h | ⟨⟨⟨⟨⟨⟨a1, a2⟩, a3⟩, a4⟩, a5⟩, a6⟩, a7⟩
    · exact absurd h hq
    · exact ⟨⟨a1, a2⟩, ⟨a3, a4⟩, a5, a6, a7⟩
  · have := h2 j (List.mem_range.2 hj)
    simp only [Bool.or_eq_true, beq_iff_eq] at this
    rcases this with h | h
    · omega
    · obtain ⟨p, hp⟩ := Option.isSome_iff_exists.1 h
      obtain ⟨e1, e2⟩ := upTo_some hp
      exact ⟨p.1, p.2, e1, e2⟩
theorem riseB_iff {m : Nat} {l : List Int} (h : okQ.RiseB m l = true) : RiseK m l := by
  intro i hi
  have := List.all_eq_true.1 h i (List.mem_range.2 hi)
  simp only [Bool.and_eq_true, Bool.or_eq_true, decide_eq_true_eq, beq_iff_eq] at this
  have e1 : l.getD i 0 = l[i] := by simp [hi]
  rw [e1] at this
  refine ⟨this.1.1, this.1.2, fun i0 => ?_⟩
  have e2 : l.getD (i - 1) 0 = l[i - 1]'(by omega) := by simp [show i - 1 < l.length by omega]
  rw [e2] at this
  rcases this.2 with h | h
  · omega
  · exact h
theorem okQ_tree {g : Gm} {l : List Vn} {m n : Nat} (hg : ClockGm g m n) (h0 : 0 < l.length) (hl : l.length ≤ 200) (h1 : okL l = true) (h2 : okQ m n l = true) : TreeOk g l := by
  unfold okQ at h2
  rw [List.all_eq_true] at h2
  refine ⟨h0, hl, okL_links h1, fun i hi he => ?_, fun i hi he => ?_⟩
  · have := h2 i (List.mem_range.2 hi)
    rw [if_pos he] at this
    simp only [Bool.and_eq_true, decide_eq_true_eq] at this
    exact ⟨this.1.1, by rw [hg.ou]; exact this.1.2, by rw [hg.ag]; exact this.2, fun hp => absurd hp (by rw [hg.pay]; decide)⟩
  · have := h2 i (List.mem_range.2 hi)
    rw [if_neg he] at this
    simp only [Bool.and_eq_true, decide_eq_true_eq, Bool.not_eq_true', List.isEmpty_eq_false_iff, List.all_eq_true, List.any_eq_true, List.mem_range, Bool.or_eq_true] at this
    obtain ⟨⟨⟨⟨⟨a1, a2⟩, a3⟩, a4⟩, a5⟩, k, hk, a6, a7⟩ := this
    have hkl : klA g (vnAt l i).agent.toNat = m := hg.kd _ (by omega)
    refine ⟨(vnAt l i).agent.toNat, by omega, by rw [hg.ag]; omega, a3, by rw [hkl]; exact riseB_iff a4, fun k hk hh => ?_, k, by rw [hkl]; exact hk, a6, a7⟩
    rw [hkl] at hk
    rcases a5 k hk with h | h
    · rw [hh] at h; cases h
    · exact h
/-! ### The clock of awake -/
def two3 : List FR := [frQ 1, frQ 2, frQ 3]
def twoL : List Vn := twoT two3
def twoG : Gm := clkGm two3 2
theorem twoG_clock : ClockGm twoG 3 2 := ⟨rfl, fun a ha => match a, ha with | 0, _ => rfl | 1, _ => rfl, rfl, rfl⟩
theorem twoL_okL : okL twoL = true := by decide +kernel
theorem twoL_okQ : okQ 3 2 twoL = true := by decide +kernel
theorem twoL_len : 3 < twoL.length ∧ twoL.length ≤ 200 := by decide +kernel
theorem twoL_tree : TreeOk twoG twoL := okQ_tree twoG_clock (by have := twoL_len.1; omega) twoL_len.2 twoL_okL twoL_okQ
theorem twoG_beyond : Sh.beyond twoG = false := by decide +kernel
theorem twoG_size : sizeOk twoG = true := by decide +kernel
theorem frQ3 (p : Int) (h : p = 1 ∨ p = 2 ∨ p = 3 ∨ p = 0) : (frQ (p : Rat)).ok ∧ (frQ (p : Rat)).fix = (p : Rat) ∧ mz (p : Rat) ≤ 6 := by
  have := fix_int p (by omega) (by omega)
  refine ⟨this.2, this.1, ?_⟩
  rcases h with rfl | rfl | rfl | rfl <;> decide +kernel
theorem two3_ok : ∀ f ∈ two3, f.ok := by
  intro f hf
  simp [two3] at hf
  rcases hf with rfl | rfl | rfl
  · exact (frQ3 1 (by decide)).1
  · exact (frQ3 2 (by decide)).1
  · exact (frQ3 3 (by decide)).1
theorem twoG_right : RightOk twoG := by
  refine ⟨by decide +kernel, by decide +kernel, ⟨by decide +kernel, by decide +kernel⟩, ⟨by decide +kernel, by decide +kernel⟩, .inl rfl, ?_, ?_⟩
  · intro a ha
    refine ⟨?_, ⟨?_, ?_⟩, ?_⟩
    · revert a; decide +kernel
    · revert a; decide +kernel
    · revert a; decide +kernel
    · intro k hk
      show ¬ sgnQ k.weight.fix < 0 ∧ k.worth.length = twoG.outs.length
      revert k
      revert a; decide +kernel
  · intro i hi
    have : i = 0 := by have e : twoG.needs.length = 1 := rfl; omega
    subst this
    exact ⟨by unfold ShapedOk; rw [if_pos (.inl rfl)]; exact ⟨rfl, rfl, by show sgnQ (frQ 0).fix = 0; decide +kernel, rfl, rfl⟩, fun ⟨m, hm, _⟩ => by simp at hm⟩
def frB (f : FR) : Bool := f.num.all (fun x => decide (0 ≤ x) && decide (x < 4294967296)) && f.den.all (fun x => decide (0 ≤ x) && decide (x < 4294967296)) && decide (f.num.length ≤ 140737488355328) && decide (f.den.length ≤ 140737488355328)
theorem frB_ok {f : FR} (h : frB f = true) : f.ok := by
  unfold frB at h
  simp only [Bool.and_eq_true, List.all_eq_true, decide_eq_true_eq] at h
  exact ⟨h.1.1.1, h.1.1.2, h.1.2, h.2⟩
def kdB (k : Kd) : Bool := decide (k.name.size ≤ 140737488355328) && frB k.weight && frB k.alone && decide (k.worth.length ≤ 140737488355328) && k.worth.all frB
theorem kdB_ok {k : Kd} (h : kdB k = true) : k.ok := by
  unfold kdB at h
  simp only [Bool.and_eq_true, List.all_eq_true, decide_eq_true_eq] at h
  exact ⟨h.1.1.1.1, frB_ok h.1.1.1.2, frB_ok h.1.1.2, h.1.2, fun f hf => frB_ok (h.2 f hf)⟩
theorem twoG_ok : twoG.ok := by
  refine ⟨by unfold lenOk; decide +kernel, by unfold lenOk; decide +kernel, by unfold lenOk; decide +kernel, ?_, by decide +kernel, ?_, by unfold In64; decide +kernel⟩
  · intro a ha
    have h : ∀ a ∈ twoG.agents, (decide (a.name.size ≤ 140737488355328) && decide (a.kinds.length ≤ 140737488355328) && a.kinds.all kdB) = true := by decide +kernel
    have := h a ha
    simp only [Bool.and_eq_true, List.all_eq_true, decide_eq_true_eq] at this
    exact ⟨this.1.1, this.1.2, fun k hk => kdB_ok (this.2 k hk)⟩
  · intro n hn
    have h : ∀ n ∈ twoG.needs, n = ⟨1, 0, 0, frQ 0, [], []⟩ := by intro n hn; simpa [twoG, clkGm] using hn
    rw [h n hn]
    exact ⟨by unfold In64; decide, by unfold In64; decide, by unfold In64; decide, (frQ3 0 (by decide)).1, by unfold lenOk; decide, by unfold lenOk; decide, by unfold InI; decide, by unfold InI; decide⟩
def vnB (x : Vn) : Bool := decide (-9223372036854775808 ≤ x.agent ∧ x.agent < 9223372036854775808) && decide (x.part.length ≤ 20) && x.part.all (fun x => decide (-9223372036854775808 ≤ x ∧ x < 9223372036854775808)) && decide (-9223372036854775808 ≤ x.yes ∧ x.yes < 9223372036854775808) && decide (-9223372036854775808 ≤ x.no ∧ x.no < 9223372036854775808) && decide (-9223372036854775808 ≤ x.out ∧ x.out < 9223372036854775808) && decide (x.pay.length ≤ 140737488355328) && x.pay.all frB && x.pay.all (fun f => decide (mz f.fix ≤ 6))
theorem vnB_ok {x : Vn} (h : vnB x = true) : x.ok ∧ x.part.length ≤ 20 ∧ ∀ f ∈ x.pay, mz f.fix ≤ 6 := by
  unfold vnB at h
  simp only [Bool.and_eq_true, List.all_eq_true, decide_eq_true_eq] at h
  obtain ⟨⟨⟨⟨⟨⟨⟨⟨h1, h2⟩, h3⟩, h4⟩, h5⟩, h6⟩, h7⟩, h8⟩, h9⟩ := h
  exact ⟨⟨h1, ⟨by unfold lenOk; omega, h3⟩, h4, h5, h6, h7, fun f hf => frB_ok (h8 f hf)⟩, h2, h9⟩
theorem twoL_near : NearV twoL := fun x hx => by
  have h : ∀ x ∈ twoL, vnB x = true := by decide +kernel
  exact vnB_ok (h x hx)
end Go.Proofs.YtaljbebkooppiaaGreat.Sh

namespace Go.Proofs.YtaljbebkooppiaaGreat.Sh
open Go Go.RowKit
set_option maxRecDepth 20000 in
set_option maxHeartbeats 2000000 in
theorem two8_s : CallsS Tryz.prog 53 [] (.tup [gmS twoG, viS twoL, .one (.bool true)]) := by
  have hlen := twoL_len.1
  have hcl := vclock2_s two3 two3_ok rfl (by
    intro i hi
    match i, hi with
    | 0, _ => exact (by rw [(frQ3 1 (by decide)).2.1, (frQ3 2 (by decide)).2.1]; decide +kernel : (frQ ((1 : Int) : Rat)).fix < (frQ ((2 : Int) : Rat)).fix)
    | 1, _ => exact (by rw [(frQ3 2 (by decide)).2.1, (frQ3 3 (by decide)).2.1]; decide +kernel : (frQ ((2 : Int) : Rat)).fix < (frQ ((3 : Int) : Rat)).fix))
  have o1 := ofR_s 1 (by decide) (by decide)
  have o2 := ofR_s 2 (by decide) (by decide)
  have o3 := ofR_s 3 (by decide) (by decide)
  have hl3 : two3.length = 3 := rfl
  have row : ∀ p : Int, p = 1 ∨ p = 2 ∨ p = 3 → rowFr (frQ (p : Rat)) = [S1.bool false, .sl true 1 ((toW p.toNat).map fun x => [.int .u32 x]), .sl true 1 ((toW 1).map fun x => [.int .u32 x])] := fun p hp => by rcases hp with rfl | rfl | rfl <;> rfl
  have f1 : flat rowFr (two3.take 1) = rowFr (frQ ((1 : Int) : Rat)) := by simp [two3, flat]
  have f2 : flat rowFr (two3.take 2) = flat rowFr (two3.take 1) ++ rowFr (frQ ((2 : Int) : Rat)) := by simp [two3, flat]
  have f3 : flat rowFr (two3.take 3) = flat rowFr (two3.take 2) ++ rowFr (frQ ((3 : Int) : Rat)) := by simp [two3, flat]
  rw [row 1 (by decide)] at f1
  rw [row 2 (by decide)] at f2
  rw [row 3 (by decide)] at f3
  simp at f1 f2 f3
  have hro : rowsOf (flat rowFr (two3.take 3)) 0 3 3 = two3.map rowFr := rowsOf_flat (f := rowFr) (two3.take 3) 3 rfl
  refine callsM [7] Tryz.func53 rfl (by rfl) (by rfl) (by kernel_rfl) ?_
  simp -dsimp -implicitDefEqProofs [Tryz.f53]
  refine sw_loop_m [7] (fun q : {q : Nat // q ≤ 3} => SS.of [(0, .v (.one (.mp 0 0))), (1, .v (.one (.mp 1 0))), (2, .v (.one (.bool false))), (3, if q.1 = 0 then .v (.one .nils) else .v (.one (.ms (q.1 * 2 + 1) 0 q.1 3 true))), (4, I .i64 (q.1 + 1 : Nat))] (([(0, ⟨31, [.nils, .nils, .bool false, .bool false, .int .i64 0, .nils]⟩), (1, ⟨34, [.nils]⟩)] : List (Nat × SObj)) ++ (if q.1 = 0 then [] else [(q.1 * 2 + 1, ⟨26, flat rowFr (two3.take q.1)⟩)] : List (Nat × SObj))) (q.1 * 2 + 2))
    (fun q => 3 - q.1) ⟨0, by decide⟩ (by kernel_rfl) (Le.to (by simp) (by simp) (by simp)) ?_
  rintro ⟨i, hi⟩
  have hw : ∀ x : Int, 0 ≤ x → x ≤ 10 → IntKind.i64.wrap x = x := fun x h1 h2 => wrap_i64 _ (by omega) (by omega)
  match i, hi with
  | 0, _ =>
    simp -dsimp -implicitDefEqProofs [hw]
    refine eCall.of o1 (by simp) ?_
    simp -dsimp -implicitDefEqProofs [hw, slots, hl3]
    exact Again.by ⟨1, by decide⟩ (Le.to (by simp [hw]) (by simp [f1, f2, f3]) (by simp)) (by simp)
  | 1, _ =>
    simp -dsimp -implicitDefEqProofs [hw]
    refine eCall.of o2 (by simp) ?_
    simp -dsimp -implicitDefEqProofs [hw, slots, hl3]
    exact Again.by ⟨2, by decide⟩ (Le.to (by simp [hw]) (by simp [f1, f2, f3]) (by simp)) (by simp)
  | 2, _ =>
    simp -dsimp -implicitDefEqProofs [hw]
    refine eCall.of o3 (by simp) ?_
    simp -dsimp -implicitDefEqProofs [hw, slots, hl3]
    exact Again.by ⟨3, by decide⟩ (Le.to (by simp [hw]) (by simp [f1, f2, f3]) (by simp)) (by simp)
  | 3, _ =>
    simp -dsimp -implicitDefEqProofs [hw, hl3, hro]
    have hgt : (3 : Int) < ((twoT two3).length : Int) := by have : 3 < (twoT two3).length := hlen; omega
    have hgt' : 3 < (twoT two3).length := hlen
    refine eCall.of hcl (by simp) ?_
    simp -dsimp -implicitDefEqProofs
    refine sw_draw_t [(1, 0)] (by kernel_rfl) (by kernel_rfl) (by kernel_rfl) ?_
    simp -dsimp -implicitDefEqProofs [hgt, hgt', twoG, twoL]
set_option maxRecDepth 20000 in
theorem awake8_s : CallsS Tryz.prog 12 [] (.v (.one (.bool true))) := by
  have hr := vright8_s twoG twoG_ok twoG_beyond twoL (by have := twoL_len.2; omega) twoL_near 0 (.inr (.inr ⟨⟨twoG_size, twoG_right⟩, twoL_tree, rfl⟩))
  refine calls Tryz.func12 rfl (by rfl) (by rfl) (by kernel_rfl) ?_
  simp -dsimp -implicitDefEqProofs [Tryz.f12]
  refine eCall.of two8_s (by simp) ?_
  simp -dsimp -implicitDefEqProofs
  refine eCall.of hr (by simp) ?_
  simp -dsimp -implicitDefEqProofs
end Go.Proofs.YtaljbebkooppiaaGreat.Sh

namespace Go.Proofs.YtaljbebkooppiaaGreat.Sh
open Go Go.RowKit
def kindsN (p : Nat → Bool) (n : Nat) : List Nat := (List.range n).filter fun k => decide (k < 4 ∧ p k = true)
theorem kindsN_mem {p : Nat → Bool} {n k : Nat} : k ∈ kindsN p n ↔ k < n ∧ k < 4 ∧ p k = true := by
  unfold kindsN
  rw [List.mem_filter, List.mem_range, decide_eq_true_iff]
theorem kindsN_lt (p : Nat → Bool) (n : Nat) : (kindsN p n).Pairwise (· < ·) := List.Pairwise.filter _ List.pairwise_lt_range
theorem kindsN_before {p : Nat → Bool} {n t x : Nat} (ht : t < (kindsN p n).length) (hx : x ∈ kindsN p n) (hl : x < (kindsN p n)[t]) : x ∈ (kindsN p n).take t := by
  obtain ⟨j, hj, rfl⟩ := List.getElem_of_mem hx
  have hjt : j < t := by
    rcases Nat.lt_trichotomy j t with c | c | c
    · exact c
    · subst c; omega
    · have := List.pairwise_iff_getElem.1 (kindsN_lt p n) t j ht hj c
      omega
  rw [List.mem_take_iff_getElem]
  exact ⟨j, by omega, rfl⟩
def mayF (g : Gm) (l : List Vn) (a i : Nat) : Nat → Bool := fun k => decide (k < klA g a) && mayB l a k i
theorem cellRows_get (g : Gm) (l : List Vn) {i : Nat} (h : i < (cellRows g l).length) (a : Nat) : (cellRows g l)[i] a = bm (mayF g l a i) := by
  have e : (cellRows g l)[i] = fun a => bm fun k => decide (k < klA g a) && mayB l a k i := by simp [cellRows]
  rw [e]; rfl
set_option maxRecDepth 20000 in
set_option maxHeartbeats 2000000 in
theorem vobvious_s (g : Gm) (hg : g.ok) (hb : Sh.beyond g = false) (hn : Near g) (l : List Vn) (hl : l.length ≤ 1048576) (hv : NearV l) (d : Db) (ok : Bool) (h : isObv g l d ok) :
    CallsS Tryz.prog 13 [gmS g, viS l] (.tup [dbS d, .one (.bool ok)]) := by
  obtain ⟨e, he, e0⟩ := isTree_of g l
  refine calls Tryz.func13 rfl (by rfl) (by rfl) (by kernel_rfl) ?_
  simp -dsimp -implicitDefEqProofs [Tryz.f13]
  refine eCall.of (vright8_s g hg hb l hl hv e he) (by simp) ?_
  by_cases c0 : GmOk g ∧ TreeOk g l
  · obtain rfl : e = 0 := e0.2 c0
    obtain ⟨hG, hT⟩ := c0
    have hf := hG.fine hg hb
    have hll := hT.len
    have hal := (sizeOk_all hf.sz).1
    have hce := vcells_s g hf l hl hv true (by simp [hT])
    rw [if_pos rfl] at hce
    have crl : (cellRows g l).length = l.length := by simp [cellRows]
    simp -dsimp -implicitDefEqProofs
    refine eCall.of hce (by simp) ?_
    simp -dsimp -implicitDefEqProofs
    refine sw_loop_e (fun q : {q : Nat × Nat // q.1 ≤ l.length ∧ ∀ y x, y < q.1 → ¬ DoubtAt g l y x} => SS.of [(2, .v (.one (.mp 0 0))), (3, .v (.one (.mp 1 0))), (4, .v (.one (.mp 2 0))), (6, .v (.one (.sl true 4 ((cellRows g l).map rowCb)))), (28, .v (.one (vnsS l))), (29, I .i64 l.length), (30, I .i64 q.1.1)] [(0, ⟨31, rowGm g⟩), (1, ⟨34, [vnsS l]⟩), (2, ⟨40, rowDb ⟨0, 0, zF, zF⟩⟩)] (q.1.2 + 3))
      (fun q => l.length - q.1.1) ⟨(0, 0), Nat.zero_le _, fun y x hy => absurd hy (by omega)⟩ (by kernel_rfl) (Le.to (by simp) (by simp [zF]) (by simp)) ?_
    rintro ⟨⟨i, c⟩, hi, hq⟩
    simp only at hi hq
    by_cases a1 : i < l.length
    · have wi : IntKind.i64.wrap ((i : Int) + 1) = ((i + 1 : Nat) : Int) := by rw [wrap_i64 _ (by omega) (by omega)]; rfl
      have next : (∀ x, ¬ DoubtAt g l i x) → ∀ y x, y < i + 1 → ¬ DoubtAt g l y x := fun hx y x hy => by
        by_cases e : y = i
        · subst e; exact hx x
        · exact hq y x (by omega)
      cases hen : isEndV l i with
      | true =>
        have e1 := (isEnd_true a1).1 hen
        simp -dsimp -implicitDefEqProofs [a1, e1]
        exact Again.by ⟨(i + 1, c + 1), a1, next fun x hx => by have := hx.1; rw [hen] at this; cases this⟩ (Le.to (by simp [wi]) (by simp [zF]) (by simp)) (by simp; omega)
      | false =>
        obtain ⟨-, ea, la⟩ := hT.ask a1 hen
        rw [vnAt_eq a1] at ea
        have ea0 := eq_false (show ¬ (agV l i : Int) < 0 by omega)
        have hkl : klA g (agV l i) = g.agents[agV l i].kinds.length := klA_eq la
        have hk4 := hf.klA4 (agV l i)
        obtain ⟨y, n, k1, k2, k3, k4, k5, k6, -⟩ := hT.kids a1 hen
        have k1' : l[i].yes = (y : Int) := by rw [← vnAt_eq a1]; exact k1
        have k2' : l[i].no = (n : Int) := by rw [← vnAt_eq a1]; exact k2
        have a4 : agV l i < 4 := by omega
        have a4' : (agV l i : Int) < 4 := by omega
        have ic : i < (cellRows g l).length := by omega
        have hrow : ([S1.int .u8 ((cellRows g l)[i] 0), S1.int .u8 ((cellRows g l)[i] 1), S1.int .u8 ((cellRows g l)[i] 2), S1.int .u8 ((cellRows g l)[i] 3)] : List S1)[agV l i]'(by simpa using a4) = (.int .u8 (bm (mayF g l (agV l i) i))) := by
          rw [← cellRows_get g l ic (agV l i)]
          generalize (cellRows g l)[i] = F
          generalize agV l i = a at a4
          match a, a4 with
          | 0, _ => rfl
          | 1, _ => rfl
          | 2, _ => rfl
          | 3, _ => rfl
        simp -dsimp -implicitDefEqProofs [a1, ea, ea0, ic, a4, a4', hrow]
        refine eCall.of (vkinds_s (mayF g l (agV l i) i)) (by simp) ?_
        obtain ⟨kN, hkN⟩ : ∃ kN, kN = kindsN (mayF g l (agV l i) i) 8 := ⟨_, rfl⟩
        have hkL : kindsL (mayF g l (agV l i) i) 8 = kN.map fun k : Nat => (k : Int) := by rw [hkN]; rfl
        have hkl8 : kN.length ≤ 8 := by have := kindsL_len (mayF g l (agV l i) i) 8; rw [hkL, List.length_map] at this; exact this
        have hmem : ∀ k, k ∈ kN ↔ k < 8 ∧ k < 4 ∧ mayF g l (agV l i) i k = true := fun k => by rw [hkN]; exact kindsN_mem
        rw [hkL]
        simp -dsimp -implicitDefEqProofs
        refine sw_loop_e (fun q : {q : Nat × Nat // q.1 ≤ kN.length ∧ ∀ x ∈ kN.take q.1, ¬ DoubtAt g l i x} => SS.of [(2, .v (.one (.mp 0 0))), (3, .v (.one (.mp 1 0))), (4, .v (.one (.mp 2 0))), (6, .v (.one (.sl true 4 ((cellRows g l).map rowCb)))), (8, I .i64 i), (9, .v (.one (.mp (c + 3) 0))), (28, .v (.one (vnsS l))), (29, I .i64 l.length), (30, I .i64 i), (45, .v (.one (intsS (kN.map fun k : Nat => (k : Int))))), (46, I .i64 kN.length), (47, I .i64 q.1.1)] [(0, ⟨31, rowGm g⟩), (1, ⟨34, [vnsS l]⟩), (2, ⟨40, rowDb ⟨0, 0, zF, zF⟩⟩), (c + 3, ⟨110, rowVn l[i]⟩)] (c + q.1.2 + 4))
          (fun q => kN.length - q.1.1) ⟨(0, 0), Nat.zero_le _, by simp⟩ (by kernel_rfl) (Le.to (by simp) (by simp [ea, zF]) (by simp)) ?_
        rintro ⟨⟨t, u⟩, ht, hqt⟩
        simp only at ht hqt
        have n1 : ∀ u : Nat, ¬ c = c + u + 1 := fun u => by omega
        have n2 : ∀ u : Nat, ¬ c = c + u + 2 := fun u => by omega
        by_cases a2 : t < kN.length
        · have wk : IntKind.i64.wrap ((t : Int) + 1) = ((t + 1 : Nat) : Int) := by rw [wrap_i64 _ (by omega) (by omega)]; rfl
          obtain ⟨k, hkt⟩ : ∃ k, k = kN[t] := ⟨_, rfl⟩
          obtain ⟨-, k4, km⟩ := (hmem k).1 (by rw [hkt]; exact List.getElem_mem a2)
          unfold mayF at km
          rw [Bool.and_eq_true, decide_eq_true_iff] at km
          obtain ⟨kk, hmb⟩ := km
          have a2' : k < g.agents[agV l i].kinds.length := by omega
          have before : ∀ x, x < k → ¬ DoubtAt g l i x := fun x hx hd => by
            refine hqt x ?_ hd
            subst hkN
            exact kindsN_before a2 ((hmem x).2 ⟨by omega, by omega, by unfold mayF; rw [hd.2.2.1, decide_eq_true (by omega)]; rfl⟩) (by rw [← hkt]; exact hx)
          have hx := hT.next a1 hen k
          have ho := hT.other a1 hen k
          have hvn := vnext_s l[i] k (by have := (hv _ (List.getElem_mem a1)).2.1; omega)
          rw [hT.nextI a1 hen k] at hvn
          have w1 : IntKind.i64.wrap ((y : Int) + (n : Int)) = (y : Int) + (n : Int) := wrap_i64 _ (by omega) (by omega)
          have w2 : IntKind.i64.wrap ((y : Int) + (n : Int) - (nextV l i k : Int)) = (otherV l i k : Int) := by
            have := ho.2.2
            rw [k1', k2'] at this
            rw [this]; exact wrap_i64 _ (by omega) (by omega)
          obtain ⟨bw1, bw2⟩ := hT.belowNe (agV l i) (some k) _ (nextV l i k) hx.2 (Nat.le_refl _)
          obtain ⟨bb1, bb2⟩ := hT.belowNe (agV l i) none _ (otherV l i k) ho.2.1 (Nat.le_refl _)
          have itw := ends1_it hT hv (agV l i) (some k) (fun k' e => by cases e; omega) (nextV l i k) hx.2
          have itb := ends1_it hT hv (agV l i) none (fun k' e => by cases e) (otherV l i k) ho.2.1
          have exw := vextreme_s hT hf hn hv (agV l i) k la a2' (-1) _ bw1 bw2 itw
          have exb := vextreme_s hT hf hn hv (agV l i) k la a2' 1 _ bb1 bb2 itb
          have enw := vends_s l (nextV l i k) (agV l i) (some k)
          have enb := vends_s l (otherV l i k) (agV l i) none
          rw [extQ_lo, show loQ (useV g l (agV l i) k) (belowV l (agV l i) (some k) (nextV l i k)) = worstV g l (agV l i) k (nextV l i k) from rfl] at exw
          rw [extQ_hi, show hiQ (useV g l (agV l i) k) (belowV l (agV l i) none (otherV l i k)) = mostV g l (agV l i) k (otherV l i k) from rfl] at exb
          simp only [truI] at exw exb enw enb
          have z1 := cap_mz (show mz (worstV g l (agV l i) k (nextV l i k)) ≤ 2048 by have := hT.worst13 hf hn hv la a2' hx.2; omega)
          have z2 := cap_mz (show mz (mostV g l (agV l i) k (otherV l i k)) ≤ 2048 by have := hT.most13 hf hn hv la a2' ho.2.1; omega)
          have hc := fcmp_s (frQ (worstV g l (agV l i) k (nextV l i k))) (frQ (mostV g l (agV l i) k (otherV l i k))) (frQ_ok (by omega)) (frQ_ok (by omega))
          rw [fix_frQ z1.2, fix_frQ z2.2] at hc
          have hkt' : kN[t] = k := hkt.symm
          simp -dsimp -implicitDefEqProofs [a2, hkt']
          refine eCall.of hvn (by simp [ea]) ?_
          simp -dsimp -implicitDefEqProofs [k1', k2', w1, w2]
          refine eCall.of enw (by simp [ea]) ?_
          simp -dsimp -implicitDefEqProofs
          refine eCall.of exw (by simp [ea]) ?_
          simp -dsimp -implicitDefEqProofs [n1, n2]
          refine eCall.of enb (by simp [ea]) ?_
          simp -dsimp -implicitDefEqProofs [n1, n2]
          refine eCall.of exb (by simp [ea]) ?_
          simp -dsimp -implicitDefEqProofs [n1, n2]
          refine eCall.of hc (by simp [frQ, ng]) ?_
          by_cases cd : worstV g l (agV l i) k (nextV l i k) < mostV g l (agV l i) k (otherV l i k)
          · obtain ⟨rfl, rfl⟩ := h.doubt hG hT a1 ⟨hen, kk, hmb, cd⟩ before (fun y x hy => hq y x hy)
            simp -dsimp -implicitDefEqProofs [cmpQ_neg.2 cd, frQ, ng]
          · simp -dsimp -implicitDefEqProofs [mt cmpQ_neg.1 cd]
            exact Again.by ⟨(t + 1, u + 2), a2, all_take a2 hqt (by rw [hkt']; exact fun hx => cd hx.2.2.2)⟩ (Le.to (by simp [wk]) (by simp [ea, zF, n1, n2, k1', k2']) (by simp; omega)) (by simp; omega)
        have ht2 : t = kN.length := by omega
        subst ht2
        rw [List.take_length] at hqt
        have fin : ∀ x, ¬ DoubtAt g l i x := fun x hx => hqt x ((hmem x).2 ⟨by have := hx.2.1; omega, by have := hx.2.1; omega, by unfold mayF; rw [hx.2.2.1, decide_eq_true hx.2.1]; rfl⟩) hx
        simp -dsimp -implicitDefEqProofs
        exact Again.by ⟨(i + 1, c + u + 1), a1, next fin⟩ (Le.to (by simp [wi]) (by simp [zF]) (by simp)) (by simp; omega)
    have hi2 : i = l.length := by omega
    subst hi2
    obtain ⟨rfl, rfl⟩ := h.none hG hT (fun i' hi' x => hq i' x hi')
    simp -dsimp -implicitDefEqProofs [zF]
  · have h1 : ¬ e = 0 := fun hh => c0 (e0.1 hh)
    obtain ⟨rfl, rfl⟩ := h.bad c0
    simp -dsimp -implicitDefEqProofs [h1, zF]
end Go.Proofs.YtaljbebkooppiaaGreat.Sh

namespace Go.Proofs.YtaljbebkooppiaaGreat.Sh
open Go Go.RowKit
def Gm.fit (g : Gm) : Prop := (∀ a ∈ g.agents, ∀ k ∈ a.kinds, k.worth.length * 49 ≤ 140737488351232) ∧ ∀ n ∈ g.needs, n.outs.length * 8 ≤ 140737488351232 ∧ n.swap.length * 8 ≤ 140737488351232
section
variable {α : Type} {f : Int → α → Int} {D B : Int}
theorem grow_l : ∀ (l : List α), (∀ n y, y ∈ l → 0 ≤ n → n ≤ B → n ≤ f n y ∧ f n y ≤ n + D) → ∀ n0, 0 ≤ n0 → 0 ≤ D → n0 + (l.length : Int) * D ≤ B → n0 ≤ l.foldl f n0 ∧ l.foldl f n0 ≤ n0 + (l.length : Int) * D
  | [], _, n0, h0, hD, hB => by simp
  | y :: l, hf, n0, h0, hD, hB => by
    have e : ((y :: l).length : Int) * D = (l.length : Int) * D + D := by rw [List.length_cons, Int.natCast_add, Int.add_mul]; simp
    rw [e] at hB ⊢
    have hp : 0 ≤ (l.length : Int) * D := Int.mul_nonneg (Int.natCast_nonneg _) hD
    obtain ⟨h1, h2⟩ := hf n0 y (by simp) h0 (by omega)
    obtain ⟨k1, k2⟩ := grow_l l (fun n z hz => hf n z (by simp [hz])) (f n0 y) (by omega) hD (by omega)
    rw [List.foldl_cons]
    constructor <;> omega
theorem grow_at : ∀ (l : List α), (∀ n y, y ∈ l → 0 ≤ n → n ≤ B → n ≤ f n y ∧ f n y ≤ n + D) → ∀ {x}, x ∈ l → ∀ (c : Int), (∀ n, 0 ≤ n → n ≤ B → n + c ≤ f n x) → ∀ n0, 0 ≤ n0 → 0 ≤ D → n0 + (l.length : Int) * D ≤ B → n0 + c ≤ l.foldl f n0
  | y :: l, hf, x, hx, c, hc, n0, h0, hD, hB => by
    have e : ((y :: l).length : Int) * D = (l.length : Int) * D + D := by rw [List.length_cons, Int.natCast_add, Int.add_mul]; simp
    rw [e] at hB
    have hp : 0 ≤ (l.length : Int) * D := Int.mul_nonneg (Int.natCast_nonneg _) hD
    obtain ⟨h1, h2⟩ := hf n0 y (by simp) h0 (by omega)
    rw [List.foldl_cons]
    rcases List.mem_cons.1 hx with rfl | hx
    · have := (grow_l l (fun n z hz => hf n z (by simp [hz])) (f n0 x) (by omega) hD (by omega)).1
      have := hc n0 h0 (by omega)
      omega
    · have := grow_at l (fun n z hz => hf n z (by simp [hz])) hx c hc (f n0 y) (by omega) hD (by omega)
      omega
end
theorem w64 {x : Int} (h0 : 0 ≤ x) (h1 : x ≤ 9000000000000000000) : W64 x = x := wrap_i64 _ (by omega) (by omega)
theorem bigF_big {f : FR} (h : bigF 6 f = false) : (f.big : Int) ≤ 12 := by
  unfold bigF at h
  simp only [Bool.or_eq_false_iff, decide_eq_false_iff_not] at h
  unfold FR.big; omega
theorem bigsW_le {l : List FR} (h : wideL l = false) (hl : l.length ≤ 3000000000000) : 0 ≤ bigsW l ∧ bigsW l ≤ (l.length : Int) * 12 := by
  have := grow_l (f := fun n (f : FR) => W64 (n + (f.big : Int))) (D := 12) (B := 100000000000000) l (fun n y hy h0 hB => by
    have := bigF_big (wideL_no h y hy)
    have h2 : (0 : Int) ≤ (y.big : Int) := Int.natCast_nonneg _
    show n ≤ W64 _ ∧ W64 _ ≤ _
    rw [w64 (by omega) (by omega)]; omega) 0 (by omega) (by omega) (by omega)
  unfold bigsW
  omega
theorem beyond_small {g : Gm} (hg : g.ok) (hfit : g.fit) (h : far8 g = false) : (∀ a ∈ g.agents, ∀ k ∈ a.kinds, k.worth.length ≤ 20000) ∧ ∀ n ∈ g.needs, n.outs.length ≤ 20000 ∧ n.swap.length ≤ 20000 := by
  obtain ⟨hb, hk, hn⟩ := far8_no h
  obtain ⟨b1, b2, b3, b4⟩ := beyond_len hb
  have htot : g.needs.foldl beyD (g.agents.foldl beyA (beyO g)) ≤ 20000 := by
    unfold Sh.beyond at hb
    simp only [Bool.or_eq_false_iff, decide_eq_false_iff_not] at hb
    omega
  have oO : 0 ≤ beyO g ∧ beyO g ≤ (g.outs.length : Int) * 140737488355328 := by
    have := grow_l (f := fun n (s : ByteArray) => W64 (n + (s.size : Int))) (D := 140737488355328) (B := 20000000000000000) g.outs (fun n y hy h0 hB => by
      have := hg.o y hy
      show n ≤ W64 _ ∧ W64 _ ≤ _
      rw [w64 (by omega) (by omega)]; omega) 0 (by omega) (by omega) (by omega)
    unfold beyO
    omega
  have sK : ∀ a ∈ g.agents, ∀ k ∈ a.kinds, ∀ n, 0 ≤ n → n ≤ 4000000000000000000 → n + (k.worth.length : Int) ≤ beyK n k ∧ beyK n k ≤ n + 180000000000000 := fun a ha k hk' n h0 hB => by
    have hf := hk a ha k hk'
    unfold farK8 at hf
    rw [Bool.or_eq_false_iff] at hf
    have w1 := bigF_big (wideL_no hf.2 k.weight (by simp))
    have w2 := bigF_big (wideL_no hf.2 k.alone (by simp))
    have w3 := hfit.1 a ha k hk'
    obtain ⟨w4, w5⟩ := bigsW_le hf.1 (by omega)
    have w6 := ((hg.a a ha).2.2 k hk').1
    have z1 : (0 : Int) ≤ (k.weight.big : Int) := Int.natCast_nonneg _
    have z2 : (0 : Int) ≤ (k.alone.big : Int) := Int.natCast_nonneg _
    unfold beyK
    rw [w64 (x := n + _) (by omega) (by omega), w64 (x := n + _ + _) (by omega) (by omega), w64 (x := n + _ + _ + _) (by omega) (by omega), w64 (x := n + _ + _ + _ + _) (by omega) (by omega), w64 (x := n + _ + _ + _ + _ + _) (by omega) (by omega)]
    omega
  have sN : ∀ a ∈ g.agents, ∀ n, 0 ≤ n → n ≤ 4000000000000000000 → n ≤ beyN n a ∧ beyN n a ≤ n + 140737488355428 := fun a ha n h0 hB => by
    have w1 := (hg.a a ha).1
    have w2 := b4 a ha
    unfold beyN
    rw [w64 (x := n + _) (by omega) (by omega), w64 (x := n + _ + _) (by omega) (by omega)]
    omega
  have sA : ∀ a ∈ g.agents, ∀ n, 0 ≤ n → n ≤ 3000000000000000000 → n ≤ beyA n a ∧ beyA n a ≤ n + 18200000000000000 := fun a ha n h0 hB => by
    have w2 := b4 a ha
    obtain ⟨n1, n2⟩ := sN a ha n h0 (by omega)
    have := grow_l (f := beyK) (D := 180000000000000) (B := 4000000000000000000) a.kinds (fun m y hy h0 hB => by have := sK a ha y hy m h0 hB; omega) (beyN n a) (by omega) (by omega) (by omega)
    unfold beyA
    omega
  have sAk : ∀ a ∈ g.agents, ∀ k ∈ a.kinds, ∀ n, 0 ≤ n → n ≤ 3000000000000000000 → n + (k.worth.length : Int) ≤ beyA n a := fun a ha k hk' n h0 hB => by
    have w2 := b4 a ha
    obtain ⟨n1, n2⟩ := sN a ha n h0 (by omega)
    have := grow_at (f := beyK) (D := 180000000000000) (B := 4000000000000000000) a.kinds (fun m y hy h0 hB => by have := sK a ha y hy m h0 hB; omega) hk' (k.worth.length : Int) (fun m h0 hB => (sK a ha k hk' m h0 hB).1) (beyN n a) (by omega) (by omega) (by omega)
    unfold beyA
    omega
  have gA := grow_l (f := beyA) (D := 18200000000000000) (B := 3000000000000000000) g.agents (fun m y hy h0 hB => sA y hy m h0 hB) (beyO g) oO.1 (by omega) (by omega)
  have sD : ∀ d ∈ g.needs, ∀ n, 0 ≤ n → n ≤ 3000000000000000000 → n + (d.outs.length : Int) ≤ beyD n d ∧ n + (d.swap.length : Int) ≤ beyD n d ∧ beyD n d ≤ n + 40000000000000 := fun d hd n h0 hB => by
    have w1 := bigF_big (wideL_no (hn d hd) d.bound (by simp))
    have z1 : (0 : Int) ≤ (d.bound.big : Int) := Int.natCast_nonneg _
    obtain ⟨w2, w3⟩ := hfit.2 d hd
    unfold beyD
    rw [w64 (x := n + _) (by omega) (by omega), w64 (x := n + _ + _) (by omega) (by omega), w64 (x := n + _ + _ + _) (by omega) (by omega)]
    omega
  have gD := grow_l (f := beyD) (D := 40000000000000) (B := 3000000000000000000) g.needs (fun m y hy h0 hB => by have := sD y hy m h0 hB; omega) (g.agents.foldl beyA (beyO g)) (by omega) (by omega) (by omega)
  refine ⟨fun a ha k hk' => ?_, fun d hd => ?_⟩
  · have := grow_at (f := beyA) (D := 18200000000000000) (B := 3000000000000000000) g.agents (fun m y hy h0 hB => sA y hy m h0 hB) ha (k.worth.length : Int) (fun m h0 hB => sAk a ha k hk' m h0 hB) (beyO g) oO.1 (by omega) (by omega)
    omega
  · have h1 := grow_at (f := beyD) (D := 40000000000000) (B := 3000000000000000000) g.needs (fun m y hy h0 hB => by have := sD y hy m h0 hB; omega) hd (d.outs.length : Int) (fun m h0 hB => (sD d hd m h0 hB).1) (g.agents.foldl beyA (beyO g)) (by omega) (by omega) (by omega)
    have h2 := grow_at (f := beyD) (D := 40000000000000) (B := 3000000000000000000) g.needs (fun m y hy h0 hB => by have := sD y hy m h0 hB; omega) hd (d.swap.length : Int) (fun m h0 hB => (sD d hd m h0 hB).2.1) (g.agents.foldl beyA (beyO g)) (by omega) (by omega) (by omega)
    omega
end Go.Proofs.YtaljbebkooppiaaGreat.Sh

namespace Go.Proofs.YtaljbebkooppiaaGreat.Sh
open Go Go.RowKit
theorem lotV_ok (n o : Nat) : ∀ f ∈ lotV n o, f.ok := fun f hf => by
  unfold lotV at hf
  obtain ⟨i, -, rfl⟩ := List.mem_map.1 hf
  split
  · exact (frQ3 1 (by decide)).1
  · exact (frQ3 0 (by decide)).1
theorem cellV_ok (g : Gm) (x : Vn) (hx : x.pay.length ≤ 8) (hm : ∀ f ∈ x.pay, mz f.fix ≤ 6) (hg : g.outs.length ≤ 100) : (∀ f ∈ (cellV g x).lot, f.ok) ∧ (∀ f ∈ (cellV g x).pay, f.ok) ∧ (cellV g x).lot.length ≤ 1048576 ∧ (cellV g x).pay.length ≤ 1048576 := by
  refine ⟨lotV_ok _ _, fun f hf => ?_, ?_, ?_⟩
  · obtain ⟨f', h1, rfl⟩ := List.mem_map.1 (show f ∈ x.pay.map fxF from hf)
    have := cap_mz (show mz f'.fix ≤ 2048 by have := hm f' h1; omega)
    exact frQ_ok (by omega)
  · show (lotV g.outs.length x.out.toNat).length ≤ _
    rw [lotV_len]; omega
  · show (x.pay.map fxF).length ≤ _
    rw [List.length_map]; omega
set_option maxRecDepth 20000 in
set_option maxHeartbeats 4000000 in
theorem tells8_s (g : Gm) (hg : g.ok) (l : List Vn) (hl : l.length ≤ 140737488355328) (ho : ∀ x ∈ l, x.ok) (p : List Int) (hp : lenOk p) (hfit : g.fit) : CallsS Tryz.prog 4 [gmS g, viS l, .one (intsS p)] (B true) := by
  have hfar := far8_s g hg
  have hbey := bey8_s l hl ho
  refine calls Tryz.func4 rfl (by rfl) (by rfl) (by kernel_rfl) ?_
  simp -dsimp -implicitDefEqProofs [Tryz.f4]
  refine eCall.of hfar (by simp) ?_
  by_cases c1 : far8 g = true
  · simp -dsimp -implicitDefEqProofs [c1]
  simp -dsimp -implicitDefEqProofs [c1]
  refine eCall.of hbey (by simp) ?_
  have c3' : 20 < p.length ↔ (20 : Int) < (p.length : Int) := by omega
  by_cases c2 : bey8 l = true
  · simp -dsimp -implicitDefEqProofs [c2]
  by_cases c3 : (20 : Int) < (p.length : Int)
  · simp -dsimp -implicitDefEqProofs [c2, c3]
  have c1' : far8 g = false := by simpa using c1
  have c2' : bey8 l = false := by simpa using c2
  have hn := far8_near hg c1'
  obtain ⟨hb, hk, hnd⟩ := far8_no c1'
  obtain ⟨l80, hv, hpy⟩ := bey8_no c2' ho
  have hcop : ∀ {L : List FR}, wideL L = false → ∀ f ∈ L, f.cop := fun h f hf => bigF_cop (b := 6) (by decide) (wideL_no h f hf)
  obtain ⟨bl1, bl2, bl3, bl4⟩ := beyond_len hb
  have hsm := beyond_small hg hfit c1'
  have hgc : g.cop := by
    refine ⟨by omega, by omega, by omega, fun a ha => ⟨(hg.a a ha).1, by have := bl4 a ha; omega, fun k hk' => ?_⟩, fun s hs => hg.o s hs, fun n hn' => ?_⟩
    · have hf := hk a ha k hk'
      unfold farK8 at hf
      rw [Bool.or_eq_false_iff] at hf
      exact ⟨hcop hf.2 _ (by simp), hcop hf.2 _ (by simp), by have := hsm.1 a ha k hk'; omega, hcop hf.1⟩
    · have := hsm.2 n hn'
      exact ⟨hcop (hnd n hn') _ (by simp), by omega, by omega⟩
  have hlc : ∀ x ∈ l, x.cop := fun x hx => ⟨by have := (hv x hx).2.1; omega, by have := (hpy x hx).1; omega, fun f hf => bigF_cop (b := 4) (by decide) ((hpy x hx).2 f hf)⟩
  have hl1 : l.length ≤ 1048576 := by omega
  have hp1 : p.length ≤ 1048576 := by omega
  obtain ⟨e, he, e0⟩ := isTree_of g l
  obtain ⟨at', way, ep, hplay⟩ := isPlay_of g l p
  obtain ⟨d, ok, hob⟩ := isObv_of g l
  have hz : zF.ok := zF_ok
  have hdok : d.best.ok ∧ d.worst.ok := by
    rcases hob with ⟨-, rfl, -⟩ | ⟨⟨gG, gT⟩, ⟨i, k, hi, hda, -, -, rfl, -⟩ | ⟨-, rfl, -⟩⟩
    · exact ⟨hz, hz⟩
    · have hf := gG.fine hg hb
      have hen := hda.1
      obtain ⟨-, ea, la⟩ := gT.ask hi hen
      have a2' : k < g.agents[agV l i].kinds.length := by rw [← klA_eq la]; exact hda.2.1
      have hx := gT.next hi hen k
      have ho' := gT.other hi hen k
      have z1 := cap_mz (show mz (worstV g l (agV l i) k (nextV l i k)) ≤ 2048 by have := gT.worst13 hf hn hv la a2' hx.2; omega)
      have z2 := cap_mz (show mz (mostV g l (agV l i) k (otherV l i k)) ≤ 2048 by have := gT.most13 hf hn hv la a2' ho'.2.1; omega)
      exact ⟨frQ_ok (by omega), frQ_ok (by omega)⟩
    · exact ⟨hz, hz⟩
  have hway : way.length ≤ 1048576 := by
    rcases hplay with ⟨_, _, _, _, rfl, _⟩ | ⟨_, _, _, _, rfl, _⟩ | ⟨_, _, _, T, t1, _, _, _, rfl, _⟩
    · simp
    · simp
    · rw [wayL_len]; omega
  have hsd := sameDoubt_s d hdok.1 hdok.2
  have hsi := sameInts_s way way (by omega) (by omega)
  rw [decide_eq_true rfl] at hsi
  obtain ⟨R, eR, hR1, hR2, hR3⟩ : ∃ R eR, CallsS Tryz.prog 14 [gmS g, viS l] (.tup [ruS R, .one (.int .i64 eR)]) ∧ CallsS Tryz.prog 31 [gmS g, viS l] (.tup [ruS R, .one (.int .i64 eR)]) ∧ CallsS Tryz.prog 33 [ruS R, ruS R] (B true) := by
    by_cases h0 : e = 0
    · obtain ⟨gG, gT⟩ := e0.1 h0
      refine ⟨_, _, vruleof_s g hg hb l hl1 hv gT gG, rruleof_s g hg hb l hl1 hv gT gG, sameRule_self _ (fun c hc => ?_) ?_⟩
      · unfold ruleV at hc
        obtain ⟨q, hq, rfl⟩ := List.mem_map.1 hc
        refine cellV_ok g _ ?_ ?_ bl2
        · by_cases hi : endV l q < l.length
          · rw [vnAt_eq hi]; exact (hpy _ (List.getElem_mem hi)).1
          · unfold vnAt; rw [List.getElem?_eq_none (by omega)]; exact Nat.zero_le _
        · by_cases hi : endV l q < l.length
          · rw [vnAt_eq hi]; exact (hv _ (List.getElem_mem hi)).2.2
          · unfold vnAt; rw [List.getElem?_eq_none (by omega)]; intro f hf; cases hf
      · have h16 := (sizeOk_all (gG.fine hg hb).sz).2.2.2.2
        rw [ruleV, List.length_map, profs_length]; omega
    · exact ⟨_, _, vruleof_no g hg hb l hl1 hv e he h0, rruleof_no g hg hb l hl1 hv e he h0, sameRule_self _ (by simp) (by simp)⟩
  simp -dsimp -implicitDefEqProofs [c2, c3]
  refine eCall.of (copyGame_s g hgc) (by simp) ?_
  simp -dsimp -implicitDefEqProofs
  refine eCall.of (copyVine_s l hl1 hlc) (by simp) ?_
  simp -dsimp -implicitDefEqProofs
  refine eCall.of (cints_s p (by omega)) (by simp) ?_
  simp -dsimp -implicitDefEqProofs
  refine eCall.of (vright8_s g hg hb l hl1 hv e he) (by simp) ?_
  simp -dsimp -implicitDefEqProofs
  refine eCall.of (rright8_s g hg hb l hl1 hv e he) (by simp) ?_
  simp -dsimp -implicitDefEqProofs
  refine eCall.of awake8_s (by simp) ?_
  simp -dsimp -implicitDefEqProofs
  refine eCall.of (vplay_s g hg hb l hl1 hv p hp1 at' way ep hplay) (by simp) ?_
  simp -dsimp -implicitDefEqProofs
  refine eCall.of (rplay_s g hg hb l hl1 hv p hp1 at' way ep hplay) (by simp) ?_
  simp -dsimp -implicitDefEqProofs
  refine eCall.of hR1 (by simp) ?_
  simp -dsimp -implicitDefEqProofs
  refine eCall.of hR2 (by simp) ?_
  simp -dsimp -implicitDefEqProofs
  refine eCall.of hsi (by simp) ?_
  simp -dsimp -implicitDefEqProofs
  refine eCall.of hR3 (by simp) ?_
  simp -dsimp -implicitDefEqProofs
  refine eCall.of (vobvious_s g hg hb hn l hl1 hv d ok hob) (by simp) ?_
  simp -dsimp -implicitDefEqProofs
  refine eCall.of (robvious_s g hg hb hn l hl1 hv d ok hob) (by simp) ?_
  simp -dsimp -implicitDefEqProofs
  refine eCall.of hsd (by simp) ?_
  simp -dsimp -implicitDefEqProofs
end Go.Proofs.YtaljbebkooppiaaGreat.Sh

namespace Go.Proofs.YtaljbebkooppiaaGreat.Sh
open Go Go.RowKit
def shpFields : Shps := .cons 1 .bool (.cons 1 (.slice 1 (.int .u32)) (.cons 1 (.slice 1 (.int .u32)) .nil))
def shpFr : Shp := .agg shpFields
section
variable {H : Type}
theorem FR.ok_of {b : Bool} {n m : List Int} (ln : n.length ≤ 140737488351232) (lm : m.length ≤ 140737488351232) (wn : ∀ x ∈ n, (Lit.int .u32 x).wf = true) (wm : ∀ x ∈ m, (Lit.int .u32 x).wf = true) : (FR.mk b n m).ok :=
  ⟨fun x hx => wf_u32 (wn x hx), fun x hx => wf_u32 (wm x hx), by show n.length ≤ _; omega, by show m.length ≤ _; omega⟩
theorem fr_of_ok {d : DataW H} (hd : shpFr.ok d) : ∃ f : FR, shpFr.cells d = rowFr f ∧ f.ok := by
  obtain ⟨parts, rfl, d1, p1, rfl, ⟨h1, -⟩, d2, p2, rfl, ⟨h2, -⟩, d3, p3, rfl, ⟨h3, -⟩, rfl⟩ := hd
  obtain ⟨b, e1⟩ := bool_of_ok h1
  obtain ⟨n, e2, ln, wn⟩ := ints_of_ok h2
  obtain ⟨m, e3, lm, wm⟩ := ints_of_ok h3
  refine ⟨⟨b, n, m⟩, ?_, FR.ok_of ln lm wn wm⟩
  show Shp.bool.cells d1 ++ ((Shp.slice 1 (.int .u32)).cells d2 ++ ((Shp.slice 1 (.int .u32)).cells d3 ++ [])) = _
  rw [e1, e2, e3]; rfl
theorem frs_of_ok {d : DataW H} (hd : (Shp.slice 3 shpFr).ok d) : ∃ l : List FR, (Shp.slice 3 shpFr).cells d = [frsS l] ∧ l.length ≤ 140737488351232 ∧ ∀ f ∈ l, f.ok :=
  slice_of_ok (f := rowFr) (fun _ h => fr_of_ok h) hd
end
end Go.Proofs.YtaljbebkooppiaaGreat.Sh

namespace Go.Proofs.YtaljbebkooppiaaGreat.Sh
open Go Go.RowKit
def shpKd : Shp := .agg (.cons 1 .str (.cons 3 shpFr (.cons 3 shpFr (.cons 1 (.slice 3 shpFr) .nil))))
def shpAg : Shp := .agg (.cons 1 .str (.cons 1 (.slice 8 shpKd) .nil))
def shpNd : Shp := .agg (.cons 1 (.int .i64) (.cons 1 (.int .i64) (.cons 1 (.int .i64) (.cons 3 shpFr (.cons 1 (.slice 1 (.int .i64)) (.cons 1 (.slice 1 (.int .i64)) .nil))))))
def shpGm : Shp := .agg (.cons 1 (.slice 2 shpAg) (.cons 1 (.slice 1 .str) (.cons 1 .bool (.cons 1 .bool (.cons 1 (.int .i64) (.cons 1 (.slice 8 shpNd) .nil))))))
def shpCe : Shp := .agg (.cons 1 (.slice 3 shpFr) (.cons 1 (.slice 3 shpFr) .nil))
def shpRu : Shp := .agg (.cons 1 (.slice 2 shpCe) .nil)
section
variable {H : Type}
theorem str_of_ok {d : DataW H} (hd : Shp.str.ok d) : ∃ s : ByteArray, Shp.str.cells d = [.str s] ∧ s.size ≤ 140737488351232 := by
  obtain ⟨b, rfl, hb⟩ := hd
  exact ⟨⟨b.toArray⟩, rfl, by simpa [ByteArray.size] using hb⟩
theorem strs_of_ok {d : DataW H} (hd : (Shp.slice 1 .str).ok d) : ∃ l : List ByteArray, (Shp.slice 1 .str).cells d = [strsS l] ∧ l.length ≤ 140737488351232 ∧ ∀ s ∈ l, s.size ≤ 140737488351232 :=
  slice_of_ok (f := fun s => [.str s]) (fun _ h => str_of_ok h) hd
theorem i64s_of_ok {d : DataW H} (hd : (Shp.slice 1 (.int .i64)).ok d) : ∃ l : List Int, (Shp.slice 1 (.int .i64)).cells d = [intsS l] ∧ l.length ≤ 140737488351232 ∧ InI l := by
  obtain ⟨l, h1, h2, h3⟩ := ints_of_ok hd
  exact ⟨l, h1, h2, fun x hx => wf_i64 (h3 x hx)⟩
theorem i64_of_ok {d : DataW H} (hd : (Shp.int .i64).ok d) : ∃ n, (Shp.int .i64).cells d = [.int .i64 n] ∧ In64 n := by
  obtain ⟨n, h1, h2⟩ := int_of_ok hd
  exact ⟨n, h1, wf_i64 h2⟩
end
end Go.Proofs.YtaljbebkooppiaaGreat.Sh

