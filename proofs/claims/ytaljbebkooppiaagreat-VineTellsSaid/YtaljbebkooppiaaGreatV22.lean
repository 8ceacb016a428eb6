/- A part of the proof: R162, R163, R49, R50, R53, R51, R54, R52, R58, R59, R164, R165, R168 -/
import Derived.Test.YtaljbebkooppiaaGreatV21
import Derived.Test.YtaljbebkooppiaaGreatV8
import Derived.Test.YtaljbebkooppiaaGreatV18
import Derived.Test.YtaljbebkooppiaaGreatV9
import Derived.Test.YtaljbebkooppiaaGreatV19
set_option linter.unusedSimpArgs false
set_option linter.unusedVariables false
set_option linter.unusedSectionVars false
namespace Go.Proofs.YtaljbebkooppiaaGreat.Sh
open Go Go.RowKit
section
variable {g : Gm} {l : List Vn}
theorem TreeOk.endAt (h : TreeOk g l) {j : Nat} (hj : j < l.length) (he : isEndV l j = true) : EndOk g l[j] := by
  have := h.ends j hj (by rw [vnAt_eq hj]; exact (isEnd_true hj).1 he)
  rwa [vnAt_eq hj] at this
theorem useV_eq {a k j : Nat} (ha : a < g.agents.length) (hk : k < g.agents[a].kinds.length) (hj : j < l.length) : useV g l a k j = useX g.agents[a].kinds[k] l[j] a := by
  unfold useV useX
  rw [vnAt_eq hj, kdAt_eq ha hk]
theorem TreeOk.use13 (h : TreeOk g l) (hf : Fine g) (hn : Near g) (hv : NearV l) {a k j : Nat} (ha : a < g.agents.length) (hk : k < g.agents[a].kinds.length) (hj : j < l.length) (he : isEndV l j = true) : mz (useV g l a k j) ≤ 13 := by
  rw [useV_eq ha hk hj]
  obtain ⟨e1, e2, e3, -⟩ := h.endAt hj he
  have hw := ((hf.right.all _ (List.getElem_mem ha)).2.2 _ (List.getElem_mem hk)).2
  exact (use_mz hn (hv _ (List.getElem_mem hj)).2.2 ha hk (by omega) (by omega)).2
theorem TreeOk.worst13 (h : TreeOk g l) (hf : Fine g) (hn : Near g) (hv : NearV l) {a k i : Nat} (ha : a < g.agents.length) (hk : k < g.agents[a].kinds.length) (hi : i < l.length) : mz (worstV g l a k i) ≤ 13 := by
  obtain ⟨b1, b2⟩ := h.belowNe a (some k) _ i hi (Nat.le_refl _)
  obtain ⟨⟨x, hx, e⟩, -⟩ := lo_mem (useV g l a k) b1
  unfold worstV
  rw [e]
  exact h.use13 hf hn hv ha hk (b2 x hx).1 (b2 x hx).2
theorem TreeOk.most13 (h : TreeOk g l) (hf : Fine g) (hn : Near g) (hv : NearV l) {a k i : Nat} (ha : a < g.agents.length) (hk : k < g.agents[a].kinds.length) (hi : i < l.length) : mz (mostV g l a k i) ≤ 13 := by
  obtain ⟨b1, b2⟩ := h.belowNe a none _ i hi (Nat.le_refl _)
  obtain ⟨⟨x, hx, e⟩, -⟩ := hi_mem (useV g l a k) b1
  unfold mostV
  rw [e]
  exact h.use13 hf hn hv ha hk (b2 x hx).1 (b2 x hx).2
set_option maxRecDepth 20000 in
set_option maxHeartbeats 1000000 in
theorem rworst_s (h : TreeOk g l) (hf : Fine g) (hn : Near g) (hv : NearV l) (a k : Nat) (ha : a < g.agents.length) (hk : k < g.agents[a].kinds.length) : ∀ (d i : Nat), i < l.length → l.length - i ≤ d →
    CallsS Tryz.prog 88 [gmS g, viS l, .one (.int .i64 (i : Int)), .one (.int .i64 (a : Int)), .one (.int .i64 (k : Int))] (.v (fS (worstV g l a k i)))
  | 0, i, hi, hd => by omega
  | d + 1, i, hi, hd => by
    have hw := h.worst a k hi
    have hwo := ((hf.right.all _ (List.getElem_mem ha)).2.2 _ (List.getElem_mem hk)).2
    have hvi := hv _ (List.getElem_mem hi)
    refine calls Tryz.func88 rfl (by rfl) (by rfl) (by kernel_rfl) ?_
    cases he : isEndV l i with
    | true =>
      rw [he, if_pos rfl] at hw
      have e1 := (isEnd_true hi).1 he
      have hu := ruse_s g hf.ok hn l[i] hvi.1 hvi.2.2 (h.endAt hi he) a k ha hk hwo
      rw [← useV_eq ha hk hi, ← hw] at hu
      simp -dsimp -implicitDefEqProofs [Tryz.f88, hi, e1]
      refine eCall.of hu (by simp [e1]) ?_
      simp -dsimp -implicitDefEqProofs
    | false =>
      rw [he, if_neg (by simp)] at hw
      obtain ⟨-, ea, -⟩ := h.ask hi he
      rw [vnAt_eq hi] at ea
      obtain ⟨y, n, k1, k2, k3, k4, k5, k6, -⟩ := h.kids hi he
      have k1' : l[i].yes = (y : Int) := by rw [← vnAt_eq hi]; exact k1
      have k2' : l[i].no = (n : Int) := by rw [← vnAt_eq hi]; exact k2
      have ea0 : ¬ (agV l i : Int) = -1 := by omega
      have hh := rhas8_s l[i].part k (by omega)
      have iy := rworst_s h hf hn hv a k ha hk d y k4 (by omega)
      have in' := rworst_s h hf hn hv a k ha hk d n k6 (by omega)
      by_cases c : agV l i = a
      · rw [if_pos c] at hw
        have hnx : nextV l i k = if hasK l[i].part k then y else n := by
          unfold nextV; rw [vnAt_eq hi, k1', k2', Int.toNat_natCast, Int.toNat_natCast]
        rw [hnx] at hw
        simp -dsimp -implicitDefEqProofs [Tryz.f88, hi, ea, ea0, c]
        refine eCall.of hh (by simp) ?_
        cases hk' : hasK l[i].part k with
        | true =>
          rw [hk', if_pos rfl] at hw
          rw [← hw] at iy
          simp -dsimp -implicitDefEqProofs [k1']
          refine eCall.of iy (by simp) ?_
          simp -dsimp -implicitDefEqProofs
        | false =>
          rw [hk', if_neg (by simp)] at hw
          rw [← hw] at in'
          simp -dsimp -implicitDefEqProofs [k2']
          refine eCall.of in' (by simp) ?_
          simp -dsimp -implicitDefEqProofs
      · rw [if_neg c, k1, k2, Int.toNat_natCast, Int.toNat_natCast] at hw
        have c' : ¬ (agV l i : Int) = (a : Int) := by omega
        have z1 := cap_mz (show mz (worstV g l a k y) ≤ 2048 by have := h.worst13 hf hn hv ha hk k4; omega)
        have z2 := cap_mz (show mz (worstV g l a k n) ≤ 2048 by have := h.worst13 hf hn hv ha hk k6; omega)
        have hc := cmpR_s (frQ (worstV g l a k n)) (frQ (worstV g l a k y)) (frQ_ok (by omega)) (frQ_ok (by omega))
        rw [fix_frQ z1.2, fix_frQ z2.2] at hc
        simp -dsimp -implicitDefEqProofs [Tryz.f88, hi, ea, ea0, c, c', k1', k2']
        refine eCall.of iy (by simp) ?_
        simp -dsimp -implicitDefEqProofs
        refine eCall.of in' (by simp) ?_
        simp -dsimp -implicitDefEqProofs
        refine eCall.of hc (by simp [frQ, ng]) ?_
        unfold loS at hw
        by_cases c2 : worstV g l a k n < worstV g l a k y
        · rw [if_pos c2] at hw
          simp -dsimp -implicitDefEqProofs [cmpQ_neg.2 c2, hw]
        · rw [if_neg c2] at hw
          simp -dsimp -implicitDefEqProofs [mt cmpQ_neg.1 c2, hw]
set_option maxRecDepth 20000 in
set_option maxHeartbeats 1000000 in
theorem rbest_s (h : TreeOk g l) (hf : Fine g) (hn : Near g) (hv : NearV l) (a k : Nat) (ha : a < g.agents.length) (hk : k < g.agents[a].kinds.length) : ∀ (d i : Nat), i < l.length → l.length - i ≤ d →
    CallsS Tryz.prog 89 [gmS g, viS l, .one (.int .i64 (i : Int)), .one (.int .i64 (a : Int)), .one (.int .i64 (k : Int))] (.v (fS (mostV g l a k i)))
  | 0, i, hi, hd => by omega
  | d + 1, i, hi, hd => by
    have hw := h.most a k hi
    have hwo := ((hf.right.all _ (List.getElem_mem ha)).2.2 _ (List.getElem_mem hk)).2
    have hvi := hv _ (List.getElem_mem hi)
    refine calls Tryz.func89 rfl (by rfl) (by rfl) (by kernel_rfl) ?_
    cases he : isEndV l i with
    | true =>
      rw [he, if_pos rfl] at hw
      have e1 := (isEnd_true hi).1 he
      have hu := ruse_s g hf.ok hn l[i] hvi.1 hvi.2.2 (h.endAt hi he) a k ha hk hwo
      rw [← useV_eq ha hk hi, ← hw] at hu
      simp -dsimp -implicitDefEqProofs [Tryz.f89, hi, e1]
      refine eCall.of hu (by simp [e1]) ?_
      simp -dsimp -implicitDefEqProofs
    | false =>
      rw [he, if_neg (by simp)] at hw
      obtain ⟨-, ea, -⟩ := h.ask hi he
      rw [vnAt_eq hi] at ea
      obtain ⟨y, n, k1, k2, k3, k4, k5, k6, -⟩ := h.kids hi he
      have k1' : l[i].yes = (y : Int) := by rw [← vnAt_eq hi]; exact k1
      have k2' : l[i].no = (n : Int) := by rw [← vnAt_eq hi]; exact k2
      have ea0 : ¬ (agV l i : Int) = -1 := by omega
      have iy := rbest_s h hf hn hv a k ha hk d y k4 (by omega)
      have in' := rbest_s h hf hn hv a k ha hk d n k6 (by omega)
      rw [k1, k2, Int.toNat_natCast, Int.toNat_natCast] at hw
      have z1 := cap_mz (show mz (mostV g l a k y) ≤ 2048 by have := h.most13 hf hn hv ha hk k4; omega)
      have z2 := cap_mz (show mz (mostV g l a k n) ≤ 2048 by have := h.most13 hf hn hv ha hk k6; omega)
      have hc := cmpR_s (frQ (mostV g l a k n)) (frQ (mostV g l a k y)) (frQ_ok (by omega)) (frQ_ok (by omega))
      rw [fix_frQ z1.2, fix_frQ z2.2] at hc
      simp -dsimp -implicitDefEqProofs [Tryz.f89, hi, ea, ea0, k1', k2']
      refine eCall.of iy (by simp) ?_
      simp -dsimp -implicitDefEqProofs
      refine eCall.of in' (by simp) ?_
      simp -dsimp -implicitDefEqProofs
      refine eCall.of hc (by simp [frQ, ng]) ?_
      unfold hiS at hw
      by_cases c2 : mostV g l a k y < mostV g l a k n
      · rw [if_pos c2] at hw
        simp -dsimp -implicitDefEqProofs [cmpQ_pos.2 c2, hw]
      · rw [if_neg c2] at hw
        simp -dsimp -implicitDefEqProofs [mt cmpQ_pos.1 c2, hw]
end
end Go.Proofs.YtaljbebkooppiaaGreat.Sh

namespace Go.Proofs.YtaljbebkooppiaaGreat.Sh
open Go Go.RowKit
def itemsV (l : List Vn) (L : List Nat) : List (List SV) := L.map fun j => [vnS (vnAt l j)]
theorem itemsV_take (l : List Vn) {L : List Nat} {k : Nat} (h : k < L.length) : (itemsV l L).take (k + 1) = (itemsV l L).take k ++ [[vnS (vnAt l L[k])]] := by
  rw [takeSnoc _ k (by simpa [itemsV] using h)]; simp [itemsV]
def truI : Option Nat → Int
  | some k => (k : Int)
  | none => -1
def toDo (n : Nat) : List Nat → Nat
  | [] => 0
  | x :: s => 3 ^ (n - x) + toDo n s
theorem toDo_snoc (n : Nat) (s : List Nat) (x : Nat) : toDo n (s ++ [x]) = toDo n s + 3 ^ (n - x) := by
  induction s with
  | nil => simp [toDo]
  | cons y s ih => rw [List.cons_append, toDo, ih, toDo]; omega
theorem pow3 (n : Nat) : 0 < 3 ^ n := Nat.pow_pos (by decide)
theorem toDo_two {n x y o : Nat} (hx : x < n) (hy : x < y) (ho : x < o) : 3 ^ (n - o) + 3 ^ (n - y) < 3 ^ (n - x) := by
  have e : n - x = (n - x - 1) + 1 := by omega
  have h1 : 3 ^ (n - o) ≤ 3 ^ (n - x - 1) := Nat.pow_le_pow_right (by decide) (by omega)
  have h2 : 3 ^ (n - y) ≤ 3 ^ (n - x - 1) := Nat.pow_le_pow_right (by decide) (by omega)
  have h3 := pow3 (n - x - 1)
  rw [e, Nat.pow_succ]
  omega
structure StackOk (l : List Vn) (s : List Nat) : Prop where
  lt : ∀ x ∈ s, x < l.length
  low : ∀ p (h : p < s.length), p ≤ s[p]
theorem StackOk.len {l : List Vn} {s : List Nat} (h : StackOk l s) : s.length ≤ l.length := by
  rcases Nat.eq_zero_or_pos s.length with e | e
  · omega
  · have h1 := h.low (s.length - 1) (by omega)
    have h2 := h.lt _ (List.getElem_mem (show s.length - 1 < s.length by omega))
    omega
theorem StackOk.pop {l : List Vn} {s : List Nat} {x : Nat} (h : StackOk l (s ++ [x])) : StackOk l s ∧ x < l.length ∧ s.length ≤ x := by
  refine ⟨⟨fun y hy => h.lt y (List.mem_append_left _ hy), fun p hp => ?_⟩, h.lt x (by simp), ?_⟩
  · have := h.low p (by simp; omega)
    rwa [List.getElem_append_left hp] at this
  · have := h.low s.length (by simp)
    simpa using this
theorem StackOk.push {l : List Vn} {s : List Nat} (h : StackOk l s) {x : Nat} (h1 : x < l.length) (h2 : s.length ≤ x) : StackOk l (s ++ [x]) := by
  refine ⟨fun y hy => ?_, fun p hp => ?_⟩
  · rcases List.mem_append.1 hy with hy | hy
    · exact h.lt y hy
    · simp at hy; subst hy; exact h1
  · by_cases e : p < s.length
    · rw [List.getElem_append_left e]; exact h.low p e
    · obtain rfl : p = s.length := by simp at hp; omega
      simpa using h2
def restV (l : List Vn) (a : Nat) (tru : Option Nat) (s : List Nat) : List Nat := s.reverse.flatMap (belowV l a tru)
theorem restV_snoc (l : List Vn) (a : Nat) (tru : Option Nat) (s : List Nat) (x : Nat) : restV l a tru (s ++ [x]) = belowV l a tru x ++ restV l a tru s := by
  unfold restV; rw [List.reverse_append]; rfl
theorem snoc_of {α : Type} {s : List α} (h : s ≠ []) : ∃ s0 x, s = s0 ++ [x] := by
  rcases List.eq_nil_or_concat s with e | ⟨p, x, e⟩
  · exact absurd e h
  · exact ⟨p, x, by rw [e, List.concat_eq_append]⟩
theorem drop_cons {α : Type} {L r : List α} {k : Nat} {x : α} (h : L.drop k = x :: r) : ∃ hk : k < L.length, L[k] = x ∧ L.drop (k + 1) = r := by
  have hk : k < L.length := by
    rcases Nat.lt_or_ge k L.length with h' | h'
    · exact h'
    · rw [List.drop_eq_nil_of_le h'] at h; cases h
  rw [List.drop_eq_getElem_cons hk] at h
  exact ⟨hk, (List.cons.inj h).1, (List.cons.inj h).2⟩
def cellsI (s : List Nat) : List S1 := s.map fun x : Nat => S1.int .i64 (x : Int)
structure EndSt (l : List Vn) (a : Nat) (tru : Option Nat) (L : List Nat) (k : Nat) (s : List Nat) (X : List S1) : Prop where
  st : StackOk l s
  rest : L.drop k = restV l a tru s
  xl : s.length ≤ X.length
  xt : X.take s.length = cellsI s
set_option maxRecDepth 20000 in
set_option maxHeartbeats 2000000 in
theorem ends1_it {g : Gm} {l : List Vn} (h : TreeOk g l) (hv : NearV l) (a : Nat) (tru : Option Nat) (htr : ∀ k, tru = some k → k < 1048576) (i0 : Nat) (hi0 : i0 < l.length) :
    IterS Tryz.prog 122 [.rp true [.int .i64 (i0 : Int)], .rp true [vnsS l], .rp true [.int .i64 (a : Int)], .rp true [.int .i64 (truI tru)]] (itemsV l (belowV l a tru i0)) := by
  have hll := h.len
  refine iterS Tryz.func122 rfl (by rfl) (by kernel_rfl) (by rfl) (by kernel_rfl) ?_
  intro v J S base hy
  simp -dsimp -implicitDefEqProofs [Tryz.f122]
  refine sw_loop_e (fun q : {q : Nat × Nat × Nat × List Nat × List S1 // EndSt l a tru (belowV l a tru i0) q.1 q.2.2.2.1 q.2.2.2.2} => (SS.of [(0, .v (.one (.val v))), (2, .v (.one (.rp true [vnsS l]))), (3, .v (.one (.rp true [.int .i64 (a : Int)]))), (4, .v (.one (.rp true [.int .i64 (truI tru)]))), (6, .v (.one (.ms q.1.2.1 0 q.1.2.2.2.1.length 1 true)))] [(q.1.2.1, ⟨3, q.1.2.2.2.2⟩)] (q.1.2.1 + q.1.2.2.1 + 1)).wx ⟨[], J ((itemsV l (belowV l a tru i0)).take q.1.1), base⟩)
    (fun q => toDo l.length q.1.2.2.2.1) ⟨(0, 0, 0, [i0], [.int .i64 (i0 : Int)]), ⟨⟨fun x hx => by simp at hx; subst hx; exact hi0, fun p hp => by simp at hp; subst hp; simp⟩, by simp [restV], by simp, rfl⟩⟩ (by kernel_rfl) (Le.toX (by simp) (by simp) (by simp) (by simp)) ?_
  rintro ⟨⟨k, c, d, s, X⟩, hst, hre, hxl, hxt⟩
  simp only at hst hre hxl hxt
  by_cases s0 : s = []
  · subst s0
    simp -dsimp -implicitDefEqProofs
    refine .inl ?_
    have hkl : (belowV l a tru i0).length ≤ k := by
      have e : (belowV l a tru i0).drop k = [] := hre
      exact List.drop_eq_nil_iff.1 e
    rw [List.take_of_length_le (by simpa [itemsV] using hkl)]
  obtain ⟨r, x, rfl⟩ := snoc_of s0
  obtain ⟨p1, p2, p3⟩ := hst.pop
  rw [restV_snoc] at hre
  have hrl := p1.len
  simp only [List.length_append, List.length_cons, List.length_nil] at hxl hxt
  have hxr : X[r.length]? = some (.int .i64 (x : Int)) := by
    have : (X.take (r.length + 1))[r.length]? = X[r.length]? := by rw [List.getElem?_take, if_pos (by omega)]
    rw [← this, hxt]
    simp [cellsI]
  have hxt2 : X.take r.length = cellsI r := by
    have : (X.take (r.length + 1)).take r.length = X.take r.length := by rw [List.take_take, Nat.min_eq_left (by omega)]
    rw [← this, hxt]
    simp [cellsI]
  have wl : IntKind.i64.wrap (((r.length : Int) + 1) - 1) = (r.length : Int) := by rw [wrap_i64 _ (by omega) (by omega)]; omega
  have wl' : IntKind.i64.wrap (r.length : Int) = (r.length : Int) := wrap_i64 _ (by omega) (by omega)
  have hve := vnAt_eq p2
  have n1 : ¬ c = c + d + 1 := by omega
  have n1' : ¬ c + d + 1 = c := by omega
  have n3 : ¬ c = c + d + 3 := by omega
  have xr' : r.length < X.length := by omega
  have xle : r.length ≤ X.length := by omega
  cases he : isEndV l x with
  | true =>
    have e1 := (isEnd_true p2).1 he
    rw [h.below a tru p2, he, if_pos rfl] at hre
    obtain ⟨hk, g1, g2⟩ := drop_cons (by simpa using hre)
    have hyi := hy ((itemsV l (belowV l a tru i0)).take k) [vnS (vnAt l x)] (by rw [← g1, ← itemsV_take l hk]; exact List.take_prefix _ _)
    rw [← g1, ← itemsV_take l hk, g1] at hyi
    simp -dsimp -implicitDefEqProofs [wl, wl', hxr, p2, e1]
    refine ⟨by omega, by omega, ?_⟩
    refine spec_yield (v := v) (args := [vnS (vnAt l x)]) (C1 := J ((itemsV l (belowV l a tru i0)).take (k + 1))) (C2 := S) (by simp) (by simpa using hyi) (by simp [hve, e1]) ?_ ?_
    · simp -dsimp -implicitDefEqProofs
      exact Again.by ⟨(k + 1, c, d + 1, r, X), ⟨p1, g2, xle, hxt2⟩⟩ (Le.toX (by simp) (by simp [n1]) (by simp; omega) (by simp)) (by simp only; rw [toDo_snoc]; have := pow3 (l.length - x); omega)
    · simp -dsimp -implicitDefEqProofs
  | false =>
    obtain ⟨-, ea, -⟩ := h.ask p2 he
    rw [hve] at ea
    obtain ⟨y, n, k1, k2, k3, k4, k5, k6, -⟩ := h.kids p2 he
    have k1' : l[x].yes = (y : Int) := by rw [← hve]; exact k1
    have k2' : l[x].no = (n : Int) := by rw [← hve]; exact k2
    have ea0 : ¬ (agV l x : Int) < 0 := by omega
    have xne : ¬ X.length = r.length := by omega
    have two : restV l a tru (r ++ [n] ++ [y]) = belowV l a tru y ++ belowV l a tru n ++ restV l a tru r := by
      rw [restV_snoc, restV_snoc, List.append_assoc]
    have push2 : StackOk l (r ++ [n] ++ [y]) := (p1.push k6 (by omega)).push k4 (by simp; omega)
    have hx2 : ∀ u v' : Nat, (cellsI r ++ [S1.int .i64 (u : Int), S1.int .i64 (v' : Int)]) = cellsI (r ++ [u] ++ [v']) := fun u v' => by simp [cellsI]
    have hcl : (cellsI r).length = r.length := by simp [cellsI]
    have both : belowV l a tru x = belowV l a tru y ++ belowV l a tru n → EndSt l a tru (belowV l a tru i0) k (r ++ [n] ++ [y]) (cellsI (r ++ [n] ++ [y])) := fun hbe =>
      ⟨push2, by rw [hre, hbe, two], by simp [cellsI], List.take_of_length_le (by simp [cellsI])⟩
    have hbl := h.below a tru p2
    rw [he, if_neg (by simp)] at hbl
    have mes : toDo l.length (r ++ [n] ++ [y]) < toDo l.length (r ++ [x]) := by
      rw [toDo_snoc, toDo_snoc, toDo_snoc]
      have := toDo_two (n := l.length) p2 k3 k5
      omega
    have n2 : ¬ c = c + d + 1 + 1 := by omega
    have hlen2 : r.length + 2 = (r ++ [n] ++ [y]).length := by simp
    by_cases c1 : agV l x = a
    · have a0 : ¬ (a : Int) < 0 := by omega
      have c1' : (agV l x : Int) = (a : Int) := by omega
      cases tru with
      | none =>
        rw [k1, k2, Int.toNat_natCast, Int.toNat_natCast] at hbl
        simp -dsimp -implicitDefEqProofs [wl, wl', hxr, p2, ea, ea0, c1, c1', a0, truI, k1', k2', slots, n1, n2, xne, xle, hxt2]
        refine ⟨by omega, by omega, by omega, ?_⟩
        exact Again.by ⟨(k, c + d + 3, 0, r ++ [n] ++ [y], cellsI (r ++ [n] ++ [y])), both hbl⟩ (Le.toX (by simp [truI]) (by simp [hx2]) (by simp) (by simp)) (by simpa using mes)
      | some kk =>
        simp only at hbl
        rw [if_pos c1] at hbl
        have hkb := htr kk rfl
        have hx := h.next p2 he kk
        have hvn := vnext_s l[x] kk (by have := (hv _ (List.getElem_mem p2)).2.1; omega)
        rw [h.nextI p2 he kk] at hvn
        have kk0 : (0 : Int) ≤ (kk : Int) := by omega
        have push1 := p1.push hx.2 (by omega)
        have mes1 : toDo l.length (r ++ [nextV l x kk]) < toDo l.length (r ++ [x]) := by
          rw [toDo_snoc, toDo_snoc]
          have := toDo_two (n := l.length) p2 hx.1 hx.1
          have := pow3 (l.length - nextV l x kk)
          omega
        simp -dsimp -implicitDefEqProofs [wl, wl', hxr, p2, ea, ea0, c1, c1', a0, kk0, truI, k1', k2', n1, n2, xne, xle, hxt2]
        refine ⟨by omega, by omega, ?_⟩
        refine eCall.of hvn (by simp [ea, c1, c1', k1', k2']) ?_
        simp -dsimp -implicitDefEqProofs [slots, n1, n2, xne, xle, hxt2]
        refine ⟨by omega, ?_⟩
        exact Again.by ⟨(k, c + d + 3, 0, r ++ [nextV l x kk], cellsI (r ++ [nextV l x kk])), ⟨push1, by rw [hre, hbl, restV_snoc], by simp [cellsI], List.take_of_length_le (by simp [cellsI])⟩⟩ (Le.toX (by simp [truI]) (by simp [cellsI]) (by simp) (by simp)) (by simpa using mes1)
    · have hbl : belowV l a tru x = belowV l a tru y ++ belowV l a tru n := by
        rw [k1, k2, Int.toNat_natCast, Int.toNat_natCast] at hbl
        cases tru with
        | none => exact hbl
        | some kk => simp only at hbl; rw [if_neg c1] at hbl; exact hbl
      have c1' : ¬ (agV l x : Int) = (a : Int) := by omega
      simp -dsimp -implicitDefEqProofs [wl, wl', hxr, p2, ea, ea0, c1', c1, k1', k2', slots, n1, n2, xne, xle, hxt2]
      refine ⟨by omega, by omega, by omega, ?_⟩
      exact Again.by ⟨(k, c + d + 3, 0, r ++ [n] ++ [y], cellsI (r ++ [n] ++ [y])), both hbl⟩ (Le.toX (by simp) (by simp [hx2]) (by simp) (by simp)) (by simpa using mes)
end Go.Proofs.YtaljbebkooppiaaGreat.Sh

namespace Go.Proofs.YtaljbebkooppiaaGreat.Sh
open Go Go.RowKit
structure Li where
  agent : Int
  kind : Int
  told : Int
  prof : List Int
  gain : Rat
@[simp] def rowLi (l : Li) : List S1 := .int .i64 l.agent :: .int .i64 l.kind :: .int .i64 l.told :: intsS l.prof :: rowFr (frQ l.gain)
@[simp] def liS (l : Li) : SV := .agg (rowLi l)
@[simp] def lisS (l : List Li) : S1 := .sl true 7 (l.map rowLi)
def Li.ok (l : Li) : Prop := lenOk l.prof ∧ sz l.gain ≤ 4096
def lieAt (g : Gm) (r : List Ce) (a n told : Nat) : Li := ⟨a, kOf g n a, told, atG g n, gainQ g r a n told⟩
def noLi (a k : Int) : Li := ⟨a, k, -1, [], 0⟩
end Go.Proofs.YtaljbebkooppiaaGreat.Sh

namespace Go.Proofs.YtaljbebkooppiaaGreat.Sh
open Go Go.RowKit
@[simp] def tb0 : SV := .agg [.nils, .nils, .bool false, .bool false, .int .i64 0, .nils, .nils, .nils]
end Go.Proofs.YtaljbebkooppiaaGreat.Sh

namespace Go.Proofs.YtaljbebkooppiaaGreat.Sh
open Go Go.RowKit
def itemP (L : List (List Int)) (i : Nat) : List SV := [.one (.int .i64 (i : Int)), .one (intsS (L.getD i []))]
def itemsP (L : List (List Int)) : List (List SV) := (List.range L.length).map (itemP L)
end Go.Proofs.YtaljbebkooppiaaGreat.Sh

namespace Go.Proofs.YtaljbebkooppiaaGreat.Sh
open Go Go.RowKit
def kl (g : Gm) (a : Nat) : Nat := ((g.agents[a]?).map fun A => A.kinds.length).getD 0
section
variable (g : Gm) (r : List Ce)
def NoN (a n : Nat) : Prop := ∀ t, t < kl g a → ¬ 0 < gainQ g r a n t
def NoA (a : Nat) : Prop := ∀ n, n < r.length → NoN g r a n
structure FirstAt (a n t : Nat) : Prop where
  ha : a < g.agents.length
  hn : n < r.length
  ht : t < kl g a
  pos : 0 < gainQ g r a n t
  a0 : ∀ a', a' < a → NoA g r a'
  n0 : ∀ n', n' < n → NoN g r a n'
  t0 : ∀ t', t' < t → ¬ 0 < gainQ g r a n t'
def isTr (l : Li) (ok : Bool) : Prop := (∃ a n t, FirstAt g r a n t ∧ l = lieAt g r a n t ∧ ok = false) ∨ ((∀ a, a < g.agents.length → NoA g r a) ∧ l = noLi 0 0 ∧ ok = true)
end
theorem FirstAt.uniq {g : Gm} {r : List Ce} {a n t a' n' t' : Nat} (h : FirstAt g r a n t) (h' : FirstAt g r a' n' t') : a = a' ∧ n = n' ∧ t = t' := by
  have e1 : a = a' := by
    rcases Nat.lt_trichotomy a a' with c | c | c
    · exact absurd h.pos (h'.a0 a c n h.hn t h.ht)
    · exact c
    · exact absurd h'.pos (h.a0 a' c n' h'.hn t' h'.ht)
  subst e1
  have e2 : n = n' := by
    rcases Nat.lt_trichotomy n n' with c | c | c
    · exact absurd h.pos (h'.n0 n c t h.ht)
    · exact c
    · exact absurd h'.pos (h.n0 n' c t' h'.ht)
  subst e2
  refine ⟨rfl, rfl, ?_⟩
  rcases Nat.lt_trichotomy t t' with c | c | c
  · exact absurd h.pos (h'.t0 t c)
  · exact c
  · exact absurd h'.pos (h.t0 t' c)
theorem isTr.at {g : Gm} {r : List Ce} {l : Li} {ok : Bool} (h : isTr g r l ok) {a n t : Nat} (hf : FirstAt g r a n t) : l = lieAt g r a n t ∧ ok = false := by
  rcases h with ⟨a', n', t', h1, h2, h3⟩ | ⟨h1, -, -⟩
  · obtain ⟨rfl, rfl, rfl⟩ := hf.uniq h1
    exact ⟨h2, h3⟩
  · exact absurd hf.pos (h1 a hf.ha n hf.hn t hf.ht)
theorem isTr.none {g : Gm} {r : List Ce} {l : Li} {ok : Bool} (h : isTr g r l ok) (hn : ∀ a, a < g.agents.length → NoA g r a) : l = noLi 0 0 ∧ ok = true := by
  rcases h with ⟨a', n', t', h1, h2, h3⟩ | ⟨-, h2, h3⟩
  · exact absurd h1.pos (hn a' h1.ha n' h1.hn t' h1.ht)
  · exact ⟨h2, h3⟩
@[simp] def li0 : SV := .agg [.int .i64 0, .int .i64 0, .int .i64 0, .nils, .bool false, .nils, .nils]
end Go.Proofs.YtaljbebkooppiaaGreat.Sh

namespace Go.Proofs.YtaljbebkooppiaaGreat.Sh
open Go Go.RowKit
def liesP (g : Gm) (r : List Ce) (a n p : Nat) : List Li := ((List.range p).filter fun t => t != kOf g n a).map fun t => lieAt g r a n t
def liesN (g : Gm) (r : List Ce) (a n : Nat) : List Li := liesP g r a n (kl g a)
def liesL (g : Gm) (r : List Ce) (a : Nat) : List Li := (List.range r.length).flatMap (liesN g r a)
def itemsL (l : List Li) : List (List SV) := l.map fun x => [liS x]
def liesTo (g : Gm) (r : List Ce) (a n : Nat) : List Li := (List.range n).flatMap (liesN g r a)
end Go.Proofs.YtaljbebkooppiaaGreat.Sh

namespace Go.Proofs.YtaljbebkooppiaaGreat.Sh
open Go Go.RowKit
def bst (b l : Li) : Li := if b.gain < l.gain then l else b
def bestT (g : Gm) (r : List Ce) (a n : Nat) (z : Li) (t : Nat) : Li := (List.range t).foldl (fun b t => bst b (lieAt g r a n t)) z
def bestN (g : Gm) (r : List Ce) (a n : Nat) : Li := (List.range n).foldl (fun b n => bestT g r a n b (kl g a)) (noLi a 0)
def gainsL (g : Gm) (r : List Ce) : List Li := (List.range g.agents.length).map fun (a : Nat) => bestN g r a r.length
instance : RowF 7 rowLi := ⟨fun _ => rfl, fun x s h => by simp at h; rcases h with rfl | rfl | rfl | rfl | rfl | rfl | rfl <;> rfl⟩
end Go.Proofs.YtaljbebkooppiaaGreat.Sh

namespace Go.Proofs.YtaljbebkooppiaaGreat.Sh
open Go Go.RowKit
def mst {α : Type} (ahd : α → α → Bool) (b : Option α) (x : α) : Option α := match b with
  | none => some x
  | some y => if ahd x y = true then some x else some y
def gtL (x y : Li) : Bool := decide (y.gain < x.gain)
def orNo (a : Nat) (m : Option Li) : Li := match m with
  | none => noLi a 0
  | some l => if 0 < l.gain then l else noLi a 0
def topL (g : Gm) (r : List Ce) (a : Nat) : Option Li := (liesL g r a).foldl (mst gtL) none
end Go.Proofs.YtaljbebkooppiaaGreat.Sh

namespace Go.Proofs.YtaljbebkooppiaaGreat.Sh
open Go Go.RowKit
def rowO : Option Li → List S1
  | none => [.int .i64 0, .int .i64 0, .int .i64 0, .nils, .bool false, .nils, .nils]
  | some l => rowLi l
@[simp] theorem rowO_none : rowO none = [.int .i64 0, .int .i64 0, .int .i64 0, .nils, .bool false, .nils, .nils] := rfl
@[simp] theorem rowO_some (l : Li) : rowO (some l) = rowLi l := rfl
def rowM : Option Rat → List S1
  | none => [.bool false, .nils, .nils]
  | some q => rowFr (frQ q)
@[simp] theorem rowM_none : rowM none = [.bool false, .nils, .nils] := rfl
@[simp] theorem rowM_some (q : Rat) : rowM (some q) = rowFr (frQ q) := rfl
def itemsQ (l : List Rat) : List (List SV) := l.map fun q => [fS q]
end Go.Proofs.YtaljbebkooppiaaGreat.Sh

namespace Go.Proofs.YtaljbebkooppiaaGreat.Sh
open Go Go.RowKit
theorem cmpQ_three (p q : Rat) : cmpQ p q = -1 ∨ cmpQ p q = 0 ∨ cmpQ p q = 1 := by
  rw [cmpQ_num]
  split
  · exact .inl rfl
  · split
    · exact .inr (.inl rfl)
    · exact .inr (.inr rfl)
theorem cmpQ_m1 {p q : Rat} : cmpQ p q = -1 ↔ p < q := by
  rw [← cmpQ_neg]
  have := cmpQ_three p q
  omega
theorem cmpQ_p1 {p q : Rat} : cmpQ p q = 1 ↔ q < p := by
  rw [← cmpQ_pos]
  have := cmpQ_three p q
  omega
def stQ (sgn : Int) (b x : Rat) : Rat := if cmpQ x b = sgn then x else b
theorem stQ_lo : stQ (-1) = loS := by
  funext b x; unfold stQ loS
  by_cases c : x < b
  · rw [if_pos (cmpQ_m1.2 c), if_pos c]
  · rw [if_neg (mt cmpQ_m1.1 c), if_neg c]
theorem stQ_hi : stQ 1 = hiS := by
  funext b x; unfold stQ hiS
  by_cases c : b < x
  · rw [if_pos (cmpQ_p1.2 c), if_pos c]
  · rw [if_neg (mt cmpQ_p1.1 c), if_neg c]
def bsx (sgn : Int) (u : Nat → Rat) (o : Option Rat) (x : Nat) : Option Rat := match o with
  | none => some (u x)
  | some b => some (stQ sgn b (u x))
theorem bsx_some (sgn : Int) (u : Nat → Rat) : ∀ (l : List Nat) (b : Rat), l.foldl (bsx sgn u) (some b) = some ((l.map u).foldl (stQ sgn) b)
  | [], _ => rfl
  | x :: l, b => by rw [List.foldl_cons, List.map_cons, List.foldl_cons]; exact bsx_some sgn u l _
def extQ (sgn : Int) (u : Nat → Rat) : List Nat → Rat
  | [] => 0
  | x :: l => (l.map u).foldl (stQ sgn) (u x)
theorem bsx_ext (sgn : Int) (u : Nat → Rat) {L : List Nat} (h : L ≠ []) : L.foldl (bsx sgn u) none = some (extQ sgn u L) := by
  cases L with
  | nil => exact absurd rfl h
  | cons x l => rw [List.foldl_cons]; exact bsx_some sgn u l _
theorem extQ_lo (u : Nat → Rat) (L : List Nat) : extQ (-1) u L = loQ u L := by cases L <;> simp [extQ, loQ, stQ_lo]
theorem extQ_hi (u : Nat → Rat) (L : List Nat) : extQ 1 u L = hiQ u L := by cases L <;> simp [extQ, hiQ, stQ_hi]
theorem stQ_or (sgn : Int) (b x : Rat) : stQ sgn b x = b ∨ stQ sgn b x = x := by unfold stQ; split <;> simp
theorem bsx_mem (sgn : Int) (u : Nat → Rat) : ∀ (L : List Nat) (o : Option Rat) (y : Rat), L.foldl (bsx sgn u) o = some y → (∃ x ∈ L, y = u x) ∨ o = some y
  | [], o, y, h => .inr h
  | x :: L, o, y, h => by
    rw [List.foldl_cons] at h
    rcases bsx_mem sgn u L _ y h with ⟨z, hz, e⟩ | h
    · exact .inl ⟨z, List.mem_cons_of_mem _ hz, e⟩
    · unfold bsx at h
      cases o with
      | none => exact .inl ⟨x, by simp, by simpa using h.symm⟩
      | some b =>
        simp only [Option.some.injEq] at h
        rcases stQ_or sgn b (u x) with e | e
        · exact .inr (by rw [← h, e])
        · exact .inl ⟨x, by simp, by rw [← h, e]⟩
set_option maxRecDepth 20000 in
theorem vends_s (l : List Vn) (i a : Nat) (tru : Option Nat) : CallsS Tryz.prog 58 [viS l, .one (.int .i64 (i : Int)), .one (.int .i64 (a : Int)), .one (.int .i64 (truI tru))] (.v (.one (.fn 122 [.rp true [.int .i64 (i : Int)], .rp true [vnsS l], .rp true [.int .i64 (a : Int)], .rp true [.int .i64 (truI tru)]]))) := by
  refine calls Tryz.func58 rfl (by rfl) (by rfl) (by kernel_rfl) ?_
  simp -dsimp -implicitDefEqProofs [Tryz.f58]
set_option maxRecDepth 20000 in
set_option maxHeartbeats 1000000 in
theorem vextreme_s {g : Gm} {l : List Vn} (h : TreeOk g l) (hf : Fine g) (hn : Near g) (hv : NearV l) (a k : Nat) (ha : a < g.agents.length) (hk : k < g.agents[a].kinds.length) (sgn : Int) (L : List Nat) (hL : L ≠ []) (hE : ∀ j ∈ L, j < l.length ∧ isEndV l j = true)
    {f : Nat} {caps : List S1} (hit : IterS Tryz.prog f caps (itemsV l L)) : CallsS Tryz.prog 57 [gmS g, .one (.int .i64 (a : Int)), .one (.int .i64 (k : Int)), .one (.int .i64 sgn), .one (.fn f caps)] (.v (fS (extQ sgn (useV g l a k) L))) := by
  have hil : (itemsV l L).length = L.length := by simp [itemsV]
  have hfull : ∀ {b : Nat}, L.length ≤ b → L.take b = L := fun h => List.take_of_length_le h
  have hwo := ((hf.right.all _ (List.getElem_mem ha)).2.2 _ (List.getElem_mem hk)).2
  refine calls Tryz.func57 rfl (by rfl) (by rfl) (by kernel_rfl) ?_
  simp -dsimp -implicitDefEqProofs [Tryz.f57]
  refine sw_range_e [0, 1, 2, 3, 4, 5, 6] (fun n => SS.of [(5, .v (.one (.mp 0 0))), (6, .v (.one (.mp 1 0))), (7, .v (.one (.mp 2 0))), (8, .v (.one (.mp 3 0))), (10, .v (.one (.mp 4 0))), (11, .v (.one (.mp 5 0))), (12, .v (.one (.mp 6 0))), (15, .v (.one (.fn f caps)))] [(0, ⟨31, rowGm g⟩), (1, ⟨3, [.int .i64 (a : Int)]⟩), (2, ⟨3, [.int .i64 (k : Int)]⟩), (3, ⟨3, [.int .i64 sgn]⟩), (4, ⟨26, rowM none⟩), (5, ⟨26, rowM ((L.take n).foldl (bsx sgn (useV g l a k)) none)⟩), (6, ⟨4, [.bool ((L.take n).foldl (bsx sgn (useV g l a k)) none).isSome]⟩)] 7)
    hit (by simp) (by kernel_rfl) (fun it hit => by obtain ⟨i, -, rfl⟩ := List.mem_map.1 hit; rfl) (Le.to (by simp) (by simp) (by simp)) (fun n => ⟨rfl, rfl, ?_, ?_, rfl, rfl⟩) (fun n w0 ok0 hb => stable_nil) ?_ ?_
  · intro o ob ho
    simp at ho
    grind
  · cases hm : (L.take n).foldl (bsx sgn (useV g l a k)) none <;> simp
  · intro n hnl
    rw [hil] at hnl
    obtain ⟨j1, j2⟩ := hE _ (List.getElem_mem hnl)
    have hx : (itemsV l L)[n]'(by omega) = [vnS l[L[n]]] := by simp [itemsV, vnAt_eq j1]
    have hvj := hv _ (List.getElem_mem j1)
    have hu := vuse_s g hf.ok hn l[L[n]] hvj.1 hvj.2.2 (h.endAt j1 j2) a k ha hk hwo
    rw [← useV_eq ha hk j1] at hu
    have z1 := cap_mz (show mz (useV g l a k L[n]) ≤ 2048 by have := h.use13 hf hn hv ha hk j1 j2; omega)
    rw [hx, List.take_add_one, List.getElem?_eq_getElem hnl, Option.toList_some, List.foldl_append]
    cases hm : (L.take n).foldl (bsx sgn (useV g l a k)) none with
    | none =>
      simp -dsimp -implicitDefEqProofs
      refine eCall.of hu (by simp) ?_
      simp -dsimp -implicitDefEqProofs [bsx, frQ, ng]
    | some y =>
      have hy : ∃ x ∈ L, y = useV g l a k x := by
        rcases bsx_mem sgn _ _ _ _ hm with ⟨x, hx, e⟩ | e
        · exact ⟨x, List.mem_of_mem_take hx, e⟩
        · cases e
      obtain ⟨x, hxL, rfl⟩ := hy
      obtain ⟨x1, x2⟩ := hE x hxL
      have z2 := cap_mz (show mz (useV g l a k x) ≤ 2048 by have := h.use13 hf hn hv ha hk x1 x2; omega)
      have hc := fcmp_s (frQ (useV g l a k L[n])) (frQ (useV g l a k x)) (frQ_ok (by omega)) (frQ_ok (by omega))
      rw [fix_frQ z1.2, fix_frQ z2.2] at hc
      simp -dsimp -implicitDefEqProofs
      refine eCall.of hu (by simp) ?_
      simp -dsimp -implicitDefEqProofs
      refine eCall.of hc (by simp [frQ, ng]) ?_
      by_cases c : cmpQ (useV g l a k L[n]) (useV g l a k x) = sgn
      · simp -dsimp -implicitDefEqProofs [c, bsx, stQ, frQ, ng]
      · simp -dsimp -implicitDefEqProofs [c, bsx, stQ, frQ, ng]
  · rw [hil]
    simp only [hfull (Nat.le_refl _)]
    rw [bsx_ext sgn _ hL]
    simp -dsimp -implicitDefEqProofs [frQ, ng]
end Go.Proofs.YtaljbebkooppiaaGreat.Sh

namespace Go.Proofs.YtaljbebkooppiaaGreat.Sh
open Go Go.RowKit
structure Db where
  node : Int
  kind : Int
  best : FR
  worst : FR
def zF : FR := ⟨false, [], []⟩
@[simp] def rowDb (d : Db) : List S1 := [.int .i64 d.node, .int .i64 d.kind, .bool d.best.neg, wS d.best.num, wS d.best.den, .bool d.worst.neg, wS d.worst.num, wS d.worst.den]
@[simp] def dbS (d : Db) : SV := .agg (rowDb d)
def isObv (g : Gm) (l : List Vn) (d : Db) (ok : Bool) : Prop :=
  (¬ (GmOk g ∧ TreeOk g l) ∧ d = ⟨-1, 0, zF, zF⟩ ∧ ok = false) ∨
  ((GmOk g ∧ TreeOk g l) ∧ ((∃ i k : Nat, i < l.length ∧ DoubtAt g l i k ∧ (∀ k', k' < k → ¬ DoubtAt g l i k') ∧ (∀ i' k', i' < i → ¬ DoubtAt g l i' k') ∧ d = ⟨i, k, frQ (mostV g l (agV l i) k (otherV l i k)), frQ (worstV g l (agV l i) k (nextV l i k))⟩ ∧ ok = false) ∨
    (NoDoubt g l ∧ d = ⟨0, 0, zF, zF⟩ ∧ ok = true)))
theorem isObv_of (g : Gm) (l : List Vn) : ∃ d ok, isObv g l d ok := by
  by_cases h : GmOk g ∧ TreeOk g l
  · obtain ⟨i, k, ok, h1 | h1⟩ := isDoubt_of g l
    · exact ⟨_, _, .inr ⟨h, .inl ⟨i, k, h1.1, h1.2.1, h1.2.2.1, h1.2.2.2.1, rfl, rfl⟩⟩⟩
    · exact ⟨_, _, .inr ⟨h, .inr ⟨fun i hi k => h1.1 i hi k, rfl, rfl⟩⟩⟩
  · exact ⟨_, _, .inl ⟨h, rfl, rfl⟩⟩
theorem first_eq {g : Gm} {l : List Vn} {i k i' k' : Nat} (h1 : DoubtAt g l i k) (h2 : ∀ x, x < k → ¬ DoubtAt g l i x) (h3 : ∀ y x, y < i → ¬ DoubtAt g l y x) (g1 : DoubtAt g l i' k') (g2 : ∀ x, x < k' → ¬ DoubtAt g l i' x) (g3 : ∀ y x, y < i' → ¬ DoubtAt g l y x) : i = i' ∧ k = k' := by
  have e : i = i' := by
    rcases Nat.lt_trichotomy i i' with c | c | c
    · exact absurd h1 (g3 i k c)
    · exact c
    · exact absurd g1 (h3 i' k' c)
  subst e
  refine ⟨rfl, ?_⟩
  rcases Nat.lt_trichotomy k k' with c | c | c
  · exact absurd h1 (g2 k c)
  · exact c
  · exact absurd g1 (h2 k' c)
theorem isObv.doubt {g : Gm} {l : List Vn} {d : Db} {ok : Bool} (h : isObv g l d ok) (hG : GmOk g) (hT : TreeOk g l) {i k : Nat} (hi : i < l.length) (h1 : DoubtAt g l i k) (h2 : ∀ x, x < k → ¬ DoubtAt g l i x) (h3 : ∀ y x, y < i → ¬ DoubtAt g l y x) :
    d = ⟨i, k, frQ (mostV g l (agV l i) k (otherV l i k)), frQ (worstV g l (agV l i) k (nextV l i k))⟩ ∧ ok = false := by
  rcases h with h | ⟨-, ⟨i', k', -, g1, g2, g3, g4, g5⟩ | ⟨g1, -⟩⟩
  · exact absurd ⟨hG, hT⟩ h.1
  · obtain ⟨rfl, rfl⟩ := first_eq h1 h2 h3 g1 g2 g3
    exact ⟨g4, g5⟩
  · exact absurd h1 (g1 i hi k)
theorem isObv.none {g : Gm} {l : List Vn} {d : Db} {ok : Bool} (h : isObv g l d ok) (hG : GmOk g) (hT : TreeOk g l) (hn : NoDoubt g l) : d = ⟨0, 0, zF, zF⟩ ∧ ok = true := by
  rcases h with h | ⟨-, ⟨i', k', g0, g1, -⟩ | ⟨-, g2, g3⟩⟩
  · exact absurd ⟨hG, hT⟩ h.1
  · exact absurd g1 (hn i' g0 k')
  · exact ⟨g2, g3⟩
theorem isObv.bad {g : Gm} {l : List Vn} {d : Db} {ok : Bool} (h : isObv g l d ok) (hb : ¬ (GmOk g ∧ TreeOk g l)) : d = ⟨-1, 0, zF, zF⟩ ∧ ok = false := by
  rcases h with h | h
  · exact h.2
  · exact absurd h.1 hb
theorem TreeOk.other {g : Gm} {l : List Vn} (h : TreeOk g l) {i : Nat} (hi : i < l.length) (he : isEndV l i = false) (k : Nat) : i < otherV l i k ∧ otherV l i k < l.length ∧ l[i].yes + l[i].no - (nextV l i k : Int) = (otherV l i k : Int) := by
  obtain ⟨y, n, e1, e2, e3, e4, e5, e6, -⟩ := h.kids hi he
  unfold otherV nextV
  rw [← vnAt_eq hi, e1, e2, Int.toNat_natCast, Int.toNat_natCast]
  cases hasK (vnAt l i).part k
  · simp; omega
  · simp; omega
set_option maxRecDepth 20000 in
set_option maxHeartbeats 2000000 in
theorem robvious_s (g : Gm) (hg : g.ok) (hb : Sh.beyond g = false) (hn : Near g) (l : List Vn) (hl : l.length ≤ 1048576) (hv : NearV l) (d : Db) (ok : Bool) (h : isObv g l d ok) :
    CallsS Tryz.prog 34 [gmS g, viS l] (.tup [dbS d, .one (.bool ok)]) := by
  obtain ⟨e, he, e0⟩ := isTree_of g l
  refine calls Tryz.func34 rfl (by rfl) (by rfl) (by kernel_rfl) ?_
  simp -dsimp -implicitDefEqProofs [Tryz.f34]
  refine eCall.of (rright8_s g hg hb l hl hv e he) (by simp) ?_
  by_cases c0 : GmOk g ∧ TreeOk g l
  · obtain rfl : e = 0 := e0.2 c0
    obtain ⟨hG, hT⟩ := c0
    have hf := hG.fine hg hb
    obtain ⟨m, m1, m2, m3⟩ := links_to l
    obtain rfl := ((links_iff m1 m2 m3).1 hT.links).1
    have hll := hT.len
    simp -dsimp -implicitDefEqProofs
    refine eCall.of (rups_s l hT.pos hl hv l.length m1 m2 m3 true (by simp [hT.links])) (by simp) ?_
    simp -dsimp -implicitDefEqProofs
    refine sw_loop_e (fun q : {q : Nat × Nat // q.1 ≤ l.length ∧ ∀ y x, y < q.1 → ¬ DoubtAt g l y x} => SS.of [(2, .v (.one (.mp 0 0))), (3, .v (.one (.mp 1 0))), (4, .v (.one (.mp 2 0))), (6, .v (.one (.mp 3 0))), (8, I .i64 q.1.1)] [(0, ⟨31, rowGm g⟩), (1, ⟨34, [vnsS l]⟩), (2, ⟨40, rowDb ⟨0, 0, zF, zF⟩⟩), (3, ⟨132, rowUp l l.length⟩)] (q.1.2 + 4))
      (fun q => l.length - q.1.1) ⟨(0, 0), Nat.zero_le _, fun y x hy => absurd hy (by omega)⟩ (by kernel_rfl) (Le.to (by simp) (by simp [zF]) (by simp)) ?_
    rintro ⟨⟨i, c⟩, hi, hq⟩
    simp only at hi hq
    by_cases a1 : i < l.length
    · have wi : IntKind.i64.wrap ((i : Int) + 1) = ((i + 1 : Nat) : Int) := by rw [wrap_i64 _ (by omega) (by omega)]; rfl
      have next : (∀ x, ¬ DoubtAt g l i x) → ∀ y x, y < i + 1 → ¬ DoubtAt g l y x := fun hx y x hy => by
        by_cases e : y = i
        · subst e; exact hx x
        · exact hq y x (by omega)
      cases hen : isEndV l i with
      | true =>
        have e1 := (isEnd_true a1).1 hen
        simp -dsimp -implicitDefEqProofs [a1, e1]
        exact Again.by ⟨(i + 1, c + 1), a1, next fun x hx => by have := hx.1; rw [hen] at this; cases this⟩ (Le.to (by simp [wi]) (by simp [zF]) (by simp)) (by simp; omega)
      | false =>
        obtain ⟨-, ea, la⟩ := hT.ask a1 hen
        rw [vnAt_eq a1] at ea
        have ea0 : ¬ (agV l i : Int) = -1 := by omega
        have hkl : klA g (agV l i) = g.agents[agV l i].kinds.length := klA_eq la
        have hk4 := hf.klA4 (agV l i)
        obtain ⟨y, n, k1, k2, -⟩ := hT.kids a1 hen
        have k1' : l[i].yes = (y : Int) := by rw [← vnAt_eq a1]; exact k1
        have k2' : l[i].no = (n : Int) := by rw [← vnAt_eq a1]; exact k2
        simp -dsimp -implicitDefEqProofs [a1, ea, ea0]
        refine sw_loop_e (fun q : {q : Nat × Nat // q.1 ≤ klA g (agV l i) ∧ ∀ x, x < q.1 → ¬ DoubtAt g l i x} => SS.of [(2, .v (.one (.mp 0 0))), (3, .v (.one (.mp 1 0))), (4, .v (.one (.mp 2 0))), (6, .v (.one (.mp 3 0))), (8, I .i64 i), (9, .v (.one (.mp (c + 4) 0))), (10, I .i64 q.1.1)] [(0, ⟨31, rowGm g⟩), (1, ⟨34, [vnsS l]⟩), (2, ⟨40, rowDb ⟨0, 0, zF, zF⟩⟩), (3, ⟨132, rowUp l l.length⟩), (c + 4, ⟨110, rowVn l[i]⟩)] (c + q.1.2 + 5))
          (fun q => klA g (agV l i) - q.1.1) ⟨(0, 0), Nat.zero_le _, fun x hx => absurd hx (by omega)⟩ (by kernel_rfl) (Le.to (by simp) (by simp [ea, zF]) (by simp)) ?_
        rintro ⟨⟨k, u⟩, hk, hqk⟩
        simp only at hk hqk
        have n1 : ∀ u : Nat, ¬ c = c + u + 1 := fun u => by omega
        have n2 : ∀ u : Nat, ¬ c = c + u + 2 := fun u => by omega
        by_cases a2 : k < klA g (agV l i)
        · have wk : IntKind.i64.wrap ((k : Int) + 1) = ((k + 1 : Nat) : Int) := by rw [wrap_i64 _ (by omega) (by omega)]; rfl
          have a2' : k < g.agents[agV l i].kinds.length := by omega
          have nextk : ¬ DoubtAt g l i k → ∀ x, x < k + 1 → ¬ DoubtAt g l i x := fun hx x hxk => by
            by_cases e : x = k
            · subst e; exact hx
            · exact hqk x (by omega)
          have hm := rmay_s l hT.links hl hv i (agV l i) k a1
          cases hmb : mayB l (agV l i) k i with
          | false =>
            rw [hmb] at hm
            simp -dsimp -implicitDefEqProofs [ea, la, a2']
            refine eCall.of hm (by simp [ea]) ?_
            simp -dsimp -implicitDefEqProofs
            exact Again.by ⟨(k + 1, u), a2, nextk fun hx => by have := hx.2.2.1; rw [hmb] at this; cases this⟩ (Le.to (by simp [wk]) (by simp [ea, zF]) (by simp)) (by simp; omega)
          | true =>
            rw [hmb] at hm
            have hh := rhas8_s l[i].part k (by have := (hv _ (List.getElem_mem a1)).2.1; omega)
            have hx := hT.next a1 hen k
            have ho := hT.other a1 hen k
            have iw := rworst_s hT hf hn hv (agV l i) k la a2' l.length (nextV l i k) hx.2 (by omega)
            have ib := rbest_s hT hf hn hv (agV l i) k la a2' l.length (otherV l i k) ho.2.1 (by omega)
            have z1 := cap_mz (show mz (worstV g l (agV l i) k (nextV l i k)) ≤ 2048 by have := hT.worst13 hf hn hv la a2' hx.2; omega)
            have z2 := cap_mz (show mz (mostV g l (agV l i) k (otherV l i k)) ≤ 2048 by have := hT.most13 hf hn hv la a2' ho.2.1; omega)
            have hc := cmpR_s (frQ (worstV g l (agV l i) k (nextV l i k))) (frQ (mostV g l (agV l i) k (otherV l i k))) (frQ_ok (by omega)) (frQ_ok (by omega))
            rw [fix_frQ z1.2, fix_frQ z2.2] at hc
            have hnx : nextV l i k = if hasK l[i].part k then y else n := by unfold nextV; rw [vnAt_eq a1, k1', k2', Int.toNat_natCast, Int.toNat_natCast]
            have hot : otherV l i k = if hasK l[i].part k then n else y := by unfold otherV; rw [vnAt_eq a1, k1', k2', Int.toNat_natCast, Int.toNat_natCast]
            simp -dsimp -implicitDefEqProofs [ea, la, a2']
            refine eCall.of hm (by simp [ea]) ?_
            simp -dsimp -implicitDefEqProofs [k1', k2']
            refine eCall.of hh (by simp) ?_
            cases hhk : hasK l[i].part k with
            | true =>
              rw [hhk, if_pos rfl] at hnx hot
              simp -dsimp -implicitDefEqProofs [k1', k2', ← hnx, ← hot]
              refine eCall.of iw (by simp [ea]) ?_
              simp -dsimp -implicitDefEqProofs [n1, n2]
              refine eCall.of ib (by simp [ea]) ?_
              simp -dsimp -implicitDefEqProofs [n1, n2]
              refine eCall.of hc (by simp [frQ, ng]) ?_
              by_cases cd : worstV g l (agV l i) k (nextV l i k) < mostV g l (agV l i) k (otherV l i k)
              · obtain ⟨rfl, rfl⟩ := h.doubt hG hT a1 ⟨hen, a2, hmb, cd⟩ hqk (fun y x hy => hq y x hy)
                simp -dsimp -implicitDefEqProofs [cmpQ_neg.2 cd, frQ, ng]
              · simp -dsimp -implicitDefEqProofs [mt cmpQ_neg.1 cd]
                exact Again.by ⟨(k + 1, u + 2), a2, nextk fun hx => cd hx.2.2.2⟩ (Le.to (by simp [wk]) (by simp [ea, zF, n1, n2, k1', k2', hnx, hot]) (by simp; omega)) (by simp; omega)
            | false =>
              rw [hhk, if_neg (by simp)] at hnx hot
              simp -dsimp -implicitDefEqProofs [k1', k2', ← hnx, ← hot]
              refine eCall.of iw (by simp [ea]) ?_
              simp -dsimp -implicitDefEqProofs [n1, n2]
              refine eCall.of ib (by simp [ea]) ?_
              simp -dsimp -implicitDefEqProofs [n1, n2]
              refine eCall.of hc (by simp [frQ, ng]) ?_
              by_cases cd : worstV g l (agV l i) k (nextV l i k) < mostV g l (agV l i) k (otherV l i k)
              · obtain ⟨rfl, rfl⟩ := h.doubt hG hT a1 ⟨hen, a2, hmb, cd⟩ hqk (fun y x hy => hq y x hy)
                simp -dsimp -implicitDefEqProofs [cmpQ_neg.2 cd, frQ, ng]
              · simp -dsimp -implicitDefEqProofs [mt cmpQ_neg.1 cd]
                exact Again.by ⟨(k + 1, u + 2), a2, nextk fun hx => cd hx.2.2.2⟩ (Le.to (by simp [wk]) (by simp [ea, zF, n1, n2, k1', k2', hnx, hot]) (by simp; omega)) (by simp; omega)
        have hk2 : k = klA g (agV l i) := by omega
        subst hk2
        have fin : ∀ x, ¬ DoubtAt g l i x := fun x hx => hqk x hx.2.1 hx
        simp -dsimp -implicitDefEqProofs [ea, la, hkl]
        exact Again.by ⟨(i + 1, c + u + 1), a1, next fin⟩ (Le.to (by simp [wi]) (by simp [zF]) (by simp)) (by simp; omega)
    have hi2 : i = l.length := by omega
    subst hi2
    obtain ⟨rfl, rfl⟩ := h.none hG hT (fun i' hi' x => hq i' x hi')
    simp -dsimp -implicitDefEqProofs [zF]
  · have h1 : ¬ e = 0 := fun hh => c0 (e0.1 hh)
    obtain ⟨rfl, rfl⟩ := h.bad c0
    simp -dsimp -implicitDefEqProofs [h1, zF]
end Go.Proofs.YtaljbebkooppiaaGreat.Sh

namespace Go.Proofs.YtaljbebkooppiaaGreat.Sh
open Go Go.RowKit
instance : RowF 6 rowVn := ⟨fun _ => rfl, fun x s h => by simp at h; rcases h with rfl | rfl | rfl | rfl | rfl | rfl <;> rfl⟩
instance : RowF 8 rowKd := ⟨fun _ => rfl, fun x s h => by simp at h; rcases h with rfl | rfl | rfl | rfl | rfl | rfl | rfl | rfl <;> rfl⟩
instance : RowF 2 rowAg := ⟨fun _ => rfl, fun x s h => by simp at h; rcases h with rfl | rfl <;> rfl⟩
instance : RowF 8 rowNd := ⟨fun _ => rfl, fun x s h => by simp at h; rcases h with rfl | rfl | rfl | rfl | rfl | rfl | rfl | rfl <;> rfl⟩
def Vn.cop (x : Vn) : Prop := x.part.length ≤ 1048576 ∧ x.pay.length ≤ 1048576 ∧ ∀ f ∈ x.pay, f.cop
set_option maxRecDepth 20000 in
set_option maxHeartbeats 1000000 in
theorem copyVine_s (l : List Vn) (hl : l.length ≤ 1048576) (hc : ∀ x ∈ l, x.cop) : CallsS Tryz.prog 26 [viS l] (.v (viS l)) := by
  refine calls Tryz.func26 rfl (by rfl) (by rfl) (by kernel_rfl) ?_
  simp -dsimp -implicitDefEqProofs [Tryz.f26]
  refine sw_loop_e (fun q : {q : Nat × Nat // q.1 ≤ l.length} => SS.of [(1, .v (.one (.mp 0 0))), (2, .v (.one (.mp 1 0))), (3, .v (.one (.mp 2 0))), (4, I .i64 q.1.1)] ([(0, ⟨34, [vnsS l]⟩), (1, ⟨34, [.nils]⟩)] ++ if q.1.1 = 0 then [(2, ⟨34, [.nils]⟩)] else [(2, ⟨34, [.ms (q.1.2 + 5) 0 q.1.1 6 true]⟩), (q.1.2 + 5, ⟨110, flat rowVn (l.take q.1.1)⟩)]) (q.1.2 + 6))
    (fun q => l.length - q.1.1) ⟨(0, 0), Nat.zero_le _⟩ (by kernel_rfl) (Le.to (by simp) (by simp) (by simp)) ?_
  rintro ⟨⟨i, c⟩, hi⟩
  simp only at hi
  by_cases a1 : i < l.length
  · have wi : IntKind.i64.wrap ((i : Int) + 1) = ((i + 1 : Nat) : Int) := by rw [wrap_i64 _ (by omega) (by omega)]; rfl
    obtain ⟨c1, c2, c3⟩ := hc _ (List.getElem_mem a1)
    have hfl := flat_snoc (f := rowVn) l[i] (l.take i)
    rw [← takeSnoc l i a1] at hfl
    have htl : min i l.length = i := by omega
    by_cases i0 : i = 0
    · subst i0
      have hif : ∀ {α : Type} (x y : α), (if 0 = 0 then x else y) = x := fun x y => if_pos rfl
      rw [List.take_zero, flat_nil, List.nil_append] at hfl
      simp -dsimp -implicitDefEqProofs [hif, a1]
      refine eCall.of (cints_s l[0].part (by omega)) (by simp) ?_
      simp -dsimp -implicitDefEqProofs [hif]
      refine eCall.of (cfracs_s l[0].pay (by omega) c3) (by simp) ?_
      simp -dsimp -implicitDefEqProofs [hif, slots]
      exact Again.by ⟨(1, c + 3), a1⟩ (Le.to (by simp [i64_1]) (by simp at hfl; simp [hfl]) (by simp)) (by simp <;> omega)
    · have hif : ∀ {α : Type} (x y : α), (if i = 0 then x else y) = y := fun x y => if_neg i0
      simp -dsimp -implicitDefEqProofs [hif, a1]
      refine eCall.of (cints_s l[i].part (by omega)) (by simp) ?_
      simp -dsimp -implicitDefEqProofs [hif]
      refine eCall.of (cfracs_s l[i].pay (by omega) c3) (by simp) ?_
      simp -dsimp -implicitDefEqProofs [hif, slots, htl]
      refine ⟨by omega, ?_⟩
      exact Again.by ⟨(i + 1, c + 3), a1⟩ (Le.to (by simp [wi]) (by simp [hfl]) (by simp)) (by simp <;> omega)
  have hi2 : i = l.length := by omega
  subst hi2
  by_cases i0 : l.length = 0
  · obtain rfl : l = [] := List.length_eq_zero_iff.1 i0
    simp -dsimp -implicitDefEqProofs
  · have hif : ∀ {α : Type} (x y : α), (if l.length = 0 then x else y) = y := fun x y => if_neg i0
    have hne : ¬ l = [] := fun e => i0 (by rw [e]; rfl)
    simp -dsimp -implicitDefEqProofs [hif, hne]
set_option maxRecDepth 20000 in
theorem sameRule_self (r : List Ce) (hr : ∀ c ∈ r, (∀ f ∈ c.lot, f.ok) ∧ (∀ f ∈ c.pay, f.ok) ∧ c.lot.length ≤ 1048576 ∧ c.pay.length ≤ 1048576) (hl : r.length ≤ 1048576) : CallsS Tryz.prog 33 [ruS r, ruS r] (B true) := by
  refine calls Tryz.func33 rfl (by rfl) (by rfl) (by kernel_rfl) ?_
  simp -dsimp -implicitDefEqProofs [Tryz.f33]
  refine sw_loop_e (fun q : {q : Nat // q ≤ r.length} => SS.of [(2, .v (.one (.mp 0 0))), (3, .v (.one (.mp 1 0))), (5, I .i64 q.1)] [(0, ⟨45, [cesS r]⟩), (1, ⟨45, [cesS r]⟩)] 2)
    (fun q => r.length - q.1) ⟨0, Nat.zero_le _⟩ (by kernel_rfl) (Le.to (by simp) (by simp) (by simp)) ?_
  rintro ⟨i, hi⟩
  by_cases a1 : i < r.length
  · have wi : IntKind.i64.wrap ((i : Int) + 1) = ((i + 1 : Nat) : Int) := by rw [wrap_i64 _ (by omega) (by omega)]; rfl
    obtain ⟨r1, r2, r3, r4⟩ := hr _ (List.getElem_mem a1)
    simp -dsimp -implicitDefEqProofs [a1]
    refine eCall.of (sameNumbers_s r[i].lot r[i].lot r1 r1 r3 rfl) (by simp) ?_
    simp -dsimp -implicitDefEqProofs [a1]
    refine eCall.of (sameNumbers_s r[i].pay r[i].pay r2 r2 r4 rfl) (by simp) ?_
    simp -dsimp -implicitDefEqProofs
    exact Again.by ⟨i + 1, a1⟩ (Le.to (by simp [wi]) (by simp) (by simp)) (by simp <;> omega)
  have hi2 : i = r.length := by omega
  subst hi2
  simp -dsimp -implicitDefEqProofs
theorem zF_ok : zF.ok := by
  refine ⟨?_, ?_, ?_, ?_⟩ <;> first | (simp [zF]; done) | (intro x hx; cases hx)
set_option maxRecDepth 20000 in
theorem sameDoubt_s (d : Db) (h1 : d.best.ok) (h2 : d.worst.ok) : CallsS Tryz.prog 35 [dbS d, dbS d] (B true) := by
  have s1 := sameR_s d.best d.best h1 h1
  have s2 := sameR_s d.worst d.worst h2 h2
  rw [decide_eq_true rfl] at s1 s2
  refine calls Tryz.func35 rfl (by rfl) (by rfl) (by kernel_rfl) ?_
  simp -dsimp -implicitDefEqProofs [Tryz.f35]
  refine eCall.of s1 (by simp) ?_
  simp -dsimp -implicitDefEqProofs
  refine eCall.of s2 (by simp) ?_
  simp -dsimp -implicitDefEqProofs
structure Gm.cop (g : Gm) : Prop where
  la : g.agents.length ≤ 1048576
  lo : g.outs.length ≤ 1048576
  ln : g.needs.length ≤ 1048576
  a : ∀ a ∈ g.agents, a.name.size ≤ 140737488355328 ∧ a.kinds.length ≤ 1048576 ∧ ∀ k ∈ a.kinds, k.weight.cop ∧ k.alone.cop ∧ k.worth.length ≤ 1048576 ∧ ∀ f ∈ k.worth, f.cop
  o : ∀ s ∈ g.outs, s.size ≤ 140737488355328
  n : ∀ n ∈ g.needs, n.bound.cop ∧ n.outs.length ≤ 1048576 ∧ n.swap.length ≤ 1048576
set_option maxRecDepth 20000 in
set_option maxHeartbeats 2000000 in
theorem copyGame_s (g : Gm) (h : g.cop) : CallsS Tryz.prog 25 [gmS g] (.v (gmS g)) := by
  obtain ⟨la, lo, ln, ha, hO, hn⟩ := h
  refine calls Tryz.func25 rfl (by rfl) (by rfl) (by kernel_rfl) ?_
  simp -dsimp -implicitDefEqProofs [Tryz.f25]
  refine eCall.of (cnames_s g.outs (by omega) hO) (by simp) ?_
  simp -dsimp -implicitDefEqProofs
  refine sw_loop_e (fun q : {q : Nat × Nat // q.1 ≤ g.agents.length} => SS.of [(1, .v (.one (.mp 0 0))), (2, .v (.one (.mp 1 0))), (3, .v (.one (.mp 2 0))), (4, I .i64 q.1.1)]
      ([(0, ⟨31, rowGm g⟩), (1, ⟨31, [.nils, .nils, .bool false, .bool false, .int .i64 0, .nils]⟩)] ++ if q.1.1 = 0 then [(2, ⟨31, [.nils, strsS g.outs, .bool g.pay, .bool g.lots, .int .i64 g.aim, .nils]⟩)] else [(2, ⟨31, [.ms (q.1.2 + 5) 0 q.1.1 2 true, strsS g.outs, .bool g.pay, .bool g.lots, .int .i64 g.aim, .nils]⟩), (q.1.2 + 5, ⟨98, flat rowAg (g.agents.take q.1.1)⟩)]) (q.1.2 + 6))
    (fun q => g.agents.length - q.1.1) ⟨(0, 0), Nat.zero_le _⟩ (by kernel_rfl) (Le.to (by simp) (by simp) (by simp)) ?_
  rintro ⟨⟨i, c⟩, hi⟩
  simp only at hi
  by_cases a1 : i < g.agents.length
  · have wi : IntKind.i64.wrap ((i : Int) + 1) = ((i + 1 : Nat) : Int) := by rw [wrap_i64 _ (by omega) (by omega)]; rfl
    obtain ⟨b1, b2, b3⟩ := ha _ (List.getElem_mem a1)
    have hfl := flat_snoc (f := rowAg) g.agents[i] (g.agents.take i)
    rw [← takeSnoc g.agents i a1] at hfl
    have htl : min i g.agents.length = i := by omega
    simp -dsimp -implicitDefEqProofs [a1]
    refine sw_loop_e (fun q : {q : Nat × Nat // q.1 ≤ g.agents[i].kinds.length} => SS.of [(1, .v (.one (.mp 0 0))), (2, .v (.one (.mp 1 0))), (3, .v (.one (.mp 2 0))), (4, I .i64 i), (5, .v (.one (.mp (c + 6) 0))), (6, I .i64 q.1.1)]
        ((([(0, ⟨31, rowGm g⟩), (1, ⟨31, [.nils, .nils, .bool false, .bool false, .int .i64 0, .nils]⟩)] : List (Nat × SObj)) ++ (if i = 0 then [(2, ⟨31, [.nils, strsS g.outs, .bool g.pay, .bool g.lots, .int .i64 g.aim, .nils]⟩)] else [(2, ⟨31, [.ms (c + 5) 0 i 2 true, strsS g.outs, .bool g.pay, .bool g.lots, .int .i64 g.aim, .nils]⟩), (c + 5, ⟨98, flat rowAg (g.agents.take i)⟩)] : List (Nat × SObj))) ++ (if q.1.1 = 0 then [(c + 6, ⟨98, [.str g.agents[i].name, .nils]⟩)] else [(c + 6, ⟨98, [.str g.agents[i].name, .ms (c + q.1.2 + 9) 0 q.1.1 8 true]⟩), (c + q.1.2 + 9, ⟨102, flat rowKd (g.agents[i].kinds.take q.1.1)⟩)] : List (Nat × SObj))) (c + q.1.2 + 10))
      (fun q => g.agents[i].kinds.length - q.1.1) ⟨(0, 0), Nat.zero_le _⟩ (by kernel_rfl) (Le.to (by simp) (by by_cases i0 : i = 0 <;> simp [i0]) (by simp)) ?_
    rintro ⟨⟨k, d⟩, hk⟩
    simp only at hk
    have nz : ∀ u, ¬ c = c + d + (u + 1) := fun u => by omega
    have nz1 := nz 0
    have nz2 := nz 1
    have nz3 := nz 2
    have nz4 := nz 3
    have nz5 := nz 4
    have nz6 := nz 5
    have nz7 := nz 6
    have nz' : ∀ u, ¬ c + d + (u + 1) = c := fun u => by omega
    have mz1 := nz' 0
    have mz2 := nz' 1
    have mz3 := nz' 2
    have mz4 := nz' 3
    have mz5 := nz' 4
    have mz6 := nz' 5
    simp only [Nat.reduceAdd] at nz1 nz2 nz3 nz4 nz5 nz6 nz7 mz1 mz2 mz3 mz4 mz5 mz6
    have has2 : c + (d + 2) = c + d + 2 := rfl
    have has6 : c + (d + 6) = c + d + 6 := rfl
    by_cases i0 : i = 0
    · subst i0
      have hio : ∀ {α : Type} (x y : α), (if 0 = 0 then x else y) = x := fun x y => if_pos rfl
      rw [List.take_zero, flat_nil, List.nil_append] at hfl
      by_cases a2 : k < g.agents[0].kinds.length
      · have wk : IntKind.i64.wrap ((k : Int) + 1) = ((k + 1 : Nat) : Int) := by rw [wrap_i64 _ (by omega) (by omega)]; rfl
        obtain ⟨k1, k2, k3, k4⟩ := b3 _ (List.getElem_mem a2)
        have hfk := flat_snoc (f := rowKd) g.agents[0].kinds[k] (g.agents[0].kinds.take k)
        rw [← takeSnoc g.agents[0].kinds k a2] at hfk
        have htk : min k g.agents[0].kinds.length = k := by omega
        by_cases k0 : k = 0
        · subst k0
          have hik : ∀ {α : Type} (x y : α), (if 0 = 0 then x else y) = x := fun x y => if_pos rfl
          rw [List.take_zero, flat_nil, List.nil_append] at hfk
          simp at hfk
          simp -dsimp -implicitDefEqProofs [a1, a2, hio, hik, nz1, nz2, nz3, nz4, nz5, nz6, nz7, mz1, mz2, mz3, mz4, mz5, mz6, has2, has6]
          refine eCall.of (cfrac_s g.agents[0].kinds[0].weight k1) (by simp) ?_
          simp -dsimp -implicitDefEqProofs [hio, hik, nz1, nz2, nz3, nz4, nz5, nz6, nz7, mz1, mz2, mz3, mz4, mz5, mz6, has2, has6]
          refine eCall.of (cfrac_s g.agents[0].kinds[0].alone k2) (by simp) ?_
          simp -dsimp -implicitDefEqProofs [hio, hik, nz1, nz2, nz3, nz4, nz5, nz6, nz7, mz1, mz2, mz3, mz4, mz5, mz6, has2, has6]
          refine eCall.of (cfracs_s g.agents[0].kinds[0].worth (by omega) k4) (by simp) ?_
          simp -dsimp -implicitDefEqProofs [slots, hio, hik, nz1, nz2, nz3, nz4, nz5, nz6, nz7, mz1, mz2, mz3, mz4, mz5, mz6, has2, has6]
          exact Again.by ⟨(1, d + 2), a2⟩ (Le.to (by simp [i64_1, has2]) (by simp [hfk, hio, nz1, nz2, nz3, nz4, nz5, nz6, nz7, mz1, mz2, mz3, mz4, mz5, mz6, has2]) (by simp [has2])) (by simp <;> omega)
        · have hik : ∀ {α : Type} (x y : α), (if k = 0 then x else y) = y := fun x y => if_neg k0
          simp -dsimp -implicitDefEqProofs [a1, a2, hio, hik, nz1, nz2, nz3, nz4, nz5, nz6, nz7, mz1, mz2, mz3, mz4, mz5, mz6, has2, has6]
          refine eCall.of (cfrac_s g.agents[0].kinds[k].weight k1) (by simp) ?_
          simp -dsimp -implicitDefEqProofs [hio, hik, nz1, nz2, nz3, nz4, nz5, nz6, nz7, mz1, mz2, mz3, mz4, mz5, mz6, has2, has6]
          refine eCall.of (cfrac_s g.agents[0].kinds[k].alone k2) (by simp) ?_
          simp -dsimp -implicitDefEqProofs [hio, hik, nz1, nz2, nz3, nz4, nz5, nz6, nz7, mz1, mz2, mz3, mz4, mz5, mz6, has2, has6]
          refine eCall.of (cfracs_s g.agents[0].kinds[k].worth (by omega) k4) (by simp) ?_
          simp -dsimp -implicitDefEqProofs [slots, hio, hik, htk, nz1, nz2, nz3, nz4, nz5, nz6, nz7, mz1, mz2, mz3, mz4, mz5, mz6, has2, has6]
          refine ⟨by omega, ?_⟩
          exact Again.by ⟨(k + 1, d + 2), a2⟩ (Le.to (by simp [wk, i64_1, has2]) (by simp [hfk, hio, nz1, nz2, nz3, nz4, nz5, nz6, nz7, mz1, mz2, mz3, mz4, mz5, mz6, has2]) (by simp [has2])) (by simp <;> omega)
      have hk2 : k = g.agents[0].kinds.length := by omega
      subst hk2
      by_cases k0 : g.agents[0].kinds.length = 0
      · have hne : g.agents[0].kinds = [] := List.length_eq_zero_iff.1 k0
        simp [hne] at hfl
        simp -dsimp -implicitDefEqProofs [a1, hio, hne, nz1, nz2, nz3, nz4, nz5, nz6, nz7, mz1, mz2, mz3, mz4, mz5, mz6, has2, has6, slots]
        exact Again.by ⟨(1, c + d + 6), a1⟩ (Le.to (by simp [i64_1]) (by simp [hfl, nz1, nz2, nz3, nz4, nz5, nz6, nz7, mz1, mz2, mz3, mz4, mz5, mz6, has2, has6]) (by simp <;> omega)) (by simp <;> omega)
      · have hne : ¬ g.agents[0].kinds = [] := fun e => k0 (by rw [e]; rfl)
        simp at hfl
        simp -dsimp -implicitDefEqProofs [a1, hio, hne, nz1, nz2, nz3, nz4, nz5, nz6, nz7, mz1, mz2, mz3, mz4, mz5, mz6, has2, has6, slots]
        exact Again.by ⟨(1, c + d + 6), a1⟩ (Le.to (by simp [i64_1]) (by simp [hfl, nz1, nz2, nz3, nz4, nz5, nz6, nz7, mz1, mz2, mz3, mz4, mz5, mz6, has2, has6]) (by simp <;> omega)) (by simp <;> omega)
    · have hio : ∀ {α : Type} (x y : α), (if i = 0 then x else y) = y := fun x y => if_neg i0
      by_cases a2 : k < g.agents[i].kinds.length
      · have wk : IntKind.i64.wrap ((k : Int) + 1) = ((k + 1 : Nat) : Int) := by rw [wrap_i64 _ (by omega) (by omega)]; rfl
        obtain ⟨k1, k2, k3, k4⟩ := b3 _ (List.getElem_mem a2)
        have hfk := flat_snoc (f := rowKd) g.agents[i].kinds[k] (g.agents[i].kinds.take k)
        rw [← takeSnoc g.agents[i].kinds k a2] at hfk
        have htk : min k g.agents[i].kinds.length = k := by omega
        by_cases k0 : k = 0
        · subst k0
          have hik : ∀ {α : Type} (x y : α), (if 0 = 0 then x else y) = x := fun x y => if_pos rfl
          rw [List.take_zero, flat_nil, List.nil_append] at hfk
          simp at hfk
          simp -dsimp -implicitDefEqProofs [a1, a2, hio, hik, nz1, nz2, nz3, nz4, nz5, nz6, nz7, mz1, mz2, mz3, mz4, mz5, mz6, has2, has6]
          refine eCall.of (cfrac_s g.agents[i].kinds[0].weight k1) (by simp) ?_
          simp -dsimp -implicitDefEqProofs [hio, hik, nz1, nz2, nz3, nz4, nz5, nz6, nz7, mz1, mz2, mz3, mz4, mz5, mz6, has2, has6]
          refine eCall.of (cfrac_s g.agents[i].kinds[0].alone k2) (by simp) ?_
          simp -dsimp -implicitDefEqProofs [hio, hik, nz1, nz2, nz3, nz4, nz5, nz6, nz7, mz1, mz2, mz3, mz4, mz5, mz6, has2, has6]
          refine eCall.of (cfracs_s g.agents[i].kinds[0].worth (by omega) k4) (by simp) ?_
          simp -dsimp -implicitDefEqProofs [slots, hio, hik, nz1, nz2, nz3, nz4, nz5, nz6, nz7, mz1, mz2, mz3, mz4, mz5, mz6, has2, has6]
          exact Again.by ⟨(1, d + 2), a2⟩ (Le.to (by simp [i64_1, has2]) (by simp [hfk, hio, nz1, nz2, nz3, nz4, nz5, nz6, nz7, mz1, mz2, mz3, mz4, mz5, mz6, has2]) (by simp [has2])) (by simp <;> omega)
        · have hik : ∀ {α : Type} (x y : α), (if k = 0 then x else y) = y := fun x y => if_neg k0
          simp -dsimp -implicitDefEqProofs [a1, a2, hio, hik, nz1, nz2, nz3, nz4, nz5, nz6, nz7, mz1, mz2, mz3, mz4, mz5, mz6, has2, has6]
          refine eCall.of (cfrac_s g.agents[i].kinds[k].weight k1) (by simp) ?_
          simp -dsimp -implicitDefEqProofs [hio, hik, nz1, nz2, nz3, nz4, nz5, nz6, nz7, mz1, mz2, mz3, mz4, mz5, mz6, has2, has6]
          refine eCall.of (cfrac_s g.agents[i].kinds[k].alone k2) (by simp) ?_
          simp -dsimp -implicitDefEqProofs [hio, hik, nz1, nz2, nz3, nz4, nz5, nz6, nz7, mz1, mz2, mz3, mz4, mz5, mz6, has2, has6]
          refine eCall.of (cfracs_s g.agents[i].kinds[k].worth (by omega) k4) (by simp) ?_
          simp -dsimp -implicitDefEqProofs [slots, hio, hik, htk, nz1, nz2, nz3, nz4, nz5, nz6, nz7, mz1, mz2, mz3, mz4, mz5, mz6, has2, has6]
          refine ⟨by omega, ?_⟩
          exact Again.by ⟨(k + 1, d + 2), a2⟩ (Le.to (by simp [wk, i64_1, has2]) (by simp [hfk, hio, nz1, nz2, nz3, nz4, nz5, nz6, nz7, mz1, mz2, mz3, mz4, mz5, mz6, has2]) (by simp [has2])) (by simp <;> omega)
      have hk2 : k = g.agents[i].kinds.length := by omega
      subst hk2
      by_cases k0 : g.agents[i].kinds.length = 0
      · have hne : g.agents[i].kinds = [] := List.length_eq_zero_iff.1 k0
        simp only [rowAg, kdsS, hne, List.map_nil] at hfl
        simp -dsimp -implicitDefEqProofs [a1, hio, hne, nz1, nz2, nz3, nz4, nz5, nz6, nz7, mz1, mz2, mz3, mz4, mz5, mz6, has2, has6, slots, htl]
        refine ⟨by omega, ?_⟩
        exact Again.by ⟨(i + 1, c + d + 6), a1⟩ (Le.to (by simp [wi]) (by simp [hfl, nz1, nz2, nz3, nz4, nz5, nz6, nz7, mz1, mz2, mz3, mz4, mz5, mz6, has2, has6]) (by simp <;> omega)) (by simp <;> omega)
      · have hne : ¬ g.agents[i].kinds = [] := fun e => k0 (by rw [e]; rfl)
        simp -dsimp -implicitDefEqProofs [a1, hio, hne, nz1, nz2, nz3, nz4, nz5, nz6, nz7, mz1, mz2, mz3, mz4, mz5, mz6, has2, has6, slots, htl]
        refine ⟨by omega, ?_⟩
        exact Again.by ⟨(i + 1, c + d + 6), a1⟩ (Le.to (by simp [wi]) (by simp [hfl, nz1, nz2, nz3, nz4, nz5, nz6, nz7, mz1, mz2, mz3, mz4, mz5, mz6, has2, has6]) (by simp <;> omega)) (by simp <;> omega)
  have hi2 : i = g.agents.length := by omega
  subst hi2
  by_cases i0 : g.agents.length = 0
  · have hne : g.agents = [] := List.length_eq_zero_iff.1 i0
    have hio : ∀ {α : Type} (x y : α), (if g.agents.length = 0 then x else y) = x := fun x y => if_pos i0
    simp -dsimp -implicitDefEqProofs [hio]
    refine sw_loop_e (fun q : {q : Nat × Nat // q.1 ≤ g.needs.length} => SS.of [(1, .v (.one (.mp 0 0))), (2, .v (.one (.mp 1 0))), (3, .v (.one (.mp 2 0))), (8, I .i64 q.1.1)]
        (([(0, ⟨31, rowGm g⟩), (1, ⟨31, [.nils, .nils, .bool false, .bool false, .int .i64 0, .nils]⟩)] : List (Nat × SObj)) ++ (if q.1.1 = 0 then [(2, ⟨31, [agsS g.agents, strsS g.outs, .bool g.pay, .bool g.lots, .int .i64 g.aim, .nils]⟩)] else [(2, ⟨31, [agsS g.agents, strsS g.outs, .bool g.pay, .bool g.lots, .int .i64 g.aim, .ms (c + q.1.2 + 7) 0 q.1.1 8 true]⟩), (c + q.1.2 + 7, ⟨93, flat rowNd (g.needs.take q.1.1)⟩)] : List (Nat × SObj))) (c + q.1.2 + 8))
      (fun q => g.needs.length - q.1.1) ⟨(0, 0), Nat.zero_le _⟩ (by kernel_rfl) (Le.to (by simp) (by simp [hne]) (by simp)) ?_
    rintro ⟨⟨j, d⟩, hj⟩
    simp only at hj
    have has3 : c + (d + 3) = c + d + 3 := rfl
    by_cases a1 : j < g.needs.length
    · have wj : IntKind.i64.wrap ((j : Int) + 1) = ((j + 1 : Nat) : Int) := by rw [wrap_i64 _ (by omega) (by omega)]; rfl
      obtain ⟨n1, n2, n3⟩ := hn _ (List.getElem_mem a1)
      have hfl := flat_snoc (f := rowNd) g.needs[j] (g.needs.take j)
      rw [← takeSnoc g.needs j a1] at hfl
      have htl : min j g.needs.length = j := by omega
      by_cases j0 : j = 0
      · subst j0
        have hif : ∀ {α : Type} (x y : α), (if 0 = 0 then x else y) = x := fun x y => if_pos rfl
        rw [List.take_zero, flat_nil, List.nil_append] at hfl
        simp at hfl
        simp -dsimp -implicitDefEqProofs [hif, a1]
        refine eCall.of (cfrac_s g.needs[0].bound n1) (by simp) ?_
        simp -dsimp -implicitDefEqProofs [hif]
        refine eCall.of (cints_s g.needs[0].outs (by omega)) (by simp) ?_
        simp -dsimp -implicitDefEqProofs [hif]
        refine eCall.of (cints_s g.needs[0].swap (by omega)) (by simp) ?_
        simp -dsimp -implicitDefEqProofs [hif, slots]
        exact Again.by ⟨(1, d + 3), a1⟩ (Le.to (by simp [i64_1, has3]) (by simp [hfl, has3]) (by simp [has3])) (by simp <;> omega)
      · have hif : ∀ {α : Type} (x y : α), (if j = 0 then x else y) = y := fun x y => if_neg j0
        simp -dsimp -implicitDefEqProofs [hif, a1]
        refine eCall.of (cfrac_s g.needs[j].bound n1) (by simp) ?_
        simp -dsimp -implicitDefEqProofs [hif]
        refine eCall.of (cints_s g.needs[j].outs (by omega)) (by simp) ?_
        simp -dsimp -implicitDefEqProofs [hif]
        refine eCall.of (cints_s g.needs[j].swap (by omega)) (by simp) ?_
        simp -dsimp -implicitDefEqProofs [hif, slots, htl]
        refine ⟨by omega, ?_⟩
        exact Again.by ⟨(j + 1, d + 3), a1⟩ (Le.to (by simp [wj, has3]) (by simp [hfl, has3]) (by simp [has3])) (by simp <;> omega)
    have hj2 : j = g.needs.length := by omega
    subst hj2
    by_cases j0 : g.needs.length = 0
    · have hne : g.needs = [] := List.length_eq_zero_iff.1 j0
      simp -dsimp -implicitDefEqProofs [hne]
    · have hif : ∀ {α : Type} (x y : α), (if g.needs.length = 0 then x else y) = y := fun x y => if_neg j0
      have hne : ¬ g.needs = [] := fun e => j0 (by rw [e]; rfl)
      simp -dsimp -implicitDefEqProofs [hif, hne]
  · have hne : ¬ g.agents = [] := fun e => i0 (by rw [e]; rfl)
    have hio : ∀ {α : Type} (x y : α), (if g.agents.length = 0 then x else y) = y := fun x y => if_neg i0
    simp -dsimp -implicitDefEqProofs [hio]
    refine sw_loop_e (fun q : {q : Nat × Nat // q.1 ≤ g.needs.length} => SS.of [(1, .v (.one (.mp 0 0))), (2, .v (.one (.mp 1 0))), (3, .v (.one (.mp 2 0))), (8, I .i64 q.1.1)]
        (([(0, ⟨31, rowGm g⟩), (1, ⟨31, [.nils, .nils, .bool false, .bool false, .int .i64 0, .nils]⟩)] : List (Nat × SObj)) ++ (if q.1.1 = 0 then [(2, ⟨31, [agsS g.agents, strsS g.outs, .bool g.pay, .bool g.lots, .int .i64 g.aim, .nils]⟩)] else [(2, ⟨31, [agsS g.agents, strsS g.outs, .bool g.pay, .bool g.lots, .int .i64 g.aim, .ms (c + q.1.2 + 7) 0 q.1.1 8 true]⟩), (c + q.1.2 + 7, ⟨93, flat rowNd (g.needs.take q.1.1)⟩)] : List (Nat × SObj))) (c + q.1.2 + 8))
      (fun q => g.needs.length - q.1.1) ⟨(0, 0), Nat.zero_le _⟩ (by kernel_rfl) (Le.fzF [c + 5] (Le.to (by simp [hio, hne]) (by simp [hio, hne]) (by simp [hio, hne]))) ?_
    rintro ⟨⟨j, d⟩, hj⟩
    simp only at hj
    have has3 : c + (d + 3) = c + d + 3 := rfl
    by_cases a1 : j < g.needs.length
    · have wj : IntKind.i64.wrap ((j : Int) + 1) = ((j + 1 : Nat) : Int) := by rw [wrap_i64 _ (by omega) (by omega)]; rfl
      obtain ⟨n1, n2, n3⟩ := hn _ (List.getElem_mem a1)
      have hfl := flat_snoc (f := rowNd) g.needs[j] (g.needs.take j)
      rw [← takeSnoc g.needs j a1] at hfl
      have htl : min j g.needs.length = j := by omega
      by_cases j0 : j = 0
      · subst j0
        have hif : ∀ {α : Type} (x y : α), (if 0 = 0 then x else y) = x := fun x y => if_pos rfl
        rw [List.take_zero, flat_nil, List.nil_append] at hfl
        simp at hfl
        simp -dsimp -implicitDefEqProofs [hif, a1]
        refine eCall.of (cfrac_s g.needs[0].bound n1) (by simp) ?_
        simp -dsimp -implicitDefEqProofs [hif]
        refine eCall.of (cints_s g.needs[0].outs (by omega)) (by simp) ?_
        simp -dsimp -implicitDefEqProofs [hif]
        refine eCall.of (cints_s g.needs[0].swap (by omega)) (by simp) ?_
        simp -dsimp -implicitDefEqProofs [hif, slots]
        exact Again.by ⟨(1, d + 3), a1⟩ (Le.to (by simp [i64_1, has3]) (by simp [hfl, has3]) (by simp [has3])) (by simp <;> omega)
      · have hif : ∀ {α : Type} (x y : α), (if j = 0 then x else y) = y := fun x y => if_neg j0
        simp -dsimp -implicitDefEqProofs [hif, a1]
        refine eCall.of (cfrac_s g.needs[j].bound n1) (by simp) ?_
        simp -dsimp -implicitDefEqProofs [hif]
        refine eCall.of (cints_s g.needs[j].outs (by omega)) (by simp) ?_
        simp -dsimp -implicitDefEqProofs [hif]
        refine eCall.of (cints_s g.needs[j].swap (by omega)) (by simp) ?_
        simp -dsimp -implicitDefEqProofs [hif, slots, htl]
        refine ⟨by omega, ?_⟩
        exact Again.by ⟨(j + 1, d + 3), a1⟩ (Le.to (by simp [wj, has3]) (by simp [hfl, has3]) (by simp [has3])) (by simp <;> omega)
    have hj2 : j = g.needs.length := by omega
    subst hj2
    by_cases j0 : g.needs.length = 0
    · have hne : g.needs = [] := List.length_eq_zero_iff.1 j0
      simp -dsimp -implicitDefEqProofs [hne]
    · have hif : ∀ {α : Type} (x y : α), (if g.needs.length = 0 then x else y) = y := fun x y => if_neg j0
      have hne : ¬ g.needs = [] := fun e => j0 (by rw [e]; rfl)
      simp -dsimp -implicitDefEqProofs [hif, hne]
end Go.Proofs.YtaljbebkooppiaaGreat.Sh

