/- A part of the proof: R117, R19, R20, R21, R22, R23a, R23 -/
import Derived.Test.YtglhjjokijdagaaGreatL21
set_option linter.unusedSimpArgs false
set_option linter.unusedVariables false
set_option linter.unusedSectionVars false
/- A crowd: the program's Regret. -/
namespace Go.Proofs.YtglhjjokijdagaaGreat.Sh
open Go Go.RowKit

/-- The best table, and what it would have brought, of the first kinds. -/
def tabL (g : Gm) (r : List Ce) (a : Nat) (L : Log) (n : Nat) : List Int := (List.range n).map fun k => (tabQ g r a L k : Int)
def moreQ (g : Gm) (r : List Ce) (a : Nat) (L : Log) (n : Nat) : Rat := sumQ ((List.range n).map fun k => bringQ g r a k (rnds a k L) (tabQ g r a L k))
theorem tabL_len (g : Gm) (r : List Ce) (a : Nat) (L : Log) (n : Nat) : (tabL g r a L n).length = n := by simp [tabL]
theorem tabL_snoc (g : Gm) (r : List Ce) (a : Nat) (L : Log) (n : Nat) : tabL g r a L (n + 1) = tabL g r a L n ++ [(tabQ g r a L n : Int)] := by simp [tabL, List.range_succ]
theorem moreQ_step (g : Gm) (r : List Ce) (a : Nat) (L : Log) (n : Nat) : moreQ g r a L (n + 1) = moreQ g r a L n + bringQ g r a n (rnds a n L) (tabQ g r a L n) := by
  unfold moreQ; rw [List.range_succ, List.map_append, List.map_cons, List.map_nil, sumQ_snoc]
theorem rnds_take (a k : Nat) (L : Log) (i : Nat) (h : i < L.length) : rnds a k (L.take (i + 1)) = rnds a k (L.take i) ++ if knd a L[i] = k then [L[i].2] else [] := by
  unfold rnds
  rw [takeSnoc L i h, List.filter_append, List.map_append]
  congr 1
  by_cases c : knd a L[i] = k <;> simp [c]
theorem rnds_le (a k : Nat) (L : Log) : (rnds a k L).length ≤ L.length := by
  unfold rnds; rw [List.length_map]; exact List.length_filter_le ..

section
variable {g : Gm} {r : List Ce} {a : Nat} (h : Sit g r a)
include h
theorem Sit.rnds {L : Log} (hL : LogP g L) (k : Nat) : ∀ p ∈ Sh.rnds a k L, isProf g p := fun p hp => by
  unfold Sh.rnds at hp
  obtain ⟨x, hx, rfl⟩ := List.mem_map.1 hp
  exact (hL x (List.mem_filter.1 hx).1).2
theorem Sit.kle : Sh.kl g a ≤ 4 := by
  have := h.kl
  have := (sizeOk_all h.play.fine.sz).2.2.2.1 _ (List.getElem_mem h.ha)
  omega
theorem Sit.more_over {L : Log} (hL : LogP g L) (hl : L.length ≤ 1024) {n : Nat} (hn : n ≤ Sh.kl g a) : Over (UD g r) (W ^ 12) (moreQ g r a L n) :=
  Over.many (i := 11) (UD_ne g r) (by rw [List.length_map, List.length_range]; have := h.kle; omega) rfl fun q hq => by
    obtain ⟨k, hk, rfl⟩ := List.mem_map.1 hq
    have hk := List.mem_range.1 hk
    exact h.bring_over (by have := rnds_le a k L; omega) (h.rnds hL k) (by omega) (h.tab (L := L) (by omega)).lt
theorem Sit.more {L : Log} (hL : LogP g L) : moreQ g r a L (Sh.kl g a) = byQ g r a (tabQ g r a L) L := best_sum g r a _ fun x hx => (h.knd hL x hx).1
end

set_option maxRecDepth 20000 in
theorem regretNo_s (g : Gm) (r : List Ce) (hs : Seen g r) (hf : far g = false) (T S : List (List Int)) (hT : T.length ≤ 1048576) (hS : S.length ≤ 1048576) (hpT : ∀ p ∈ T, p.length ≤ 1048576) (hpS : ∀ p ∈ S, p.length ≤ 1048576) (a e : Int) (he : isLog g r T S e) (h0 : ¬ e = 0) :
    CallsS Tryz.prog 9 [gmS g, ruS r, .one (profsS T), .one (profsS S), .one (.int .i64 a)] (.tup [.one (intsS []), .agg [.bool false, .nils, .nils], .one (.int .i64 e)]) := by
  refine calls Tryz.func9 rfl (by rfl) (by rfl) (by kernel_rfl) ?_
  simp -dsimp -implicitDefEqProofs [Tryz.f9]
  refine eCall.of (clog_s g r hs hf T S hT hS hpT hpS e he) (by simp) ?_
  simp -dsimp -implicitDefEqProofs [h0]

set_option maxRecDepth 20000 in
theorem regretOut_s (g : Gm) (r : List Ce) (hP : Play g r) {T S : List (List Int)} (hL : LogR g T S) (hpT : ∀ p ∈ T, p.length ≤ 1048576) (hpS : ∀ p ∈ S, p.length ≤ 1048576) (a : Int) (ha : ¬ (0 ≤ a ∧ a < (g.agents.length : Int))) :
    CallsS Tryz.prog 9 [gmS g, ruS r, .one (profsS T), .one (profsS S), .one (.int .i64 a)] (.tup [.one (intsS []), .agg [.bool false, .nils, .nils], .one (.int .i64 140)]) := by
  have hs := hL.small
  have hle := hL.len
  refine calls Tryz.func9 rfl (by rfl) (by rfl) (by kernel_rfl) ?_
  simp -dsimp -implicitDefEqProofs [Tryz.f9]
  refine eCall.of (clog_s g r hP.seen hP.far T S (by omega) (by omega) hpT hpS 0 (.inr (.inr (.inr ⟨hP.good, hL, rfl⟩)))) (by simp) ?_
  by_cases c1 : a < 0
  · simp -dsimp -implicitDefEqProofs [c1]
  · have c2 : (g.agents.length : Int) ≤ a := by omega
    simp -dsimp -implicitDefEqProofs [c1, c2]

set_option maxRecDepth 20000 in
set_option maxHeartbeats 4000000 in
theorem regret_s {g : Gm} {r : List Ce} {a : Nat} (h : Sit g r a) {T S : List (List Int)} (hL : LogR g T S) :
    CallsS Tryz.prog 9 [gmS g, ruS r, .one (profsS T), .one (profsS S), .one (.int .i64 (a : Int))] (.tup [.one (intsS (tabL g r a (T.zip S) (kl g a))), fS (byQ g r a (tabQ g r a (T.zip S)) (T.zip S) - hadQ g r a (T.zip S)), .one (.int .i64 0)]) := by
  have hP := h.play
  have hs := hL.small
  have hle := hL.len
  have hz := hL.zl
  have hag := (sizeOk_all hP.fine.sz).1
  have hpl : ∀ p, isProf g p → p.length ≤ 1048576 := fun p hp => by have := hp.1; omega
  have hne : ¬ g.agents.length ≤ a := by have := h.ha; omega
  have hk4 := h.kle
  have hlo := clog_s g r hP.seen hP.far T S (by omega) (by omega) (fun p hp => hpl p (hL.t p hp)) (fun p hp => hpl p (hL.s p hp)) 0 (.inr (.inr (.inr ⟨hP.good, hL, rfl⟩)))
  refine calls Tryz.func9 rfl (by rfl) (by rfl) (by kernel_rfl) ?_
  simp -dsimp -implicitDefEqProofs [Tryz.f9]
  refine eCall.of hlo (by simp) ?_
  simp -dsimp -implicitDefEqProofs [hne]
  refine eCall.of czero_s (by simp) ?_
  simp -dsimp -implicitDefEqProofs
  refine eCall.of (kinds14_s h) (by simp) ?_
  simp -dsimp -implicitDefEqProofs
  obtain ⟨TB, hTB⟩ : ∃ TB, TB = tabL g r a (T.zip S) := ⟨_, rfl⟩
  have tbl : ∀ n, (TB n).length = n := fun n => by rw [hTB]; exact tabL_len ..
  have tb0 : TB 0 = [] := by rw [hTB]; rfl
  have tbs : ∀ n, TB (n + 1) = TB n ++ [(tabQ g r a (T.zip S) n : Int)] := fun n => by rw [hTB]; exact tabL_snoc ..
  rw [← hTB]
  refine sw_loop_e (fun p : {p : Nat × Nat // p.1 ≤ kl g a} => SS.of [(2, .v (.one (profsS T))), (3, .v (.one (profsS S))), (4, I .i64 a), (10, if p.1.1 = 0 then .v (.one .nils) else .v (.one (.ms (p.1.2 + 4) 0 p.1.1 1 true))), (11, .v (.one (.mp 2 0))), (14, .v (.one (.mp 3 0))), (46, I .i64 (kl g a)), (47, I .i64 p.1.1)] ((2, ⟨40, rowFr (frQ (moreQ g r a (T.zip S) p.1.1))⟩) :: (3, ⟨87, rowSi g r⟩) :: if p.1.1 = 0 then [] else [(p.1.2 + 4, ⟨3, flat rowInt (TB p.1.1)⟩)]) (p.1.2 + 5))
    (fun p => kl g a - p.1.1) ⟨(0, 0), Nat.zero_le _⟩ (by kernel_rfl) (Le.to (by simp) (by simp [moreQ, sumQ, frQ, ng]) (by simp)) ?_
  rintro ⟨⟨k, c⟩, hi⟩
  simp only at hi
  by_cases a1 : k < kl g a
  · have wk : IntKind.i64.wrap ((k : Int) + 1) = ((k + 1 : Nat) : Int) := by rw [wrap_i64 _ (by omega) (by omega)]; rfl
    have hfl := flat_snoc (f := rowInt) (tabQ g r a (T.zip S) k : Int) (TB k)
    rw [← tbs] at hfl
    have hul := tbl k
    simp -dsimp -implicitDefEqProofs [a1]
    refine sw_loop_e (fun q : {q : Nat × Nat × Nat // q.1 ≤ T.length ∧ (rnds a k ((T.zip S).take q.1)).length = q.2.2} => SS.of [(2, .v (.one (profsS T))), (3, .v (.one (profsS S))), (4, I .i64 a), (10, if k = 0 then .v (.one .nils) else .v (.one (.ms (c + 4) 0 k 1 true))), (11, .v (.one (.mp 2 0))), (14, .v (.one (.mp 3 0))), (15, I .i64 k), (16, if q.1.2.2 = 0 then .v (.one .nils) else .v (.one (.ms (c + q.1.2.1 + 5) 0 q.1.2.2 1 true))), (46, I .i64 (kl g a)), (47, I .i64 k), (50, .v (.one (profsS S))), (51, I .i64 S.length), (52, I .i64 q.1.1)] ((2, ⟨40, rowFr (frQ (moreQ g r a (T.zip S) k))⟩) :: (3, ⟨87, rowSi g r⟩) :: ((if k = 0 then [] else [(c + 4, ⟨3, flat rowInt (TB k)⟩)]) ++ if q.1.2.2 = 0 then [] else [(c + q.1.2.1 + 5, ⟨33, flat rowProf (rnds a k ((T.zip S).take q.1.1))⟩)])) (c + q.1.2.1 + 6))
      (fun q => T.length - q.1.1) ⟨(0, 0, 0), Nat.zero_le _, rfl⟩ (by kernel_rfl) (Le.to (by simp [st_self]) (by split <;> simp [*]) (by simp)) ?_
    rintro ⟨⟨i, d, m⟩, hi', hm⟩
    simp only at hi' hm
    have f1 : ¬ c + d + 1 = c := by omega
    have f2 : ¬ c = c + d + 1 := by omega
    have f3 : ¬ c + d + 2 = c := by omega
    have f4 : ¬ c = c + d + 2 := by omega
    have f5 : ¬ c + d + 3 = c := by omega
    have f6 : ¬ c = c + d + 3 := by omega
    have f7 : c + (d + 2) = c + d + 2 := by omega
    have f8 : ¬ c + d + 4 = c := by omega
    have f9 : ¬ c = c + d + 4 := by omega
    have f10 : ¬ c + d + 5 = c := by omega
    have f11 : ¬ c = c + d + 5 := by omega
    by_cases b1 : i < T.length
    · have wi : IntKind.i64.wrap ((i : Int) + 1) = ((i + 1 : Nat) : Int) := by rw [wrap_i64 _ (by omega) (by omega)]; rfl
      have b2 : i < S.length := by omega
      have b3 : i < (T.zip S).length := by omega
      have hx := List.getElem_mem b3
      have hg3 := zip_get b1 b2 b3
      have p1 := hL.t _ (List.getElem_mem b1)
      have p2 := hL.s _ (List.getElem_mem b2)
      obtain ⟨k1, k2⟩ := h.knd hL.p _ hx
      have hrt := rnds_take a k (T.zip S) i b3
      rw [hg3] at k1 k2 hrt
      have l1 : a < T[i].length := by have := p1.1; have := h.ha; omega
      rw [List.getElem?_eq_getElem l1] at k2
      have k3 := Option.some.inj k2
      try simp only at k3 hrt
      by_cases b4 : knd a (T[i], S[i]) = k
      · rw [if_pos b4] at hrt
        have hrl : (rnds a k ((T.zip S).take (i + 1))).length = m + 1 := by rw [hrt, List.length_append, hm]; rfl
        have hfr := flat_snoc (f := rowProf) S[i] (rnds a k ((T.zip S).take i))
        rw [← hrt] at hfr
        have hml : m ≤ 60 := by have := rnds_le a k ((T.zip S).take i); rw [List.length_take] at this; omega
        rw [b4] at k3
        by_cases k0 : k = 0
        · have hifk : ∀ {α : Type} (x y : α), (if k = 0 then x else y) = x := fun x y => if_pos k0
          have htk : TB k = [] := by rw [k0]; exact tb0
          try rw [htk, flat_nil, List.nil_append] at hfl
          by_cases m0 : m = 0
          · have hifm : ∀ {α : Type} (x y : α), (if m = 0 then x else y) = x := fun x y => if_pos m0
            have hte : rnds a k ((T.zip S).take i) = [] := List.length_eq_zero_iff.1 (by rw [hm, m0])
            try rw [hte, flat_nil, List.nil_append] at hfr
            simp -dsimp -implicitDefEqProofs [b1, b2, l1, k3, hifk, hifm, slots, hm, f1, f2, f3, f4, f5, f6]
            exact Again.by ⟨(i + 1, d + 2, m + 1), b1, hrl⟩ (Le.to (by simp [wi, i64_1, hifk, m0, f1, f2, f3, f4, f5, f6, f7, st_self]) (by simp [hifk, hfr, f1, f2, f3, f4, f5, f6, f7, hte]) (by simp; omega)) (by simp; omega)
          · have hifm : ∀ {α : Type} (x y : α), (if m = 0 then x else y) = y := fun x y => if_neg m0
            simp -dsimp -implicitDefEqProofs [b1, b2, l1, k3, hifk, hifm, slots, hm, f1, f2, f3, f4, f5, f6]
            refine ⟨⟨by omega, by omega⟩, ?_⟩
            exact Again.by ⟨(i + 1, d + 2, m + 1), b1, hrl⟩ (Le.to (by simp [wi, i64_1, hifk, hm, f1, f2, f3, f4, f5, f6, f7, st_self]) (by simp [hifk, hfr, f1, f2, f3, f4, f5, f6, f7]) (by simp; omega)) (by simp; omega)
        · have hifk : ∀ {α : Type} (x y : α), (if k = 0 then x else y) = y := fun x y => if_neg k0
          by_cases m0 : m = 0
          · have hifm : ∀ {α : Type} (x y : α), (if m = 0 then x else y) = x := fun x y => if_pos m0
            have hte : rnds a k ((T.zip S).take i) = [] := List.length_eq_zero_iff.1 (by rw [hm, m0])
            try rw [hte, flat_nil, List.nil_append] at hfr
            simp -dsimp -implicitDefEqProofs [b1, b2, l1, k3, hifk, hifm, slots, hm, f1, f2, f3, f4, f5, f6]
            exact Again.by ⟨(i + 1, d + 2, m + 1), b1, hrl⟩ (Le.to (by simp [wi, i64_1, hifk, m0, f1, f2, f3, f4, f5, f6, f7, st_self]) (by simp [hifk, hfr, f1, f2, f3, f4, f5, f6, f7, hte]) (by simp; omega)) (by simp; omega)
          · have hifm : ∀ {α : Type} (x y : α), (if m = 0 then x else y) = y := fun x y => if_neg m0
            simp -dsimp -implicitDefEqProofs [b1, b2, l1, k3, hifk, hifm, slots, hm, f1, f2, f3, f4, f5, f6]
            refine ⟨⟨by omega, by omega⟩, ?_⟩
            exact Again.by ⟨(i + 1, d + 2, m + 1), b1, hrl⟩ (Le.to (by simp [wi, i64_1, hifk, hm, f1, f2, f3, f4, f5, f6, f7, st_self]) (by simp [hifk, hfr, f1, f2, f3, f4, f5, f6, f7]) (by simp; omega)) (by simp; omega)
      · rw [if_neg b4, List.append_nil] at hrt
        have hrl : (rnds a k ((T.zip S).take (i + 1))).length = m := by rw [hrt, hm]
        have k4 : ¬ (knd a (T[i], S[i]) : Int) = (k : Int) := by omega
        by_cases k0 : k = 0
        · have hifk : ∀ {α : Type} (x y : α), (if k = 0 then x else y) = x := fun x y => if_pos k0
          have htk : TB k = [] := by rw [k0]; exact tb0
          try rw [htk, flat_nil, List.nil_append] at hfl
          by_cases m0 : m = 0
          · have hifm : ∀ {α : Type} (x y : α), (if m = 0 then x else y) = x := fun x y => if_pos m0
            have hte : rnds a k ((T.zip S).take i) = [] := List.length_eq_zero_iff.1 (by rw [hm, m0])
            try rw [hte, flat_nil, List.nil_append] at hfr
            simp -dsimp -implicitDefEqProofs [b1, b2, l1, k3, k4, hifk, hifm, f1, f2, f3, f4, f5, f6]
            exact Again.by ⟨(i + 1, d, m), b1, hrl⟩ (Le.to (by simp [wi, hifk, hifm, st_self]) (by simp [hifk, hifm, hrt, f1, f2]) (by simp)) (by simp; omega)
          · have hifm : ∀ {α : Type} (x y : α), (if m = 0 then x else y) = y := fun x y => if_neg m0
            simp -dsimp -implicitDefEqProofs [b1, b2, l1, k3, k4, hifk, hifm, f1, f2, f3, f4, f5, f6]
            exact Again.by ⟨(i + 1, d, m), b1, hrl⟩ (Le.to (by simp [wi, hifk, hifm, st_self]) (by simp [hifk, hifm, hrt, f1, f2]) (by simp)) (by simp; omega)
        · have hifk : ∀ {α : Type} (x y : α), (if k = 0 then x else y) = y := fun x y => if_neg k0
          by_cases m0 : m = 0
          · have hifm : ∀ {α : Type} (x y : α), (if m = 0 then x else y) = x := fun x y => if_pos m0
            have hte : rnds a k ((T.zip S).take i) = [] := List.length_eq_zero_iff.1 (by rw [hm, m0])
            try rw [hte, flat_nil, List.nil_append] at hfr
            simp -dsimp -implicitDefEqProofs [b1, b2, l1, k3, k4, hifk, hifm, f1, f2, f3, f4, f5, f6]
            exact Again.by ⟨(i + 1, d, m), b1, hrl⟩ (Le.to (by simp [wi, hifk, hifm, st_self]) (by simp [hifk, hifm, hrt, f1, f2]) (by simp)) (by simp; omega)
          · have hifm : ∀ {α : Type} (x y : α), (if m = 0 then x else y) = y := fun x y => if_neg m0
            simp -dsimp -implicitDefEqProofs [b1, b2, l1, k3, k4, hifk, hifm, f1, f2, f3, f4, f5, f6]
            exact Again.by ⟨(i + 1, d, m), b1, hrl⟩ (Le.to (by simp [wi, hifk, hifm, st_self]) (by simp [hifk, hifm, hrt, f1, f2]) (by simp)) (by simp; omega)
    have hi2 : i = T.length := by omega
    subst hi2
    have htt : (T.zip S).take T.length = T.zip S := List.take_of_length_le (by omega)
    have htt2 : (T.zip S).take S.length = T.zip S := List.take_of_length_le (by omega)
    have hm2 : (rnds a k (T.zip S)).length = m := by rw [← htt]; exact hm
    have hml : m ≤ 60 := by have := rnds_le a k (T.zip S); omega
    obtain ⟨m', ⟨e1, e2, e3⟩, hbest⟩ := best_s h (l := rnds a k (T.zip S)) (by omega) (h.rnds hL.p k) a1 [(k : Int)] (by simp; omega) (by simp)
    rw [pick_ans a1 e1 e2 e3, show ansTo (bringQ g r a k (rnds a k (T.zip S))) k (kl g a) = tabQ g r a (T.zip S) k from rfl] at hbest
    have htl := (h.tab (L := T.zip S) a1).lt
    have o1 := h.sz (i := 12) (by omega) (h.more_over hL.p (by omega) (n := k) (by omega))
    have o2 := h.sz (i := 11) (by omega) (h.bring_over (l := rnds a k (T.zip S)) (by omega) (h.rnds hL.p k) a1 htl)
    have o3 := h.sz (i := 12) (by omega) (h.more_over hL.p (by omega) (n := k + 1) (by omega))
    have had := fadd_s (frQ (moreQ g r a (T.zip S) k)) (frQ (bringQ g r a k (rnds a k (T.zip S)) (tabQ g r a (T.zip S) k))) (frQ_ok (by omega)) (frQ_ok (by omega))
    rw [fix_frQ o1, fix_frQ o2, ← moreQ_step, cap_of o3] at had
    rw [htt] at hm
    by_cases k0 : k = 0
    · have hifk : ∀ {α : Type} (x y : α), (if k = 0 then x else y) = x := fun x y => if_pos k0
      have htk : TB k = [] := by rw [k0]; exact tb0
      try rw [htk, flat_nil, List.nil_append] at hfl
      by_cases m0 : m = 0
      · have hifm : ∀ {α : Type} (x y : α), (if m = 0 then x else y) = x := fun x y => if_pos m0
        have hte : rnds a k (T.zip S) = [] := List.length_eq_zero_iff.1 (by rw [hm, m0])
        try rw [hte, flat_nil, List.nil_append] at hfr
        simp -dsimp -implicitDefEqProofs [b1, hle, htt, htt2, hifk, hifm, slots, f1, f2, f3, f4, f5, f6, f8, f9, f10, f11]
        refine eCall.of hbest (by simp [htt, htt2, hte, rowsOf, f1, f2, f3, f4, f5, f6]) ?_
        simp -dsimp -implicitDefEqProofs [hifk, hifm, htt, htt2, slots, hul, f1, f2, f3, f4, f5, f6, f8, f9, f10, f11]
        refine eCall.of had (by simp [frQ, ng]) ?_
        simp -dsimp -implicitDefEqProofs [hifk, hifm]
        exact Again.by ⟨(k + 1, c + d + 5), a1⟩ (Le.to (by simp [wk, i64_1, k0]) (by simp [hfl, frQ, ng]) (by simp)) (by simp; omega)
      · have hifm : ∀ {α : Type} (x y : α), (if m = 0 then x else y) = y := fun x y => if_neg m0
        simp -dsimp -implicitDefEqProofs [b1, hle, htt, htt2, hifk, hifm, slots, hm, f1, f2, f3, f4, f5, f6, f8, f9, f10, f11]
        refine eCall.of hbest (by simp [htt, htt2, hm, rowsOf, f1, f2, f3, f4, f5, f6]) ?_
        simp -dsimp -implicitDefEqProofs [hifk, hifm, htt, htt2, slots, hul, f1, f2, f3, f4, f5, f6, f8, f9, f10, f11]
        refine eCall.of had (by simp [frQ, ng]) ?_
        simp -dsimp -implicitDefEqProofs [hifk, hifm]
        exact Again.by ⟨(k + 1, c + d + 5), a1⟩ (Le.to (by simp [wk, i64_1, k0]) (by simp [hfl, frQ, ng]) (by simp)) (by simp; omega)
    · have hifk : ∀ {α : Type} (x y : α), (if k = 0 then x else y) = y := fun x y => if_neg k0
      by_cases m0 : m = 0
      · have hifm : ∀ {α : Type} (x y : α), (if m = 0 then x else y) = x := fun x y => if_pos m0
        have hte : rnds a k (T.zip S) = [] := List.length_eq_zero_iff.1 (by rw [hm, m0])
        try rw [hte, flat_nil, List.nil_append] at hfr
        simp -dsimp -implicitDefEqProofs [b1, hle, htt, htt2, hifk, hifm, slots, f1, f2, f3, f4, f5, f6, f8, f9, f10, f11]
        refine eCall.of hbest (by simp [htt, htt2, hte, rowsOf, f1, f2, f3, f4, f5, f6]) ?_
        simp -dsimp -implicitDefEqProofs [hifk, hifm, htt, htt2, slots, hul, f1, f2, f3, f4, f5, f6, f8, f9, f10, f11]
        refine ⟨⟨by omega, by omega⟩, ?_⟩
        refine eCall.of had (by simp [frQ, ng]) ?_
        simp -dsimp -implicitDefEqProofs [hifk, hifm]
        exact Again.by ⟨(k + 1, c + d + 5), a1⟩ (Le.to (by simp [wk, i64_1]) (by simp [hfl, frQ, ng]) (by simp)) (by simp; omega)
      · have hifm : ∀ {α : Type} (x y : α), (if m = 0 then x else y) = y := fun x y => if_neg m0
        simp -dsimp -implicitDefEqProofs [b1, hle, htt, htt2, hifk, hifm, slots, hm, f1, f2, f3, f4, f5, f6, f8, f9, f10, f11]
        refine eCall.of hbest (by simp [htt, htt2, hm, rowsOf, f1, f2, f3, f4, f5, f6]) ?_
        simp -dsimp -implicitDefEqProofs [hifk, hifm, htt, htt2, slots, hul, f1, f2, f3, f4, f5, f6, f8, f9, f10, f11]
        refine ⟨⟨by omega, by omega⟩, ?_⟩
        refine eCall.of had (by simp [frQ, ng]) ?_
        simp -dsimp -implicitDefEqProofs [hifk, hifm]
        exact Again.by ⟨(k + 1, c + d + 5), a1⟩ (Le.to (by simp [wk, i64_1]) (by simp [hfl, frQ, ng]) (by simp)) (by simp; omega)
  have hk2 : k = kl g a := by omega
  subst hk2
  have hk0 : ¬ kl g a = 0 := by
    have hh := hP.fine.kinds_pos _ (List.getElem_mem h.ha)
    have := h.kl
    omega
  have hul := tbl (kl g a)
  have hus := uses_s hP h.six hL
  have hue := usesC_len g r (T.zip S) g.agents.length
  have hg1 : a < (usesC g r (T.zip S) g.agents.length).length := by rw [hue]; exact h.ha
  have hg2 := usesC_get g r (T.zip S) g.agents.length a hg1
  have q1 := h.sz (i := 11) (by omega) (h.by_over hL.p (by omega) (tabQ g r a (T.zip S)) fun k hk => (h.tab hk).lt)
  have q2 := h.sz (i := 11) (by omega) (h.had_over hL.p (by omega))
  have q3 := h.sz (i := 12) (by omega) (h.sub (h.by_over hL.p (by omega) (tabQ g r a (T.zip S)) fun k hk => (h.tab hk).lt) (h.had_over hL.p (by omega)))
  have hsu := fsub_s (frQ (byQ g r a (tabQ g r a (T.zip S)) (T.zip S))) (frQ (hadQ g r a (T.zip S))) (frQ_ok (by omega)) (frQ_ok (by omega))
  rw [fix_frQ q1, fix_frQ q2, cap_of q3] at hsu
  rw [h.more hL.p]
  simp -dsimp -implicitDefEqProofs [hk0]
  refine eCall.of hus (by simp) ?_
  simp -dsimp -implicitDefEqProofs [hg1, hg2]
  refine eCall.of hsu (by simp [frQ, ng]) ?_
  simp -dsimp -implicitDefEqProofs [hul, frQ, ng]
  try rfl
end Go.Proofs.YtglhjjokijdagaaGreat.Sh

/- Lists joined; a weight grows. -/
namespace Go.Proofs.YtglhjjokijdagaaGreat.Sh
open Go Go.RowKit

theorem i64_one' : IntKind.i64.wrap 1 = 1 := by decide
theorem take_snoc {α : Type} (l : List α) (i : Nat) (h : i < l.length) : l.take (i + 1) = l.take i ++ [l[i]] := by
  rw [List.take_add_one, List.getElem?_eq_getElem h]; rfl

end Go.Proofs.YtglhjjokijdagaaGreat.Sh

/- One who learns by weights: plain; the reference's Grows and Gains. -/
namespace Go.Proofs.YtglhjjokijdagaaGreat.Sh
open Go Go.RowKit

/-- A weight behind a gain. -/
def grow (w x : Rat) : Rat := w * (1 + (1 / 2) * x)

theorem half_eq : (((1 : Int) : Rat) / ((2 : Int) : Rat)) = 1 / 2 := by decide +kernel
theorem mz_half : mz (1 / 2) = 1 := by decide +kernel
theorem mz_one : mz 1 = 1 := by decide +kernel
theorem mz_gain (x : Rat) : mz (1 + (1 / 2) * x) ≤ mz x + 3 := by
  have h1 := mz_mul (1 / 2) x
  have h2 := mz_add 1 ((1 / 2) * x)
  rw [mz_half] at h1
  rw [mz_one] at h2
  omega
theorem mz_grow (w x : Rat) : mz (grow w x) ≤ mz w + mz x + 3 := by
  have h1 := mz_mul w (1 + (1 / 2) * x)
  have h2 := mz_gain x
  unfold grow
  omega
theorem cap_mz1 {q : Rat} (h : mz q ≤ 2048) : cap q = q := cap_of (by have := sz_mz q; omega)
theorem fix_mz {q : Rat} (h : mz q ≤ 2048) : (frQ q).fix = q := fix_frQ (by have := sz_mz q; omega)
theorem ok_mz {q : Rat} (h : mz q ≤ 2048) : (frQ q).ok := frQ_ok (by have := sz_mz q; omega)



/-- Gains, as they are handed in. -/
@[simp] def rowsS (g : List (List FR)) : S1 := .sl true 1 (g.map fun l => [frsS l])

def goodX (f : FR) : Prop := f.fix ≤ 1 ∧ -1 ≤ f.fix
def goodRow (n : Nat) (l : List FR) : Prop := l.length ≠ 0 ∧ l.length = n ∧ ∀ f ∈ l, goodX f
def picks (g : List (List FR)) : Nat := (g.headD []).length

/-- What is wrong with gains. -/
def isGains (g : List (List FR)) (r : Int) : Prop :=
  (60 < g.length ∧ r = 1) ∨ (g.length ≤ 60 ∧ (∃ l ∈ g, 8 < l.length) ∧ r = 1) ∨ (g.length ≤ 60 ∧ (∀ l ∈ g, l.length ≤ 8) ∧ (∃ l ∈ g, ¬ goodRow (picks g) l) ∧ r = 140) ∨
  (g.length ≤ 60 ∧ (∀ l ∈ g, l.length ≤ 8) ∧ (∀ l ∈ g, goodRow (picks g) l) ∧ r = 0)

theorem isGains_of (g : List (List FR)) : ∃ r, isGains g r := by
  by_cases h1 : 60 < g.length
  · exact ⟨1, Or.inl ⟨h1, rfl⟩⟩
  · by_cases h2 : ∃ l ∈ g, 8 < l.length
    · exact ⟨1, Or.inr (Or.inl ⟨by omega, h2, rfl⟩)⟩
    · have h2' : ∀ l ∈ g, l.length ≤ 8 := fun l hl => Nat.not_lt.1 (fun h => h2 ⟨l, hl, h⟩)
      by_cases h3 : ∃ l ∈ g, ¬ goodRow (picks g) l
      · exact ⟨140, Or.inr (Or.inr (Or.inl ⟨by omega, h2', h3, rfl⟩))⟩
      · exact ⟨0, Or.inr (Or.inr (Or.inr ⟨by omega, h2', fun l hl => Classical.byContradiction fun h => h3 ⟨l, hl, h⟩, rfl⟩))⟩

theorem forall_take {α : Type} {P : α → Prop} {l : List α} {i : Nat} (h : i < l.length) (h1 : ∀ x ∈ l.take i, P x) (h2 : P l[i]) : ∀ x ∈ l.take (i + 1), P x := by
  intro x hx
  rw [take_snoc l i h] at hx
  rcases List.mem_append.1 hx with hx | hx
  · exact h1 x hx
  · simp at hx; subst hx; exact h2

theorem picks_zero {g : List (List FR)} (h : 0 < g.length) : g[0].length = picks g := by
  cases g with
  | nil => simp at h
  | cons x l => rfl

theorem fix_neg1 : (frQ (-1)).fix = -1 ∧ (frQ (-1)).ok := by
  have : mz (-1) ≤ 2048 := by have : mz (-1) = 1 := by decide +kernel
                              omega
  exact ⟨fix_mz this, ok_mz this⟩

end Go.Proofs.YtglhjjokijdagaaGreat.Sh

/- One who learns by weights: plain. -/
namespace Go.Proofs.YtglhjjokijdagaaGreat.Sh
open Go Go.RowKit

@[simp] def rowG (l : List FR) : List S1 := [frsS l]
instance : RowF 1 rowG := ⟨fun _ => rfl, fun x s h => by simp at h; subst h; rfl⟩

/-- The weights behind a round. -/
def stepW (w : List Rat) (xs : List FR) : List Rat := List.zipWith (fun q x => grow q x.fix) w xs
/-- The weights ahead of round t. -/
def wAt (n : Nat) (g : List (List FR)) : Nat → List Rat
  | 0 => List.replicate n 1
  | t + 1 => stepW (wAt n g t) (g.getD t [])
/-- The chances by some weights. -/
def chanceW (w : List Rat) : List Rat := w.map fun q => cap (q / sumQ w)
/-- The chances, round by round. -/
def outF (n : Nat) (g : List (List FR)) (i : Nat) : List (List FR) := (List.range i).map fun t => (chanceW (wAt n g t)).map frQ

theorem outF_snoc (n : Nat) (g : List (List FR)) (i : Nat) : outF n g (i + 1) = outF n g i ++ [(chanceW (wAt n g i)).map frQ] := by
  unfold outF; rw [List.range_succ, List.map_append]; rfl
theorem outF_len (n : Nat) (g : List (List FR)) (i : Nat) : (outF n g i).length = i := by simp [outF]

/-- Gains that are right and small. -/
structure GW (g : List (List FR)) (n : Nat) : Prop where
  n0 : n ≠ 0
  n8 : n ≤ 8
  len : g.length ≤ 60
  row : ∀ l ∈ g, l.length = n
  ok : ∀ l ∈ g, ∀ f ∈ l, f.ok
  good : ∀ l ∈ g, ∀ f ∈ l, goodX f
  mz : ∀ l ∈ g, ∀ f ∈ l, mz f.fix ≤ 1

section
variable {g : List (List FR)} {n : Nat}
theorem wAt_len (h : GW g n) : ∀ t, t ≤ g.length → (wAt n g t).length = n
  | 0, _ => by simp [wAt]
  | t + 1, ht => by
    have h1 := wAt_len h t (by omega)
    have h2 := h.row _ (List.getElem_mem (show t < g.length by omega))
    simp only [wAt, stepW, List.length_zipWith, h1]
    rw [getD_of [] (show t < g.length by omega), h2, Nat.min_self]

theorem grow_pos {q x : Rat} (h : 0 < q) (h1 : -1 ≤ x) : 0 < grow q x := by
  unfold grow
  exact Rat.mul_pos h (by grind)

theorem wAt_ok (h : GW g n) : ∀ t, t ≤ g.length → ∀ q ∈ wAt n g t, 0 < q ∧ mz q ≤ 1 + 4 * t
  | 0, _ => by
    intro q hq
    have := (List.mem_replicate.1 hq).2
    subst this
    rw [mz_one]
    exact ⟨by decide, by omega⟩
  | t + 1, ht => by
    intro q hq
    simp only [wAt, stepW] at hq
    rw [getD_of [] (show t < g.length by omega)] at hq
    obtain ⟨i, hi, rfl⟩ := List.getElem_of_mem hq
    rw [List.length_zipWith] at hi
    rw [List.getElem_zipWith]
    have hm := List.getElem_mem (show t < g.length by omega)
    have hx := List.getElem_mem (show i < g[t].length by omega)
    obtain ⟨h1, h2⟩ := wAt_ok h t (by omega) _ (List.getElem_mem (show i < (wAt n g t).length by omega))
    have h3 := h.good _ hm _ hx
    have h4 := h.mz _ hm _ hx
    refine ⟨grow_pos h1 h3.2, ?_⟩
    have := mz_grow (wAt n g t)[i] (g[t])[i].fix
    omega

theorem sumQ_pos : ∀ {l : List Rat}, l ≠ [] → (∀ q ∈ l, 0 < q) → 0 < sumQ l
  | [], h, _ => absurd rfl h
  | [q], _, h => by have := h q (by simp); simp only [sumQ]; grind
  | q :: r :: l, _, h => by
    have h1 := h q (by simp)
    have h2 : 0 < sumQ (r :: l) := sumQ_pos (by simp) (fun x hx => h x (by simp at hx ⊢; exact Or.inr hx))
    rw [sumQ]; grind

theorem wAt_sum (h : GW g n) (t : Nat) (ht : t ≤ g.length) : 0 < sumQ (wAt n g t) ∧ mz (sumQ (wAt n g t)) ≤ 8 * (2 + 4 * t) + 1 := by
  have h1 := wAt_len h t ht
  have hne : wAt n g t ≠ [] := fun e => h.n0 (by rw [← h1, e]; rfl)
  refine ⟨sumQ_pos hne (fun q hq => (wAt_ok h t ht q hq).1), ?_⟩
  have h2 := mz_sum (wAt n g t) (1 + 4 * t) (fun q hq => (wAt_ok h t ht q hq).2)
  rw [h1] at h2
  have h3 := Nat.mul_le_mul_right (1 + 4 * t + 1) h.n8
  have e : 1 + 4 * t + 1 = 2 + 4 * t := by omega
  rw [e] at h2 h3
  omega

theorem fix_map {l : List Rat} (h : ∀ q ∈ l, mz q ≤ 2048) : (l.map frQ).map FR.fix = l := by
  rw [List.map_map]
  conv => rhs; rw [← List.map_id l]
  exact List.map_congr_left (fun q hq => fix_mz (h q hq))

theorem wAt_small (h : GW g n) (t : Nat) (ht : t ≤ g.length) : Small ((wAt n g t).map frQ) (1 + 4 * t) := by
  have hl := h.len
  have hm : ∀ q ∈ wAt n g t, mz q ≤ 2048 := fun q hq => by have := (wAt_ok h t ht q hq).2; omega
  refine ⟨fun f hf => ?_, fun q hq => ?_, ?_⟩
  · obtain ⟨q, hq, rfl⟩ := List.mem_map.1 hf
    exact ok_mz (hm q hq)
  · rw [fix_map hm] at hq
    exact (wAt_ok h t ht q hq).2
  · rw [List.length_map, wAt_len h t ht]
    have h3 := Nat.mul_le_mul_right (1 + 4 * t + 1) h.n8
    omega

theorem wAt_next (h : GW g n) (t : Nat) (ht : t < g.length) (k : Nat) (h1 : k < (wAt n g t).length) (h2 : k < g[t].length) (h3 : k < (wAt n g (t + 1)).length) : (wAt n g (t + 1))[k] = grow (wAt n g t)[k] (g[t])[k].fix := by
  simp only [wAt, stepW]
  simp only [getD_of [] ht]
  rw [List.getElem_zipWith]

theorem chanceW_len (w : List Rat) : (chanceW w).length = w.length := by simp [chanceW]
end
end Go.Proofs.YtglhjjokijdagaaGreat.Sh

/- One who learns by weights: the reference's walk. -/
namespace Go.Proofs.YtglhjjokijdagaaGreat.Sh
open Go Go.RowKit

theorem gw_gains {g : List (List FR)} {n : Nat} (h : GW g n) (hp : picks g = n) : isGains g 0 :=
  Or.inr (Or.inr (Or.inr ⟨h.len, fun l hl => by rw [h.row l hl]; exact h.n8, fun l hl => ⟨by rw [h.row l hl]; exact h.n0, by rw [h.row l hl, hp], h.good l hl⟩, rfl⟩))

theorem ne_off {x c : Nat} (h : x < c) : ¬ x = c ∧ ¬ x = c + 1 ∧ ¬ x = c + 1 + 1 ∧ ¬ x = c + 1 + 1 + 1 ∧ ¬ x = c + 1 + 1 + 1 + 1 ∧ ¬ x = c + 1 + 1 + 1 + 1 + 1 ∧ ¬ x = c + 2 ∧ ¬ x = c + 3 ∧ ¬ x = c + 4 := by omega

theorem rep_snoc {α : Type} (i : Nat) (x : α) : List.replicate (i + 1) x = List.replicate i x ++ [x] := List.replicate_succ'

end Go.Proofs.YtglhjjokijdagaaGreat.Sh

/- One who learns by weights: lists for the walk of crowd.Weigh. -/
namespace Go.Proofs.YtglhjjokijdagaaGreat.Sh
open Go Go.RowKit

/-- The first ones from one list, the others from another. -/
def mix {α : Type} (a b : List α) (k : Nat) : List α := a.take k ++ b.drop k
theorem mix_len {α : Type} {a b : List α} (h : a.length = b.length) (k : Nat) : (mix a b k).length = b.length := by
  unfold mix; rw [List.length_append, List.length_take, List.length_drop]; omega
theorem mix_zero {α : Type} (a b : List α) : mix a b 0 = b := by simp [mix]
theorem mix_get {α : Type} {a b : List α} (h : a.length = b.length) {k : Nat} (hk : k < b.length) (h2 : k < (mix a b k).length) : (mix a b k)[k] = b[k] := by
  have h3 : (mix a b k)[k]? = b[k]? := by
    unfold mix
    rw [List.getElem?_append_right (by rw [List.length_take]; omega), List.getElem?_drop, List.length_take, Nat.min_eq_left (by omega), Nat.sub_self, Nat.add_zero]
  rw [List.getElem?_eq_getElem h2, List.getElem?_eq_getElem hk] at h3
  exact Option.some.inj h3
theorem mix_set {α : Type} {a b : List α} (h : a.length = b.length) {k : Nat} (hk : k < b.length) (hk' : k < a.length) : (mix a b k).set k a[k] = mix a b (k + 1) := by
  unfold mix
  rw [List.set_append_right _ _ (by rw [List.length_take]; omega), List.length_take, Nat.min_eq_left (by omega), Nat.sub_self, take_snoc a k hk', List.append_assoc, List.drop_eq_getElem_cons hk]
  rfl
theorem mix_pad {α : Type} {a b p : List α} (h : a.length = b.length) : mix (a ++ p) (b ++ p) a.length = a ++ p := by
  unfold mix
  rw [List.take_left, h, List.drop_left]

/-- Cells of an array, put out one after the other. -/
theorem rows_take {e : Nat} {α : Type} {f : α → List S1} [RowF e f] (a p : List α) : rowsOf (flat f (a ++ p)) 0 e a.length = a.map f := by
  apply List.ext_getElem
  · simp [rowsOf]
  · intro i h1 h2
    simp [rowsOf] at h1 ⊢
    rw [flat_row (e := e) (f := f) (a ++ p) i (by simp; omega)]
    rw [List.getElem_append_left h1]

theorem sum_peek (w p : List FR) (n : Nat) (o full) (ty : Nat) (hn : w.length = n) (hw : ∀ f ∈ w, f.ok) (h1 : n ≤ 1048576) (h0 : o = 0) :
    CallsX Tryz.prog 81 [.one (.ms o 0 n 3 full)] [⟨ty, flat rowFr (w ++ p)⟩] (.v (fS (cap (sumQ (w.map FR.fix))))) [some ⟨ty, flat rowFr (w ++ p)⟩] := by
  subst hn h0
  refine CallsX.peek (ys := [.one (.ms 0 0 w.length 3 full)]) (objs := [⟨ty, flat rowFr (w ++ p)⟩]) ?_ ?_
  · have hcl : (flat rowFr (w ++ p)).map S1.close = flat rowFr (w ++ p) := close_flat (e := 3) _
    have hle : 0 + w.length * 3 ≤ (flat rowFr (w ++ p)).length := by rw [flat_len (e := 3)]; simp; omega
    have := fsum_g false w hw h1
    show CallsS Tryz.prog 81 [.one (S1.peek [⟨ty, flat rowFr (w ++ p)⟩] (.ms 0 0 w.length 3 full))] _
    simp only [S1.peek, List.getElem?_cons_zero]
    rw [if_pos hle, hcl, rows_take (e := 3)]
    exact this
  · intro s hs
    simp at hs
    rcases hs with rfl | rfl | rfl
    · exact .bool _
    · exact .ints _ _
    · exact .ints _ _
end Go.Proofs.YtglhjjokijdagaaGreat.Sh

/- One who learns by weights: the walk of crowd.Weigh. -/
namespace Go.Proofs.YtglhjjokijdagaaGreat.Sh
open Go Go.RowKit

theorem neg_gt {x : Rat} : 1 < -x ↔ x < -1 := by constructor <;> intro h <;> grind

theorem arr0 (F : FR) : flat (optRow [.bool false, .nils, .nils] rowFr) (filled (fun _ : Nat => F) (List.replicate 8 0) 0) = [.bool false, .nils, .nils, .bool false, .nils, .nils, .bool false, .nils, .nils, .bool false, .nils, .nils, .bool false, .nils, .nils, .bool false, .nils, .nils, .bool false, .nils, .nils, .bool false, .nils, .nils] := rfl
theorem arr8 (F : FR) : flat (optRow [.bool false, .nils, .nils] rowFr) (filled (fun _ : Nat => F) (List.replicate 8 0) 8) = flat rowFr (List.replicate 8 F) := rfl

set_option maxRecDepth 20000 in
set_option maxHeartbeats 8000000 in
theorem weighC_s (g : List (List FR)) (hg : ∀ l ∈ g, ∀ f ∈ l, f.ok) (h0 : g.length ≤ 1048576) (h1 : ∀ l ∈ g, l.length ≤ 1048576) (hm : ∀ l ∈ g, ∀ f ∈ l, mz f.fix ≤ 1) (r : Int) (hr : isGains g r) :
    CallsS Tryz.prog 48 [.one (rowsS g)] (.tup [.one (if r = 0 ∧ g ≠ [] then rowsS (outF (picks g) g g.length) else .nils), .one (.int .i64 r)]) := by
  have mk1 := fmake_s 1 1 (by decide) (by decide) (by decide) (by decide) (by decide)
  rw [one_div_one] at mk1
  have mk2 := fmake_s 1 2 (by decide) (by decide) (by decide) (by decide) (by decide)
  rw [half_eq] at mk2
  obtain ⟨o1, o2, o3⟩ := fix_one
  obtain ⟨F, hF⟩ : ∃ F, F = frQ 1 := ⟨_, rfl⟩
  obtain ⟨H, hH⟩ : ∃ H, H = frQ (1 / 2) := ⟨_, rfl⟩
  have hh : mz (1 / 2) ≤ 2048 := by rw [mz_half]; omega
  have hHok : H.ok ∧ H.fix = 1 / 2 := by rw [hH]; exact ⟨ok_mz hh, fix_mz hh⟩
  rw [← frS_frQ, ← hF] at mk1
  rw [← frS_frQ, ← hH] at mk2
  rw [← hF] at o1 o2
  refine calls Tryz.func48 rfl (by rfl) (by rfl) (by kernel_rfl) ?_
  by_cases c0 : (60 : Int) < g.length
  · have : r = 1 := by
      rcases hr with ⟨_, h⟩ | ⟨h, _⟩ | ⟨h, _⟩ | ⟨h, _⟩
      · exact h
      all_goals omega
    simp -dsimp -implicitDefEqProofs [Tryz.f48, c0, this]
  simp -dsimp -implicitDefEqProofs [Tryz.f48, c0]
  refine sw_loop_e (fun p : {p : Nat // p ≤ g.length ∧ ∀ l ∈ g.take p, l.length ≤ 8} => SS.of [(0, .v (.one (rowsS g))), (29, .v (.one (rowsS g))), (30, I .i64 g.length), (31, I .i64 p.1)] [] 0)
    (fun p => g.length - p.1) ⟨0, Nat.zero_le _, by simp⟩ (by kernel_rfl) (Le.to (by simp) (by simp) (by simp)) ?_
  rintro ⟨i, hi, hq⟩
  by_cases a1 : i < g.length
  · have wi : IntKind.i64.wrap ((i : Int) + 1) = ((i + 1 : Nat) : Int) := by rw [wrap_i64 _ (by omega) (by omega)]; rfl
    by_cases c1 : (8 : Int) < g[i].length
    · have : r = 1 := by
        rcases hr with ⟨_, h⟩ | ⟨_, _, h⟩ | ⟨_, h, _⟩ | ⟨_, h, _⟩
        · exact h
        · exact h
        all_goals (have := h _ (List.getElem_mem a1); omega)
      simp -dsimp -implicitDefEqProofs [a1, wi, c1, this]
    · simp -dsimp -implicitDefEqProofs [a1, wi, c1]
      exact Again.by ⟨i + 1, a1, forall_take a1 hq (by omega)⟩ (Le.to (by simp [wi]) (by simp) (by simp)) (by simp; omega)
  have hi2 : i = g.length := by omega
  subst hi2
  rw [List.take_length] at hq
  by_cases hne : g = []
  · have : r = 0 := by
      subst hne
      rcases hr with ⟨h, _⟩ | ⟨_, ⟨l', h, h'⟩, _⟩ | ⟨_, _, ⟨l', h, h'⟩, _⟩ | ⟨_, _, _, h⟩
      · simp at h
      · cases h
      · cases h
      · exact h
    simp -dsimp -implicitDefEqProofs [hne, this]
  have g0 : 0 < g.length := List.length_pos_iff.2 hne
  have hp := picks_zero g0
  simp -dsimp -implicitDefEqProofs [hne]
  refine eCall.of mk1 (by simp) ?_
  simp -dsimp -implicitDefEqProofs
  refine eCall.of mk2 (by simp) ?_
  simp -dsimp -implicitDefEqProofs [g0, hp]
  have bad : ∀ l ∈ g, ¬ goodRow (picks g) l → r = 140 := fun l hl hb => by
    rcases hr with ⟨h, _⟩ | ⟨_, ⟨l', h, h'⟩, _⟩ | ⟨_, _, _, h⟩ | ⟨_, _, h, _⟩
    · omega
    · have := hq l' h; omega
    · exact h
    · exact absurd (h l hl) hb
  obtain ⟨n, hn⟩ : ∃ n, n = picks g := ⟨_, rfl⟩
  have hp0 : g[0].length = n := by rw [hn]; exact hp
  rw [← hn] at bad hp ⊢
  refine sw_loop_e (fun p : {p : Nat × Nat // p.1 ≤ g.length ∧ ∀ l ∈ g.take p.1, goodRow n l} => SS.of [(0, .v (.one (rowsS g))), (6, .v (.one (.mp 0 0))), (8, .v (.one (.mp 1 0))), (10, I .i64 n), (54, .v (.one (rowsS g))), (55, I .i64 g.length), (56, I .i64 p.1.1)] [(0, ⟨40, rowFr F⟩), (1, ⟨40, rowFr H⟩)] (p.1.2 + 2))
    (fun p => g.length - p.1.1) ⟨(0, 0), Nat.zero_le _, by simp⟩ (by kernel_rfl) (Le.to (by simp) (by simp) (by simp)) ?_
  rintro ⟨⟨t, c⟩, ht, hq2⟩
  simp only at ht hq2
  by_cases a1 : t < g.length
  · have wt : IntKind.i64.wrap ((t : Int) + 1) = ((t + 1 : Nat) : Int) := by rw [wrap_i64 _ (by omega) (by omega)]; rfl
    have hrow := hg _ (List.getElem_mem a1)
    have hrl := h1 _ (List.getElem_mem a1)
    have hmem := List.getElem_mem a1
    generalize hR : g[t] = R at *
    by_cases c2 : R.length = n
    case neg =>
      have := bad R hmem (fun h => c2 h.2.1)
      simp -dsimp -implicitDefEqProofs [a1, wt, hR, c2, this]
    by_cases c1 : n = 0
    · have := bad R hmem (fun h => h.1 (by omega))
      simp -dsimp -implicitDefEqProofs [a1, wt, hR, c2, c1, this]
    simp -dsimp -implicitDefEqProofs [a1, wt, hR, c2, c1]
    refine sw_loop_e (fun p : {p : Nat × Nat // p.1 ≤ n ∧ ∀ f ∈ R.take p.1, goodX f} => SS.of [(0, .v (.one (rowsS g))), (6, .v (.one (.mp 0 0))), (8, .v (.one (.mp 1 0))), (10, I .i64 n), (54, .v (.one (rowsS g))), (55, I .i64 g.length), (56, I .i64 t), (68, .v (.one (frsS R))), (69, I .i64 n), (70, I .i64 p.1.1)] [(0, ⟨40, rowFr F⟩), (1, ⟨40, rowFr H⟩)] (p.1.2 + 2))
      (fun p => n - p.1.1) ⟨(0, c), Nat.zero_le _, by simp⟩ (by kernel_rfl) (Le.to (by simp) (by simp) (by simp)) ?_
    rintro ⟨⟨k, d⟩, hk, hq3⟩
    simp only at hk hq3
    by_cases b1 : k < n
    · have wk : IntKind.i64.wrap ((k : Int) + 1) = ((k + 1 : Nat) : Int) := by rw [wrap_i64 _ (by omega) (by omega)]; rfl
      have b2 : k < R.length := by omega
      have hok : R[k].ok := hrow _ (List.getElem_mem b2)
      have hc1 := fcmp_s R[k] F hok o2
      have hsz := sz_fix hok
      have hsn : sz (-R[k].fix) ≤ 4096 := by rw [sz_neg]; exact hsz
      have hng := fneg_s R[k] hok
      have hc2 := fcmp_s (frQ (-R[k].fix)) F (frQ_ok (by omega)) o2
      rw [o1] at hc1
      rw [o1, fix_frQ hsn, frS_frQ] at hc2
      simp -dsimp -implicitDefEqProofs [b1, b2, wk]
      refine eCall.of hc1 (by simp) ?_
      by_cases d1 : 1 < R[k].fix
      · have d2 : 0 < cmpQ R[k].fix 1 := cmpQ_pos.2 d1
        have := bad R hmem (fun h => absurd (h.2.2 _ (List.getElem_mem b2)).1 (Rat.not_le.2 d1))
        simp -dsimp -implicitDefEqProofs [d2, this]
      have d2 : ¬ 0 < cmpQ R[k].fix 1 := mt cmpQ_pos.1 d1
      simp -dsimp -implicitDefEqProofs [d2]
      refine eCall.of hng (by simp) ?_
      simp -dsimp -implicitDefEqProofs [d2]
      refine eCall.of hc2 (by simp) ?_
      by_cases e1 : 1 < -R[k].fix
      · have e2 : 0 < cmpQ (-R[k].fix) 1 := cmpQ_pos.2 e1
        have := bad R hmem (fun h => absurd (h.2.2 _ (List.getElem_mem b2)).2 (Rat.not_le.2 (neg_gt.1 e1)))
        simp -dsimp -implicitDefEqProofs [d2, e2, this]
      have e2 : ¬ 0 < cmpQ (-R[k].fix) 1 := mt cmpQ_pos.1 e1
      simp -dsimp -implicitDefEqProofs [d2, e2]
      exact Again.by ⟨(k + 1, d + 1), b1, forall_take b2 hq3 ⟨Rat.not_lt.1 d1, Rat.not_lt.1 (mt neg_gt.2 e1)⟩⟩ (Le.to (by simp [wk]) (by simp) (by simp)) (by simp; omega)
    · have hk2 : k = n := by omega
      subst hk2
      rw [List.take_of_length_le (by omega)] at hq3
      simp -dsimp -implicitDefEqProofs [a1, hR]
      exact Again.by ⟨(t + 1, d), a1, forall_take a1 hq2 (by rw [hR]; exact ⟨by omega, c2, hq3⟩)⟩ (Le.to (by simp [wt]) (by simp) (by simp)) (by simp; omega)
  have ht2 : t = g.length := by omega
  subst ht2
  rw [List.take_length] at hq2
  have hr0 : r = 0 := by
    rcases hr with ⟨h, _⟩ | ⟨_, ⟨l', h, h'⟩, _⟩ | ⟨_, _, ⟨l', h, h'⟩, _⟩ | ⟨_, _, _, h⟩
    · omega
    · have := hq l' h; omega
    · exact absurd (hq2 l' h) (by rw [hn]; exact h')
    · exact h
  have hn0 : n ≠ 0 := by have := (hq2 _ (List.getElem_mem g0)).1; omega
  have hn8 : n ≤ 8 := by have := hq _ (List.getElem_mem g0); omega
  have h : GW g n := ⟨hn0, hn8, by omega, fun l hl => (hq2 l hl).2.1, hg, fun l hl => (hq2 l hl).2.2, hm⟩
  simp -dsimp -implicitDefEqProofs [hr0, hne]
  obtain ⟨Z, hZ0, hZ1, hZ2⟩ : ∃ Z : List Nat, Z.length = 8 ∧ flat (optRow [.bool false, .nils, .nils] rowFr) (filled (fun _ : Nat => F) Z 0) = [.bool false, .nils, .nils, .bool false, .nils, .nils, .bool false, .nils, .nils, .bool false, .nils, .nils, .bool false, .nils, .nils, .bool false, .nils, .nils, .bool false, .nils, .nils, .bool false, .nils, .nils] ∧ flat (optRow [.bool false, .nils, .nils] rowFr) (filled (fun _ : Nat => F) Z 8) = flat rowFr (List.replicate 8 F) := ⟨List.replicate 8 0, rfl, rfl, rfl⟩
  refine sw_loop_e (fun p : {p : Nat // p ≤ 8} => SS.of [(0, .v (.one (rowsS g))), (6, .v (.one (.mp 0 0))), (8, .v (.one (.mp 1 0))), (10, I .i64 n), (15, .v (.one (.mp (c + 2) 0))), (87, I .i64 p.1)] [(c + 2, ⟨150, flat (optRow [.bool false, .nils, .nils] rowFr) (filled (fun _ : Nat => F) Z p.1)⟩), (0, ⟨40, rowFr F⟩), (1, ⟨40, rowFr H⟩)] (c + 3))
    (fun p => 8 - p.1) ⟨0, Nat.zero_le _⟩ (by kernel_rfl) (Le.to (by simp) (by simp [hZ1]) (by simp)) ?_
  rintro ⟨i, hi⟩
  by_cases a2 : i < 8
  · have wi : IntKind.i64.wrap ((i : Int) + 1) = ((i + 1 : Nat) : Int) := by rw [wrap_i64 _ (by omega) (by omega)]; rfl
    have a2' : (i : Int) < 8 := by omega
    have ml := filled_len (fun _ : Nat => F) Z (show i ≤ Z.length by omega)
    have mset := filled_set (fun _ : Nat => F) Z i (by omega)
    rw [hZ0] at ml
    have hset := set3_flat (f := optRow [.bool false, .nils, .nils] rowFr) (filled (fun _ : Nat => F) Z i) i (some F) rfl (by omega)
    rw [mset] at hset
    simp -dsimp -implicitDefEqProofs [a2, a2', wi, ml]
    refine ⟨by omega, ?_⟩
    exact Again.by ⟨i + 1, a2⟩ (Le.to (by simp [wi]) (by simp [← hset]) (by simp)) (by simp; omega)
  obtain rfl : i = 8 := by omega
  simp -dsimp -implicitDefEqProofs
  obtain ⟨P, hP⟩ : ∃ P, P = List.replicate (8 - n) F := ⟨_, rfl⟩
  have hPl : P.length = 8 - n := by rw [hP]; simp
  have hw0 : (wAt n g 0).map frQ ++ P = List.replicate 8 F := by
    rw [hP, wAt, List.map_replicate, ← hF, List.replicate_append_replicate]; congr 1; omega
  obtain ⟨a, ha⟩ : ∃ a, a = c + 2 := ⟨_, rfl⟩
  rw [← ha, show c + 3 = a + 1 by omega]
  have a01 : ¬ a = 0 ∧ ¬ a = 1 ∧ ¬ 0 = a ∧ ¬ 1 = a := by omega
  refine sw_loop_e (fun p : {p : Nat × Nat × Nat // p.1 ≤ g.length ∧ a < p.2.1 ∧ (p.1 ≠ 0 → p.2.2 < p.2.1 ∧ a < p.2.2)} => SS.of [(6, .v (.one (.mp 0 0))), (8, .v (.one (.mp 1 0))), (10, I .i64 n), (15, .v (.one (.mp a 0))), (17, if p.1.1 = 0 then .v (.one .nils) else .v (.one (.ms p.1.2.2 0 p.1.1 1 true))), (94, .v (.one (rowsS g))), (95, I .i64 g.length), (96, I .i64 p.1.1)] ((if p.1.1 = 0 then [] else [(p.1.2.2, ⟨78, flat rowG (outF n g p.1.1)⟩)]) ++ [(a, ⟨150, flat rowFr ((wAt n g p.1.1).map frQ ++ P)⟩), (0, ⟨40, rowFr F⟩), (1, ⟨40, rowFr H⟩)]) p.1.2.1)
    (fun p => g.length - p.1.1) ⟨(0, a + 1, 0), Nat.zero_le _, Nat.lt_succ_self a, fun h => absurd rfl h⟩ (by kernel_rfl) (Le.to (by simp) (by simp [hZ2, hw0, a01]) (by simp)) ?_
  rintro ⟨⟨t, c1, oo⟩, ht, hac, hoo⟩
  simp only at ht hac hoo
  have a02 := ne_off (show a < c1 from hac)
  have a03 : ¬ c1 = a ∧ ¬ c1 = 0 ∧ ¬ c1 = 1 ∧ ¬ 0 = c1 ∧ ¬ 1 = c1 ∧ ¬ a = c1 := by omega
  have a04 : ¬ a = c1 + 1 ∧ ¬ 0 = c1 + 1 ∧ ¬ 1 = c1 + 1 := by omega
  have a05 : ¬ c1 ≤ 1 ∧ ¬ c1 ≤ a ∧ ¬ c1 ≤ 0 := by omega
  by_cases b1 : t < g.length
  · have wt : IntKind.i64.wrap ((t : Int) + 1) = ((t + 1 : Nat) : Int) := by rw [wrap_i64 _ (by omega) (by omega)]; rfl
    have hWl := wAt_len h t ht
    have hWl' := wAt_len h (t + 1) b1
    have hWm := fun q hq => (wAt_ok h t ht q hq).2
    obtain ⟨hS1, hS2⟩ := wAt_sum h t ht
    obtain ⟨w, hw⟩ : ∃ w, w = (wAt n g t).map frQ := ⟨_, rfl⟩
    obtain ⟨rowL, hrow⟩ : ∃ w, w = (chanceW (wAt n g t)).map frQ := ⟨_, rfl⟩
    obtain ⟨nextL, hnext⟩ : ∃ w, w = (wAt n g (t + 1)).map frQ := ⟨_, rfl⟩
    obtain ⟨SF, hSF⟩ : ∃ w, w = frQ (sumQ (wAt n g t)) := ⟨_, rfl⟩
    have hgt := h.row _ (List.getElem_mem b1)
    have wl : w.length = n := by rw [hw]; simp [hWl]
    have rl : rowL.length = n := by rw [hrow]; simp [chanceW_len, hWl]
    have nl : nextL.length = n := by rw [hnext]; simp [hWl']
    have hNW : (nextL ++ P).length = (w ++ P).length := by simp [wl, nl]
    have hsum := sum_peek w P n 0 false 150 wl (by rw [hw]; exact (wAt_small h t ht).ok) (by omega) rfl
    rw [show w.map FR.fix = wAt n g t by rw [hw]; exact fix_map (fun q hq => by have := hWm q hq; omega), cap_mz1 (by omega), ← frS_frQ, ← hSF] at hsum
    have hdiv : ∀ k (h1 : k < w.length) (h2 : k < rowL.length), CallsS Tryz.prog 98 [frS w[k], frS SF] (.tup [frS rowL[k], .one (.int .i64 0)]) := by
      intro k h1 h2
      have hk : k < (wAt n g t).length := by omega
      have m1 := hWm _ (List.getElem_mem hk)
      have e1 : w[k] = frQ (wAt n g t)[k] := by simp [hw]
      have e2 : rowL[k] = frQ (cap ((wAt n g t)[k] / sumQ (wAt n g t))) := by simp [hrow, chanceW]
      have := fdiv_s (frQ (wAt n g t)[k]) (frQ (sumQ (wAt n g t))) (ok_mz (by omega)) (ok_mz (by omega)) (by rw [fix_mz (by omega)]; grind)
      rw [fix_mz (by omega), fix_mz (by omega), ← frS_frQ, ← e1, ← e2, ← hSF] at this
      exact this
    have hgrow : ∀ k (h1 : k < w.length) (h2 : k < nextL.length) (h3 : k < g[t].length), ∃ HX GX, CallsS Tryz.prog 99 [frS H, frS g[t][k]] (.v (frS HX)) ∧ CallsS Tryz.prog 39 [frS F, frS HX] (.v (frS GX)) ∧ CallsS Tryz.prog 99 [frS w[k], frS GX] (.v (frS nextL[k])) := by
      intro k h1 h2 h3
      have hk : k < (wAt n g t).length := by omega
      have hk' : k < (wAt n g (t + 1)).length := by omega
      have m1 := hWm _ (List.getElem_mem hk)
      have m2 := h.mz _ (List.getElem_mem b1) _ (List.getElem_mem h3)
      have m3 := (wAt_ok h (t + 1) b1 _ (List.getElem_mem hk')).2
      have e1 : w[k] = frQ (wAt n g t)[k] := by simp [hw]
      have e2 : nextL[k] = frQ (wAt n g (t + 1))[k] := by simp [hnext]
      have e3 := wAt_next h t b1 k hk h3 hk'
      rw [e3] at m3
      have q1 := mz_mul (1 / 2) g[t][k].fix
      have q2 := mz_gain g[t][k].fix
      rw [mz_half] at q1
      refine ⟨frQ (1 / 2 * g[t][k].fix), frQ (1 + 1 / 2 * g[t][k].fix), ?_, ?_, ?_⟩
      · have := fmul_s H g[t][k] hHok.1 (h.ok _ (List.getElem_mem b1) _ (List.getElem_mem h3))
        rw [hHok.2, cap_mz1 (by omega), ← frS_frQ] at this
        exact this
      · have := fadd_s F (frQ (1 / 2 * g[t][k].fix)) o2 (ok_mz (by omega))
        rw [o1, fix_mz (by omega), cap_mz1 (by omega), ← frS_frQ] at this
        exact this
      · have := fmul_s (frQ (wAt n g t)[k]) (frQ (1 + 1 / 2 * g[t][k].fix)) (ok_mz (by omega)) (ok_mz (by omega))
        rw [fix_mz (by omega), fix_mz (by omega), show (wAt n g t)[k] * (1 + 1 / 2 * g[t][k].fix) = grow (wAt n g t)[k] g[t][k].fix from rfl, cap_mz1 (by omega), ← e3, ← frS_frQ, ← e1, ← e2] at this
        exact this
    have hsnoc := outF_snoc n g t
    rw [← hrow] at hsnoc
    have holen := outF_len n g t
    rw [← hw]
    have hflo := flat_snoc (f := rowG) rowL (outF n g t)
    rw [← hsnoc] at hflo
    by_cases t0 : t = 0
    · subst t0
      have h24 : 24 ≤ (w.length + P.length) * 3 := by omega
      have hcut : (n : Int) ≤ 8 := by omega
      have h3n : n * 3 ≤ (w.length + P.length) * 3 := by omega
      simp -dsimp -implicitDefEqProofs [b1, h24, hcut, h3n, a01, a02, hgt]
      refine eCall.lend [a] hsum (by simp [hgt]) (by simp) (by simp [a01, a02, hgt]) ?_
      simp -dsimp -implicitDefEqProofs [a01, a02, a03, hgt, hgt]
      refine sw_loop_e (fun p : {p : Nat × Nat × Nat // p.1 ≤ n ∧ c1 < p.2.1 ∧ (p.1 ≠ 0 → c1 < p.2.2 ∧ p.2.2 < p.2.1)} => SS.of [(6, .v (.one (.mp 0 0))), (8, .v (.one (.mp 1 0))), (10, I .i64 n), (15, .v (.one (.mp a 0))), (17, .v (.one .nils)), (94, .v (.one (rowsS g))), (95, I .i64 g.length), (96, I .i64 0), (20, .v (.one (.mp c1 0))), (21, if p.1.1 = 0 then .v (.one .nils) else .v (.one (.ms p.1.2.2 0 p.1.1 3 true))), (103, .v (.one (frsS g[0]))), (104, I .i64 n), (105, I .i64 p.1.1)]
          ((if p.1.1 = 0 then [] else [(p.1.2.2, ⟨40, flat rowFr (rowL.take p.1.1)⟩)]) ++ (c1, ⟨40, rowFr SF⟩) :: (a, ⟨150, flat rowFr (mix (nextL ++ P) (w ++ P) p.1.1)⟩) :: (0, ⟨40, rowFr F⟩) :: (1, ⟨40, rowFr H⟩) :: []) p.1.2.1)
        (fun p => n - p.1.1) ⟨(0, c1 + 1, 0), Nat.zero_le _, by simp only; omega, fun h => absurd rfl h⟩ (by kernel_rfl) (Le.to (by simp [hgt]) (by simp [a01, a02, a03, a04, a05, mix_zero, hgt, hgt]) (by simp)) ?_
      rintro ⟨⟨k, c, orow⟩, hk, hc1, hoc⟩
      simp only at hk hc1 hoc
      by_cases d1 : k < n
      · have wk : IntKind.i64.wrap ((k : Int) + 1) = ((k + 1 : Nat) : Int) := by rw [wrap_i64 _ (by omega) (by omega)]; rfl
        have k1 : k < w.length := by omega
        have k2 : k < rowL.length := by omega
        have k3 : k < nextL.length := by omega
        have k4 : k < g[0].length := by omega
        have k8 : k < 8 := by omega
        have k8' : (k : Int) < 8 := by omega
        have k24 : 3 ≤ 24 - k * 3 := by omega
        have k25 : k * 3 + 3 ≤ 24 := by omega
        have hfl1 := flat_snoc (f := rowFr) rowL[k] (rowL.take k)
        rw [← take_snoc rowL k k2] at hfl1
        have hd := hdiv k k1 k2
        obtain ⟨HX, GX, hg1, hg2, hg3⟩ := hgrow k k1 k3 k4
        obtain ⟨M, hM, hM8, hMk, hMs⟩ : ∃ M, mix (nextL ++ P) (w ++ P) k = M ∧ ∃ h8 : M.length = 8, M[k]'(by omega) = w[k] ∧ M.set k nextL[k] = mix (nextL ++ P) (w ++ P) (k + 1) := by
          have hMs := mix_set hNW (k := k) (by simp; omega) (by simp; omega)
          rw [List.getElem_append_left k3] at hMs
          refine ⟨_, rfl, by rw [mix_len hNW]; simp; omega, ?_, hMs⟩
          rw [mix_get hNW (by simp; omega)]; exact List.getElem_append_left k1
        have hset := set3_flat (f := rowFr) M k nextL[k] rfl (by omega)
        rw [hMs] at hset
        generalize rowL[k] = RK at *
        generalize nextL[k] = NK at *
        generalize hWK : w[k] = WK at *
        have hrk := flat_row (e := 3) (f := rowFr) M k (by omega)
        rw [hMk] at hrk
        have z1 := ne_off (show c1 < c by omega)
        have z2 := ne_off (show a < c by omega)
        have z3 := ne_off (show 0 < c by omega)
        have z4 := ne_off (show 1 < c by omega)
        have z7 : ¬ c = c + 1 ∧ ¬ c = c + 1 + 1 ∧ ¬ c = c + 1 + 1 + 1 ∧ ¬ c = c1 ∧ ¬ c = a ∧ ¬ c + 3 = a := by omega
        have z6 : ¬ c = 0 ∧ ¬ c = 1 ∧ ¬ c + 1 = 0 ∧ ¬ c + 1 = 1 := by omega

        by_cases k0 : k = 0
        · subst k0
          have hrk0 : (flat rowFr M).take 3 = [.bool WK.neg, wS WK.num, wS WK.den] := by simpa using hrk
          have hset0 : flat rowFr (mix (nextL ++ P) (w ++ P) 1) = (((flat rowFr M).set 0 (.bool NK.neg)).set 1 (wS NK.num)).set 2 (wS NK.den) := by rw [hset]
          have f1 : flat rowFr (rowL.take 1) = rowFr RK := by simpa [flat_nil] using hfl1
          simp -dsimp -implicitDefEqProofs [d1, k4, hgt, hM, hM8, hrk0, z1, z2, z3, z4, z6, z7, a01, a02, a03, a04, hgt]
          refine eCall.of hd (by simp) ?_
          simp -dsimp -implicitDefEqProofs [d1, k4, hgt, hM, hM8, hrk0, z1, z2, z3, z4, z6, z7, a01, a02, a03, a04, slots, hgt]
          refine eCall.of hg1 (by simp) ?_
          simp -dsimp -implicitDefEqProofs [d1, k4, hgt, hM, hM8, hrk0, z1, z2, z3, z4, z6, z7, a01, a02, a03, a04, slots, hgt]
          refine eCall.of hg2 (by simp) ?_
          simp -dsimp -implicitDefEqProofs [d1, k4, hgt, hM, hM8, hrk0, z1, z2, z3, z4, z6, z7, a01, a02, a03, a04, slots, hgt]
          refine eCall.of hg3 (by simp) ?_
          simp -dsimp -implicitDefEqProofs [d1, k4, hgt, hM, hM8, hrk0, z1, z2, z3, z4, z6, z7, a01, a02, a03, a04, slots, hgt]
          exact Again.by ⟨(1, c + 4, c + 3), by omega, by simp only; omega, fun _ => by simp only; omega⟩ (Le.to (by simp [i64_one', hgt]) (by simp [f1, hset0, z1, z2, z3, z4, z6, z7, a01, a02, a03, a04, hgt]) (by simp)) (by simp; omega)
        · obtain ⟨g1, g2⟩ := hoc k0
          have y1 : ¬ c1 = orow ∧ ¬ a = orow ∧ ¬ 0 = orow ∧ ¬ 1 = orow ∧ ¬ orow = a ∧ ¬ orow = c1 ∧ ¬ orow = 0 ∧ ¬ orow = 1 := by omega
          have y4 := ne_off (show orow < c by omega)
          have y7 : ¬ c = orow := by omega
          have L1 : (rowL.take k).length = k := by simp; omega
          simp -dsimp -implicitDefEqProofs [d1, k4, k8, k8', k24, k25, k0, wk, hgt, hM, hM8, hrk, hMk, z1, z2, z3, z4, z6, z7, y1, y4, y7, a01, a02, a03, a04, hgt]
          refine eCall.of hd (by simp) ?_
          simp -dsimp -implicitDefEqProofs [d1, k4, k8, k8', k24, k25, k0, wk, hgt, hM, hM8, hrk, hMk, L1, z1, z2, z3, z4, z6, z7, y1, y4, y7, a01, a02, a03, a04, slots, hgt]
          refine ⟨by omega, ?_⟩
          refine eCall.of hg1 (by simp) ?_
          simp -dsimp -implicitDefEqProofs [d1, k4, k8, k8', k24, k25, k0, wk, hgt, hM, hM8, hrk, hMk, L1, z1, z2, z3, z4, z6, z7, y1, y4, y7, a01, a02, a03, a04, slots, hgt]
          refine eCall.of hg2 (by simp) ?_
          simp -dsimp -implicitDefEqProofs [d1, k4, k8, k8', k24, k25, k0, wk, hgt, hM, hM8, hrk, hMk, L1, z1, z2, z3, z4, z6, z7, y1, y4, y7, a01, a02, a03, a04, slots, hgt]
          refine eCall.of hg3 (by simp) ?_
          simp -dsimp -implicitDefEqProofs [d1, k4, k8, k8', k24, k25, k0, wk, hgt, hM, hM8, hrk, hMk, L1, z1, z2, z3, z4, z6, z7, y1, y4, y7, a01, a02, a03, a04, slots, hgt]
          exact Again.by ⟨(k + 1, c + 4, c + 3), by omega, by simp only; omega, fun _ => by simp only; omega⟩ (Le.to (by simp [wk, hgt]) (by simp [hfl1, ← hset, z1, z2, z3, z4, z6, z7, y1, y4, y7, a01, a02, a03, a04, hgt]) (by simp)) (by simp; omega)
      · have k0 : ¬ k = 0 := by omega
        obtain ⟨g1, g2⟩ := hoc k0
        have z1 := ne_off (show c1 < c by omega)
        have z2 := ne_off (show a < c by omega)
        have z3 := ne_off (show 0 < c by omega)
        have z4 := ne_off (show 1 < c by omega)
        have z7 : ¬ c = c + 1 ∧ ¬ c = c1 ∧ ¬ c = a ∧ ¬ c + 1 = a ∧ ¬ c + 1 = c := by omega
        have z6 : ¬ c = 0 ∧ ¬ c = 1 ∧ ¬ c + 1 = 0 ∧ ¬ c + 1 = 1 := by omega
        have y1 : ¬ c1 = orow ∧ ¬ a = orow ∧ ¬ 0 = orow ∧ ¬ 1 = orow ∧ ¬ orow = a ∧ ¬ orow = c1 ∧ ¬ orow = 0 ∧ ¬ orow = 1 := by omega
        have y4 := ne_off (show orow < c by omega)
        have y7 : ¬ c = orow ∧ ¬ c + 1 = orow := by omega
        have T3 : mix (nextL ++ P) (w ++ P) n = nextL ++ P := by have := mix_pad (p := P) (nl.trans wl.symm); rw [nl] at this; exact this

        obtain rfl : k = n := by omega
        have T1 : rowL.take k = rowL := List.take_of_length_le (by omega)
        simp -dsimp -implicitDefEqProofs [wl, rl, nl, k0, T1, T3, y1, y4, y7, z1, z2, z3, z4, z6, z7, slots, holen, hgt, hgt]
        rw [show outF k g 0 = [] from rfl, flat_nil, List.nil_append] at hflo
        exact Again.by ⟨(1, c + 2, c + 1), by omega, by simp only; omega, fun _ => by simp only; omega⟩ (Le.to (by simp [i64_one', y1]) (by simp [hflo, ← hnext, a03, y1, y4, y7, z1, z2, z3, z4, z6, z7, a01]) (by simp)) (by simp; omega)
    · obtain ⟨o1', o2'⟩ := hoo t0
      have o2 : ¬ oo = c1 ∧ ¬ oo = a ∧ ¬ a = oo ∧ ¬ oo = 0 ∧ ¬ oo = 1 ∧ ¬ 0 = oo ∧ ¬ 1 = oo ∧ ¬ oo = c1 + 1 ∧ ¬ c1 ≤ oo := by omega
      have h24 : 24 ≤ (w.length + P.length) * 3 := by omega
      have hcut : (n : Int) ≤ 8 := by omega
      have h3n : n * 3 ≤ (w.length + P.length) * 3 := by omega
      simp -dsimp -implicitDefEqProofs [b1, h24, hcut, h3n, a01, a02, t0, o2]
      refine eCall.lend [a] hsum (by simp [t0, o2]) (by simp) (by simp [a01, a02, t0, o2]) ?_
      simp -dsimp -implicitDefEqProofs [a01, a02, a03, hgt, t0, o2]
      refine sw_loop_e (fun p : {p : Nat × Nat × Nat // p.1 ≤ n ∧ c1 < p.2.1 ∧ (p.1 ≠ 0 → c1 < p.2.2 ∧ p.2.2 < p.2.1)} => SS.of [(6, .v (.one (.mp 0 0))), (8, .v (.one (.mp 1 0))), (10, I .i64 n), (15, .v (.one (.mp a 0))), (17, .v (.one (.ms oo 0 t 1 true))), (94, .v (.one (rowsS g))), (95, I .i64 g.length), (96, I .i64 t), (20, .v (.one (.mp c1 0))), (21, if p.1.1 = 0 then .v (.one .nils) else .v (.one (.ms p.1.2.2 0 p.1.1 3 true))), (103, .v (.one (frsS g[t]))), (104, I .i64 n), (105, I .i64 p.1.1)]
          ((if p.1.1 = 0 then [] else [(p.1.2.2, ⟨40, flat rowFr (rowL.take p.1.1)⟩)]) ++ (c1, ⟨40, rowFr SF⟩) :: (a, ⟨150, flat rowFr (mix (nextL ++ P) (w ++ P) p.1.1)⟩) :: (0, ⟨40, rowFr F⟩) :: (1, ⟨40, rowFr H⟩) :: [(oo, ⟨78, flat rowG (outF n g t)⟩)]) p.1.2.1)
        (fun p => n - p.1.1) ⟨(0, c1 + 1, 0), Nat.zero_le _, by simp only; omega, fun h => absurd rfl h⟩ (by kernel_rfl) (Le.to (by simp [t0, o2]) (by simp [a01, a02, a03, a04, a05, mix_zero, t0, o2, o2]) (by simp)) ?_
      rintro ⟨⟨k, c, orow⟩, hk, hc1, hoc⟩
      simp only at hk hc1 hoc
      by_cases d1 : k < n
      · have wk : IntKind.i64.wrap ((k : Int) + 1) = ((k + 1 : Nat) : Int) := by rw [wrap_i64 _ (by omega) (by omega)]; rfl
        have k1 : k < w.length := by omega
        have k2 : k < rowL.length := by omega
        have k3 : k < nextL.length := by omega
        have k4 : k < g[t].length := by omega
        have k8 : k < 8 := by omega
        have k8' : (k : Int) < 8 := by omega
        have k24 : 3 ≤ 24 - k * 3 := by omega
        have k25 : k * 3 + 3 ≤ 24 := by omega
        have hfl1 := flat_snoc (f := rowFr) rowL[k] (rowL.take k)
        rw [← take_snoc rowL k k2] at hfl1
        have hd := hdiv k k1 k2
        obtain ⟨HX, GX, hg1, hg2, hg3⟩ := hgrow k k1 k3 k4
        obtain ⟨M, hM, hM8, hMk, hMs⟩ : ∃ M, mix (nextL ++ P) (w ++ P) k = M ∧ ∃ h8 : M.length = 8, M[k]'(by omega) = w[k] ∧ M.set k nextL[k] = mix (nextL ++ P) (w ++ P) (k + 1) := by
          have hMs := mix_set hNW (k := k) (by simp; omega) (by simp; omega)
          rw [List.getElem_append_left k3] at hMs
          refine ⟨_, rfl, by rw [mix_len hNW]; simp; omega, ?_, hMs⟩
          rw [mix_get hNW (by simp; omega)]; exact List.getElem_append_left k1
        have hset := set3_flat (f := rowFr) M k nextL[k] rfl (by omega)
        rw [hMs] at hset
        generalize rowL[k] = RK at *
        generalize nextL[k] = NK at *
        generalize hWK : w[k] = WK at *
        have hrk := flat_row (e := 3) (f := rowFr) M k (by omega)
        rw [hMk] at hrk
        have z1 := ne_off (show c1 < c by omega)
        have z2 := ne_off (show a < c by omega)
        have z3 := ne_off (show 0 < c by omega)
        have z4 := ne_off (show 1 < c by omega)
        have z7 : ¬ c = c + 1 ∧ ¬ c = c + 1 + 1 ∧ ¬ c = c + 1 + 1 + 1 ∧ ¬ c = c1 ∧ ¬ c = a ∧ ¬ c + 3 = a := by omega
        have z6 : ¬ c = 0 ∧ ¬ c = 1 ∧ ¬ c + 1 = 0 ∧ ¬ c + 1 = 1 := by omega
        have o3 := ne_off (show oo < c by omega)
        have o4 : ¬ c = oo := by omega
        by_cases k0 : k = 0
        · subst k0
          have hrk0 : (flat rowFr M).take 3 = [.bool WK.neg, wS WK.num, wS WK.den] := by simpa using hrk
          have hset0 : flat rowFr (mix (nextL ++ P) (w ++ P) 1) = (((flat rowFr M).set 0 (.bool NK.neg)).set 1 (wS NK.num)).set 2 (wS NK.den) := by rw [hset]
          have f1 : flat rowFr (rowL.take 1) = rowFr RK := by simpa [flat_nil] using hfl1
          simp -dsimp -implicitDefEqProofs [d1, k4, hgt, hM, hM8, hrk0, z1, z2, z3, z4, z6, z7, a01, a02, a03, a04, t0, o2]
          refine eCall.of hd (by simp) ?_
          simp -dsimp -implicitDefEqProofs [d1, k4, hgt, hM, hM8, hrk0, z1, z2, z3, z4, z6, z7, a01, a02, a03, a04, slots, t0, o2]
          refine eCall.of hg1 (by simp) ?_
          simp -dsimp -implicitDefEqProofs [d1, k4, hgt, hM, hM8, hrk0, z1, z2, z3, z4, z6, z7, a01, a02, a03, a04, slots, t0, o2]
          refine eCall.of hg2 (by simp) ?_
          simp -dsimp -implicitDefEqProofs [d1, k4, hgt, hM, hM8, hrk0, z1, z2, z3, z4, z6, z7, a01, a02, a03, a04, slots, t0, o2]
          refine eCall.of hg3 (by simp) ?_
          simp -dsimp -implicitDefEqProofs [d1, k4, hgt, hM, hM8, hrk0, z1, z2, z3, z4, z6, z7, a01, a02, a03, a04, slots, t0, o2]
          exact Again.by ⟨(1, c + 4, c + 3), by omega, by simp only; omega, fun _ => by simp only; omega⟩ (Le.to (by simp [i64_one', t0, o2]) (by simp [f1, hset0, z1, z2, z3, z4, z6, z7, a01, a02, a03, a04, o2, o3, o4]) (by simp)) (by simp; omega)
        · obtain ⟨g1, g2⟩ := hoc k0
          have y1 : ¬ c1 = orow ∧ ¬ a = orow ∧ ¬ 0 = orow ∧ ¬ 1 = orow ∧ ¬ orow = a ∧ ¬ orow = c1 ∧ ¬ orow = 0 ∧ ¬ orow = 1 := by omega
          have y4 := ne_off (show orow < c by omega)
          have y7 : ¬ c = orow := by omega
          have L1 : (rowL.take k).length = k := by simp; omega
          simp -dsimp -implicitDefEqProofs [d1, k4, k8, k8', k24, k25, k0, wk, hgt, hM, hM8, hrk, hMk, z1, z2, z3, z4, z6, z7, y1, y4, y7, a01, a02, a03, a04, t0, o2]
          refine eCall.of hd (by simp) ?_
          simp -dsimp -implicitDefEqProofs [d1, k4, k8, k8', k24, k25, k0, wk, hgt, hM, hM8, hrk, hMk, L1, z1, z2, z3, z4, z6, z7, y1, y4, y7, a01, a02, a03, a04, slots, t0, o2]
          refine ⟨by omega, ?_⟩
          refine eCall.of hg1 (by simp) ?_
          simp -dsimp -implicitDefEqProofs [d1, k4, k8, k8', k24, k25, k0, wk, hgt, hM, hM8, hrk, hMk, L1, z1, z2, z3, z4, z6, z7, y1, y4, y7, a01, a02, a03, a04, slots, t0, o2]
          refine eCall.of hg2 (by simp) ?_
          simp -dsimp -implicitDefEqProofs [d1, k4, k8, k8', k24, k25, k0, wk, hgt, hM, hM8, hrk, hMk, L1, z1, z2, z3, z4, z6, z7, y1, y4, y7, a01, a02, a03, a04, slots, t0, o2]
          refine eCall.of hg3 (by simp) ?_
          simp -dsimp -implicitDefEqProofs [d1, k4, k8, k8', k24, k25, k0, wk, hgt, hM, hM8, hrk, hMk, L1, z1, z2, z3, z4, z6, z7, y1, y4, y7, a01, a02, a03, a04, slots, t0, o2]
          exact Again.by ⟨(k + 1, c + 4, c + 3), by omega, by simp only; omega, fun _ => by simp only; omega⟩ (Le.to (by simp [wk, t0, o2]) (by simp [hfl1, ← hset, z1, z2, z3, z4, z6, z7, y1, y4, y7, a01, a02, a03, a04, o2, o3, o4, (show ¬ oo = orow by omega)]) (by simp)) (by simp; omega)
      · have k0 : ¬ k = 0 := by omega
        obtain ⟨g1, g2⟩ := hoc k0
        have z1 := ne_off (show c1 < c by omega)
        have z2 := ne_off (show a < c by omega)
        have z3 := ne_off (show 0 < c by omega)
        have z4 := ne_off (show 1 < c by omega)
        have z7 : ¬ c = c + 1 ∧ ¬ c = c1 ∧ ¬ c = a ∧ ¬ c + 1 = a ∧ ¬ c + 1 = c := by omega
        have z6 : ¬ c = 0 ∧ ¬ c = 1 ∧ ¬ c + 1 = 0 ∧ ¬ c + 1 = 1 := by omega
        have y1 : ¬ c1 = orow ∧ ¬ a = orow ∧ ¬ 0 = orow ∧ ¬ 1 = orow ∧ ¬ orow = a ∧ ¬ orow = c1 ∧ ¬ orow = 0 ∧ ¬ orow = 1 := by omega
        have y4 := ne_off (show orow < c by omega)
        have y7 : ¬ c = orow ∧ ¬ c + 1 = orow := by omega
        have T3 : mix (nextL ++ P) (w ++ P) n = nextL ++ P := by have := mix_pad (p := P) (nl.trans wl.symm); rw [nl] at this; exact this
        have o3 := ne_off (show oo < c by omega)
        have o4 : ¬ c = oo := by omega
        have p1 : ¬ oo = orow ∧ ¬ orow = oo := by omega
        obtain rfl : k = n := by omega
        have T1 : rowL.take k = rowL := List.take_of_length_le (by omega)
        simp -dsimp -implicitDefEqProofs [wl, rl, nl, k0, T1, T3, y1, y4, y7, z1, z2, z3, z4, z6, z7, slots, holen, o2, o3, o4, p1, t0, o2]
        refine ⟨by omega, ?_⟩
        exact Again.by ⟨(t + 1, c + 2, c + 1), by omega, by simp only; omega, fun _ => by simp only; omega⟩ (Le.to (by simp [wt, y1, p1]) (by simp [hflo, ← hnext, a03, y1, y4, y7, z1, z2, z3, z4, z6, z7, a01, o2, o3, o4, p1]) (by simp)) (by simp; omega)
  · obtain rfl : t = g.length := by omega
    have t0 : ¬ g.length = 0 := by omega
    have holen := outF_len n g g.length
    obtain ⟨o1', o2'⟩ := hoo t0
    have o2 : ¬ oo = c1 ∧ ¬ oo = a ∧ ¬ a = oo ∧ ¬ oo = 0 ∧ ¬ oo = 1 ∧ ¬ 0 = oo ∧ ¬ 1 = oo := by omega
    simp -dsimp -implicitDefEqProofs [t0, hne, holen, hr0, o2]
end Go.Proofs.YtglhjjokijdagaaGreat.Sh

