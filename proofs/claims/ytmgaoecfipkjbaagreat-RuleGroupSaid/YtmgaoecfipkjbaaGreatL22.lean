/- A part of the proof: R87, R88, R89, R90 -/
import Derived.Test.YtmgaoecfipkjbaaGreatL21
set_option linter.unusedSimpArgs false
set_option linter.unusedVariables false
/- Groups: the reference's walk. -/
namespace Go.Proofs.YtmgaoecfipkjbaaGreat.Sh
open Go Go.RowKit

set_option maxRecDepth 20000 in
theorem atX_s (g : Gm) (h : Fine g) (n : Nat) (hn : n < 256) : CallsX Tryz.prog 31 [gmS g, .one (.int .i64 (n : Int))] [] (.v (.one (.ms 0 0 g.agents.length 1 true))) [some ⟨3, flat rowInt (atG g n)⟩] := by
  obtain ⟨h1, -, -, h4, -⟩ := sizeOk_all h.sz
  refine callsX Tryz.func31 rfl (by rfl) (by rfl) (by kernel_rfl) (by simp) ?_
  simp -dsimp -implicitDefEqProofs [Tryz.f31]
  refine ⟨by omega, ?_⟩
  refine sw_loop_e (fun q : {q : Nat × Nat × List Int // q.1 ≤ g.agents.length ∧ q.2.1 < 256 ∧ q.1 + q.2.2.length = g.agents.length ∧ atR ((szs g).take q.1).reverse q.2.1 ++ q.2.2 = atG g n} => SS.of [(1, I .i64 q.1.2.1), (2, .v (.one (.mp 0 0))), (5, .v (.one (.ms 1 0 g.agents.length 1 true))), (6, I .i64 ((q.1.1 : Int) - 1))] [(0, ⟨26, rowGm g⟩), (1, ⟨3, flat rowInt (List.replicate q.1.1 0 ++ q.1.2.2)⟩)] 2)
    (fun q => q.1.1) ⟨(g.agents.length, n, []), Nat.le_refl _, hn, by simp, by rw [List.take_of_length_le (by simp [szs]), List.append_nil]; rfl⟩ (by kernel_rfl) (Le.to (by simp; rw [wrap_i64 _ (by omega) (by omega)]) (by simp [flat_int]) (by simp)) ?_
  rintro ⟨⟨j, P, tl⟩, hj, hP, hlen, hinv⟩
  simp only at hj hP hlen hinv
  by_cases a1 : 0 < j
  · obtain ⟨i, rfl⟩ : ∃ i, j = i + 1 := ⟨j - 1, by omega⟩
    have e1 : (((i + 1 : Nat) : Int) - 1) = (i : Int) := by omega
    have a2 : i < g.agents.length := by omega
    have hk := h4 _ (List.getElem_mem a2)
    have hk0 := h.kinds_pos _ (List.getElem_mem a2)
    have hrev : ((szs g).take (i + 1)).reverse = g.agents[i].kinds.length :: ((szs g).take i).reverse := by
      rw [takeSnoc (szs g) i (by simp [szs]; omega), List.reverse_append]; simp [szs]
    rw [hrev, atR, List.append_assoc] at hinv
    have hll : (List.replicate (i + 1) (0 : Int) ++ tl).length = g.agents.length := by simp; omega
    have hst : (List.replicate (i + 1) (0 : Int) ++ tl).set i ((P % g.agents[i].kinds.length : Nat) : Int) = List.replicate i 0 ++ (((P % g.agents[i].kinds.length : Nat) : Int) :: tl) := by
      rw [List.replicate_succ', List.append_assoc, List.set_append_right _ _ (by simp), List.length_replicate, Nat.sub_self]; rfl
    have hwr : IntKind.i64.wrap ((i : Int) - 1) = (i : Int) - 1 := wrap_i64 _ (by omega) (by omega)
    have hrm : ((P : Int)).tmod (g.agents[i].kinds.length : Int) = ((P % g.agents[i].kinds.length : Nat) : Int) := rfl
    have hwq : IntKind.i64.wrap ((P : Int) / (g.agents[i].kinds.length : Int)) = (P : Int) / (g.agents[i].kinds.length : Int) := by
      rw [← Int.natCast_ediv]
      have := Nat.div_le_self P g.agents[i].kinds.length
      generalize P / g.agents[i].kinds.length = D at *
      exact wrap_i64 _ (by omega) (by omega)
    generalize ((P % g.agents[i].kinds.length : Nat) : Int) = x at hrm hst hinv
    have hst2 : (List.replicate (i + 1) (0 : Int)).set i x ++ tl = List.replicate i 0 ++ x :: tl := by
      rw [← hst, List.set_append_left _ _ (by simp)]
    rw [e1]
    have hk' : ¬ g.agents[i].kinds = [] := fun e => by rw [e] at hk0; exact absurd hk0 (by decide)
    simp -dsimp -implicitDefEqProofs [a2, hll]
    refine ⟨hk', by omega, hk', ?_⟩
    refine Again.by ⟨(i, P / g.agents[i].kinds.length, x :: tl), by omega, by simp only; have := Nat.div_le_self P g.agents[i].kinds.length; omega, by simp at hlen ⊢; omega, hinv⟩ (Le.to (by simp [hwr, hwq]) (by simp [hrm, set_int, hst2]) (by simp)) (by simp)
  have hj2 : j = 0 := by omega
  subst hj2
  have ht : tl = atG g n := by rw [← hinv]; rfl
  have hl2 : tl.length = g.agents.length := by omega
  simp -dsimp -implicitDefEqProofs [ht]
  exact RetX.by [] [1] (by simp) (by simp) (by simp) (by simp)

set_option maxRecDepth 20000 in
set_option maxHeartbeats 1000000 in
theorem better4_s (g : Gm) (r : List Ce) (h : Play g r) (M : List Nat) (hM : MOk g M) (hne : M ≠ []) (m n : Nat) (hm : m < r.length) (hn : n < repM g M) : ∀ b, (b = true ↔ BetterM g r M m n) →
    CallsS Tryz.prog 125 [gmS g, ruS r, .one (intsS (intsN M)), .one (intsS (toldM g M n)), .one (.int .i64 (m : Int))] (B b) := by
  intro b hb
  have hf := h.fine
  obtain ⟨q1, -, -, q4, q5⟩ := sizeOk_all hf.sz
  have hrl := h.good.2.2.1
  have hal := atG_length g m
  have hl4 := hM.len
  have htl := toldM_len g M n
  obtain ⟨t1, t2, t3⟩ := toM_lt h (M := M) hm hn
  have hle := repM_le hf hM
  refine calls Tryz.func125 rfl (by rfl) (by rfl) (by kernel_rfl) ?_
  simp -dsimp -implicitDefEqProofs [Tryz.f125]
  refine eCall.of (at_s g hf m (by omega)) (by simp) ?_
  simp -dsimp -implicitDefEqProofs
  refine eCall.lend [] (atX_s g hf m (by omega)) (by simp) (by simp) (by simp) ?_
  simp -dsimp -implicitDefEqProofs
  refine sw_loop_e (fun p : {p : Nat // p ≤ M.length} => SS.of [(2, .v (.one (intsS (intsN M)))), (3, .v (.one (intsS (toldM g M n)))), (4, I .i64 m), (5, .v (.one (.mp 0 0))), (6, .v (.one (.mp 1 0))), (11, .v (.one (intsS (atG g m)))), (12, .v (.one (.ms 2 0 g.agents.length 1 true))), (13, I .i64 p.1)] [(0, ⟨26, rowGm g⟩), (1, ⟨29, [cesS r]⟩), (2, ⟨3, flat rowInt (setAll (atG g m) (M.take p.1) ((toldM g M n).take p.1))⟩)] 3)
    (fun p => M.length - p.1) ⟨0, Nat.zero_le _⟩ (by kernel_rfl) (Le.to (by simp) (by simp [setAll]) (by simp)) ?_
  rintro ⟨i, hi⟩
  by_cases a1 : i < M.length
  · have wi : IntKind.i64.wrap ((i : Int) + 1) = ((i + 1 : Nat) : Int) := by rw [wrap_i64 _ (by omega) (by omega)]; rfl
    have hlt := hM.lt _ (List.getElem_mem a1)
    have a1' : i < (intsN M).length := by simpa using a1
    have a1'' : i < (toldM g M n).length := by omega
    have hge := intsN_get a1
    have hsn := setAll_snoc (atG g m) (M.take i) ((toldM g M n).take i) M[i] (toldM g M n)[i] (by simp; omega)
    rw [← takeSnoc M i a1, ← takeSnoc (toldM g M n) i a1''] at hsn
    have hsl := setAll_len (atG g m) (M.take i) ((toldM g M n).take i)
    simp -dsimp -implicitDefEqProofs [a1, a1', a1'', hge, hlt, hsl, hal]
    refine ⟨by omega, ?_⟩
    exact Again.by ⟨i + 1, a1⟩ (Le.to (by simp [wi]) (by simp [hsn, set_int]) (by simp)) (by simp; omega)
  have hi2 : i = M.length := by omega
  subst hi2
  have htk : (toldM g M n).take M.length = toldM g M n := List.take_of_length_le (by omega)
  have hmk : M.take M.length = M := List.take_length
  simp only [htk, hmk]
  have hsl := setAll_len (atG g m) M (toldM g M n)
  have hwh := where_s g hf _ t3
  rw [t1] at hwh
  generalize hq : setAll (atG g m) M (toldM g M n) = q at *
  generalize hto : toM g m M (toldM g M n) = w at *
  have hBW : BetterM g r M m n ↔ ∀ a ∈ M, useQ g r m a < hasQ (ceAt r w) (kdAt g a (kOf g m a)) a := by unfold BetterM; rw [hto]
  simp -dsimp -implicitDefEqProofs [hsl, hal]
  refine eCall.of hwh (by simp [hsl, hal]) ?_
  by_cases e : w = m
  · have hb' := nf hb (fun hh => by
      obtain ⟨a, t, rfl⟩ := List.exists_cons_of_ne_nil hne
      have := hBW.1 hh a (by simp)
      rw [e] at this
      exact Rat.lt_irrefl this)
    simp -dsimp -implicitDefEqProofs [e, hb']
  have e' : ¬ (w : Int) = (m : Int) := by omega
  simp -dsimp -implicitDefEqProofs [e, e']
  refine sw_loop_e (fun p : {p : Nat // p ≤ M.length ∧ ∀ a ∈ M.take p, useQ g r m a < hasQ (ceAt r w) (kdAt g a (kOf g m a)) a} => SS.of [(2, .v (.one (intsS (intsN M)))), (4, I .i64 m), (5, .v (.one (.mp 0 0))), (6, .v (.one (.mp 1 0))), (11, .v (.one (intsS (atG g m)))), (14, I .i64 w), (15, I .i64 p.1)] [(0, ⟨26, rowGm g⟩), (1, ⟨29, [cesS r]⟩)] 3)
    (fun p => M.length - p.1) ⟨0, Nat.zero_le _, by simp⟩ (by kernel_rfl) (Le.to (by simp) (by simp) (by simp)) ?_
  rintro ⟨i, hi, hall⟩
  by_cases a1 : i < M.length
  · have wi : IntKind.i64.wrap ((i : Int) + 1) = ((i + 1 : Nat) : Int) := by rw [wrap_i64 _ (by omega) (by omega)]; rfl
    have hlt := hM.lt _ (List.getElem_mem a1)
    have a1' : i < (intsN M).length := by simpa using a1
    have hge := intsN_get a1
    generalize hA : M[i] = A at *
    have hsp : Spot g r A m := ⟨h, hlt, hm⟩
    obtain ⟨k1, k2⟩ := hsp.kof
    have al : A < (atG g m).length := by omega
    have k1' : (atG g m)[A] = (kOf g m A : Int) := by rw [List.getElem?_eq_getElem al] at k1; exact Option.some.inj k1
    have hP := hsp.pair t2 k2
    have hP0 := hsp.pair hm k2
    have hu : useQ g r m A = hasQ r[m] (g.agents[A].kinds[kOf g m A]) A := by unfold useQ; rw [ceAt_eq hm, kdAt_eq hlt k2]
    have hh1 := hasP_s g r A (kOf g m A) w hlt k2 t2 hP
    have hh2 := hasP_s g r A (kOf g m A) m hlt k2 hm hP0
    rw [← hu] at hh2
    have z1 := (cap_mz (show mz (hasQ r[w] (g.agents[A].kinds[kOf g m A]) A) ≤ 2048 by have := hP.has; omega)).2
    have z2 := (cap_mz (show mz (useQ g r m A) ≤ 2048 by have := hsp.use.1; omega)).2
    have hcm := cmpR_s (frQ (hasQ r[w] (g.agents[A].kinds[kOf g m A]) A)) (frQ (useQ g r m A)) (frQ_ok (by omega)) (frQ_ok (by omega))
    rw [fix_frQ z1, fix_frQ z2] at hcm
    simp -dsimp -implicitDefEqProofs [a1, a1', hge, al, k1']
    refine eCall.of hh1 (by simp) ?_
    simp -dsimp -implicitDefEqProofs [al, k1']
    refine eCall.of hh2 (by simp) ?_
    simp -dsimp -implicitDefEqProofs
    refine eCall.of hcm (by simp [frQ, ng]) ?_
    by_cases c : useQ g r m A < hasQ r[w] (g.agents[A].kinds[kOf g m A]) A
    · have c' : ¬ cmpQ (hasQ r[w] (g.agents[A].kinds[kOf g m A]) A) (useQ g r m A) ≤ 0 := Int.not_le.2 (cmpQ_pos.2 c)
      simp -dsimp -implicitDefEqProofs [c']
      refine Again.by ⟨i + 1, a1, fun a ha => ?_⟩ (Le.to (by simp [wi]) (by simp) (by simp)) (by simp; omega)
      rw [List.take_add_one, List.getElem?_eq_getElem a1] at ha
      rcases List.mem_append.1 ha with ha | ha
      · exact hall a ha
      · simp at ha; rw [ha, hA, ceAt_eq t2, kdAt_eq hlt k2]; exact c
    · have c' : cmpQ (hasQ r[w] (g.agents[A].kinds[kOf g m A]) A) (useQ g r m A) ≤ 0 := Int.not_lt.1 (mt cmpQ_pos.1 c)
      have hb' := nf hb (fun hh => c (by
        have := hBW.1 hh A (by rw [← hA]; exact List.getElem_mem a1)
        rwa [ceAt_eq t2, kdAt_eq hlt k2] at this))
      simp -dsimp -implicitDefEqProofs [c', hb']
  have hi2 : i = M.length := by omega
  subst hi2
  rw [List.take_length] at hall
  have hb' := tfJ hb (hBW.2 hall)
  simp -dsimp -implicitDefEqProofs [hb']

set_option maxRecDepth 20000 in
set_option maxHeartbeats 2000000 in
theorem group4_s (g : Gm) (r : List Ce) (h : Play g r) (j : Jt) (ok : Bool) (hj : isJt g r j ok) : CallsS Tryz.prog 57 [gmS g, ruS r] (.tup [jtS j, .one (.bool ok)]) := by
  have hf := h.fine
  obtain ⟨q1, -, -, q4, q5⟩ := sizeOk_all hf.sz
  have hrl := h.good.2.2.1
  have hp2 : 2 ^ g.agents.length ≤ 2 ^ 4 := Nat.pow_le_pow_right (by decide) q1
  refine calls Tryz.func57 rfl (by rfl) (by rfl) (by kernel_rfl) ?_
  simp -dsimp -implicitDefEqProofs [Tryz.f57]
  refine eCall.of (rightR4_s g r h.seen 0 (.inr (.inr ⟨h.good, rfl⟩))) (by simp) ?_
  simp -dsimp -implicitDefEqProofs
  refine sw_loop_e (fun p : {p : Nat // p ≤ g.agents.length} => SS.of [(2, .v (.one (.mp 0 0))), (3, .v (.one (.mp 1 0))), (4, .v (.one (.mp 2 0))), (6, I .i64 ((2 ^ p.1 : Nat) : Int)), (7, I .i64 p.1)] [(0, ⟨26, rowGm g⟩), (1, ⟨29, [cesS r]⟩), (2, ⟨90, [.nils, .nils, .nils]⟩)] 3)
    (fun p => g.agents.length - p.1) ⟨0, Nat.zero_le _⟩ (by kernel_rfl) (Le.to (by simp) (by simp) (by simp)) ?_
  rintro ⟨a, ha⟩
  by_cases a1 : a < g.agents.length
  · have wa : IntKind.i64.wrap ((a : Int) + 1) = ((a + 1 : Nat) : Int) := by rw [wrap_i64 _ (by omega) (by omega)]; rfl
    have hpa : 2 ^ a ≤ 2 ^ 4 := Nat.pow_le_pow_right (by decide) (by omega)
    have wp : ∀ P : Nat, P ≤ 2 ^ 4 → IntKind.i64.wrap ((P : Int) * 2) = ((P * 2 : Nat) : Int) := fun P hP => by rw [Int.natCast_mul, wrap_i64 _ (by omega) (by omega)]; rfl
    have wp := wp _ hpa
    rw [← Nat.pow_succ] at wp
    generalize hP : 2 ^ a = P at *
    generalize hP1 : 2 ^ (a + 1) = P1 at *
    simp -dsimp -implicitDefEqProofs [a1]
    exact Again.by ⟨a + 1, a1⟩ (Le.to (by simp only [hP1]; simp [wa, wp]) (by simp) (by simp)) (by simp; omega)
  have ha2 : a = g.agents.length := by omega
  subst ha2
  generalize hNN : 2 ^ g.agents.length = NN at *
  simp -dsimp -implicitDefEqProofs
  refine sw_loop_e (fun p : {p : Nat // p ≤ NN ∧ ∀ grp, grp < p → NoJ g r grp} => SS.of [(2, .v (.one (.mp 0 0))), (3, .v (.one (.mp 1 0))), (4, .v (.one (.mp 2 0))), (6, I .i64 NN), (8, I .i64 p.1)] [(0, ⟨26, rowGm g⟩), (1, ⟨29, [cesS r]⟩), (2, ⟨90, [.nils, .nils, .nils]⟩)] 3)
    (fun p => NN - p.1) ⟨0, Nat.zero_le _, fun grp hg => absurd hg (by omega)⟩ (by kernel_rfl) (Le.to (by simp) (by simp) (by simp)) ?_
  rintro ⟨grp, hg, hq⟩
  by_cases a2 : grp < NN
  · have wg : IntKind.i64.wrap ((grp : Int) + 1) = ((grp + 1 : Nat) : Int) := by rw [wrap_i64 _ (by omega) (by omega)]; rfl
    have hM := mems_ok hf grp
    have hl4 := hM.len
    have next : NoJ g r grp → ∀ grp', grp' < grp + 1 → NoJ g r grp' := fun hn grp' hl => by
      by_cases e : grp' = grp
      · rw [e]; exact hn
      · exact hq grp' (by omega)
    simp -dsimp -implicitDefEqProofs [a2]
    refine eCall.of (members4_s grp g.agents.length (by omega) q1) (by simp) ?_
    generalize hMM : mems g.agents.length grp = M at *
    by_cases c2 : M.length < 2
    · have c2' : (M.length : Int) < 2 := by omega
      have hn := next (fun hh => absurd hh (by rw [hMM]; omega))
      simp -dsimp -implicitDefEqProofs [c2, c2']
      exact Again.by ⟨grp + 1, a2, hn⟩ (Le.to (by simp [wg]) (by simp) (by simp)) (by simp; omega)
    have c2' : ¬ (M.length : Int) < 2 := by omega
    have hne : M ≠ [] := fun e => by rw [e] at c2; simp at c2
    have hrm := repM_le hf hM
    simp -dsimp -implicitDefEqProofs [c2, c2']
    refine sw_loop_e (fun p : {p : Nat // p ≤ r.length ∧ ∀ m, m < p → NoJm g r grp m} => SS.of [(2, .v (.one (.mp 0 0))), (3, .v (.one (.mp 1 0))), (4, .v (.one (.mp 2 0))), (6, I .i64 NN), (8, I .i64 grp), (9, .v (.one (intsS (intsN M)))), (10, I .i64 p.1)] [(0, ⟨26, rowGm g⟩), (1, ⟨29, [cesS r]⟩), (2, ⟨90, [.nils, .nils, .nils]⟩)] 3)
      (fun p => r.length - p.1) ⟨0, Nat.zero_le _, fun m hm => absurd hm (by omega)⟩ (by kernel_rfl) (Le.to (by simp) (by simp) (by simp)) ?_
    rintro ⟨m, hm, hqm⟩
    by_cases a3 : m < r.length
    · have wm : IntKind.i64.wrap ((m : Int) + 1) = ((m + 1 : Nat) : Int) := by rw [wrap_i64 _ (by omega) (by omega)]; rfl
      simp -dsimp -implicitDefEqProofs [a3]
      refine sw_loop_e (fun p : {p : Nat // p ≤ repM g M ∧ ∀ n, n < p → ¬ BetterM g r M m n} => SS.of [(2, .v (.one (.mp 0 0))), (3, .v (.one (.mp 1 0))), (4, .v (.one (.mp 2 0))), (6, I .i64 NN), (8, I .i64 grp), (9, .v (.one (intsS (intsN M)))), (10, I .i64 m), (11, I .i64 p.1)] [(0, ⟨26, rowGm g⟩), (1, ⟨29, [cesS r]⟩), (2, ⟨90, [.nils, .nils, .nils]⟩)] 3)
        (fun p => repM g M - p.1) ⟨0, Nat.zero_le _, fun n hn => absurd hn (by omega)⟩ (by kernel_rfl) (Le.to (by simp) (by simp) (by simp)) ?_
      rintro ⟨n, hn, hqn⟩
      simp -dsimp -implicitDefEqProofs
      refine eCall.of (reports4_s g hf M hM) (by simp) ?_
      by_cases a4 : n < repM g M
      · have wn : IntKind.i64.wrap ((n : Int) + 1) = ((n + 1 : Nat) : Int) := by rw [wrap_i64 _ (by omega) (by omega)]; rfl
        obtain ⟨b, hb⟩ := boolJ (BetterM g r M m n)
        simp -dsimp -implicitDefEqProofs [a4]
        refine eCall.of (told4_s g hf M hM n (by omega)) (by simp) ?_
        simp -dsimp -implicitDefEqProofs
        refine eCall.of (better4_s g r h M hM hne m n a3 a4 b hb) (by simp) ?_
        cases b with
        | true =>
          have hyes := hb.1 rfl
          obtain ⟨rfl, rfl⟩ := hj.at ⟨by omega, by rw [hMM]; omega, a3, by rw [hMM]; exact a4, by rw [hMM]; exact hyes, hq, hqm, by rw [hMM]; exact hqn⟩
          simp -dsimp -implicitDefEqProofs
          refine eCall.of (at_s g hf m (by omega)) (by simp) ?_
          simp -dsimp -implicitDefEqProofs [jtAt, hMM]
        | false =>
          have hno : ¬ BetterM g r M m n := fun hh => by have := hb.2 hh; cases this
          simp -dsimp -implicitDefEqProofs
          refine Again.by ⟨n + 1, a4, fun n' hn' => ?_⟩ (Le.to (by simp [wn]) (by simp) (by simp)) (by simp; omega)
          by_cases e : n' = n
          · rw [e]; exact hno
          · exact hqn n' (by omega)
      have hn2 : n = repM g M := by omega
      subst hn2
      simp -dsimp -implicitDefEqProofs
      refine Again.by ⟨m + 1, a3, fun m' hm' => ?_⟩ (Le.to (by simp [wm]) (by simp) (by simp)) (by simp; omega)
      by_cases e : m' = m
      · rw [e]; unfold NoJm; rw [hMM]; exact hqn
      · exact hqm m' (by omega)
    have hm2 : m = r.length := by omega
    subst hm2
    have hn := next (fun _ => hqm)
    simp -dsimp -implicitDefEqProofs
    exact Again.by ⟨grp + 1, a2, hn⟩ (Le.to (by simp [wg]) (by simp) (by simp)) (by simp; omega)
  have hg2 : grp = NN := by omega
  subst hg2
  obtain ⟨rfl, rfl⟩ := hj.none (by rw [hNN]; exact hq)
  simp -dsimp -implicitDefEqProofs

set_option maxRecDepth 20000 in
theorem groupNo4_s (g : Gm) (r : List Ce) (h : Seen g r) (hg : ¬ Good g r) : CallsS Tryz.prog 57 [gmS g, ruS r] (.tup [jtS ⟨[], [], []⟩, .one (.bool false)]) := by
  obtain ⟨e, he, h0⟩ := isGood_of g r
  have h0 : ¬ e = 0 := fun h => hg (h0.1 h)
  refine calls Tryz.func57 rfl (by rfl) (by rfl) (by kernel_rfl) ?_
  simp -dsimp -implicitDefEqProofs [Tryz.f57]
  refine eCall.of (rightR4_s g r h e he) (by simp) ?_
  simp -dsimp -implicitDefEqProofs [h0]
end Go.Proofs.YtmgaoecfipkjbaaGreat.Sh

/- Groups: the program's step from report to report. -/
namespace Go.Proofs.YtmgaoecfipkjbaaGreat.Sh
open Go Go.RowKit

theorem atR_zero : ∀ r : List Nat, atR r 0 = List.replicate r.length 0
  | [] => rfl
  | k :: r => by rw [atR, Nat.zero_div, Nat.zero_mod, atR_zero r, List.length_cons, List.replicate_succ']; rfl
theorem inc_carry {k P : Nat} (h : P % k + 1 = k) : (P + 1) / k = P / k + 1 ∧ (P + 1) % k = 0 := by
  have hk : 0 < k := by omega
  have e : P + 1 = (P / k + 1) * k := by
    have := Nat.div_add_mod P k
    rw [Nat.add_mul, Nat.mul_comm]; omega
  rw [e]
  exact ⟨Nat.mul_div_cancel _ hk, Nat.mul_mod_left ..⟩
theorem inc_step {k P : Nat} (h : P % k + 1 < k) : (P + 1) / k = P / k ∧ (P + 1) % k = P % k + 1 := by
  have hk : 0 < k := by omega
  have e : P + 1 = (P % k + 1) + k * (P / k) := by
    have := Nat.div_add_mod P k
    omega
  rw [e]
  exact ⟨by rw [Nat.add_mul_div_left _ _ hk, Nat.div_eq_of_lt h, Nat.zero_add], by rw [Nat.add_mul_mod_self_left, Nat.mod_eq_of_lt h]⟩
/-- The step from a joint report to the next, where the reports behind place `j` have been taken back to none. -/
structure IncAt (g : Gm) (M : List Nat) (n j P : Nat) : Prop where
  hj : j ≤ M.length
  hP : P < prodR ((szM g M).take j).reverse
  at1 : toldM g M (n + 1) = atR ((szM g M).take j).reverse (P + 1) ++ List.replicate (M.length - j) 0
  lt1 : n + 1 < repM g M ↔ P + 1 < prodR ((szM g M).take j).reverse
theorem szM_len (g : Gm) (M : List Nat) : (szM g M).length = M.length := by simp [szM]
theorem IncAt.start {g : Gm} {M : List Nat} {n : Nat} (h : n < repM g M) : IncAt g M n M.length n := by
  have e : (szM g M).take M.length = szM g M := List.take_of_length_le (by simp [szM])
  exact ⟨Nat.le_refl _, by rw [e]; exact h, by rw [e]; simp [toldM], by rw [e]; rfl⟩
theorem sz_rev (g : Gm) {M : List Nat} {i : Nat} (h : i < M.length) : ((szM g M).take (i + 1)).reverse = kl g M[i] :: ((szM g M).take i).reverse := by
  rw [takeSnoc (szM g M) i (by simp [szM]; omega), List.reverse_append]; simp [szM]
theorem IncAt.carry {g : Gm} {M : List Nat} {n i P : Nat} (h : IncAt g M n (i + 1) P) (hi : i < M.length) (hc : P % kl g M[i] + 1 = kl g M[i]) : IncAt g M n i (P / kl g M[i]) := by
  obtain ⟨e1, e2⟩ := inc_carry hc
  have h1 := h.hP
  have h2 := h.at1
  have h3 := h.lt1
  rw [sz_rev g hi, prodR] at h1 h3
  rw [sz_rev g hi, atR, e1, e2, List.append_assoc] at h2
  have hk : 0 < kl g M[i] := by omega
  refine ⟨by omega, Nat.div_lt_of_lt_mul (by rw [Nat.mul_comm]; exact h1), ?_, ?_⟩
  · rw [h2, show M.length - i = (M.length - (i + 1)) + 1 by omega, List.replicate_succ]; rfl
  · rw [h3]
    have e : P + 1 = (P / kl g M[i] + 1) * kl g M[i] := by
      have := Nat.div_add_mod P (kl g M[i])
      rw [Nat.add_mul, Nat.mul_comm]; omega
    rw [e]
    exact ⟨fun hh => Nat.lt_of_mul_lt_mul_right hh, fun hh => Nat.mul_lt_mul_of_pos_right hh hk⟩
theorem IncAt.step {g : Gm} {M : List Nat} {n i P : Nat} (h : IncAt g M n (i + 1) P) (hi : i < M.length) (hc : P % kl g M[i] + 1 < kl g M[i]) : n + 1 < repM g M ∧
    toldM g M (n + 1) = (atR ((szM g M).take i).reverse (P / kl g M[i]) ++ ((P % kl g M[i] + 1 : Nat) : Int) :: List.replicate (M.length - (i + 1)) 0) := by
  obtain ⟨e1, e2⟩ := inc_step hc
  have h1 := h.hP
  have h2 := h.at1
  have h3 := h.lt1
  rw [sz_rev g hi, prodR] at h1 h3
  rw [sz_rev g hi, atR, e1, e2, List.append_assoc] at h2
  refine ⟨h3.2 ?_, h2⟩
  have hd := Nat.div_lt_of_lt_mul (show P < kl g M[i] * prodR ((szM g M).take i).reverse by rw [Nat.mul_comm]; exact h1)
  have e : P + 1 = (P % kl g M[i] + 1) + kl g M[i] * (P / kl g M[i]) := by
    have := Nat.div_add_mod P (kl g M[i])
    omega
  have := Nat.mul_le_mul_left (kl g M[i]) (show P / kl g M[i] + 1 ≤ prodR ((szM g M).take i).reverse from hd)
  rw [Nat.mul_add, Nat.mul_one] at this
  rw [Nat.mul_comm (prodR _)]
  omega
theorem IncAt.last {g : Gm} {M : List Nat} {n P : Nat} (h : IncAt g M n 0 P) : ¬ n + 1 < repM g M := by
  rw [h.lt1]; show ¬ P + 1 < 1; omega

theorem flat_int_get (l : List Int) (i : Nat) (h : i < (flat rowInt l).length) : (flat rowInt l)[i] = .int .i64 (l[i]'(by rw [flat_int] at h; simpa using h)) := by
  have e := flat_int l
  simp only [e, List.getElem_map]

/-- The first joint report for a group at a profile, or none. -/
def isJn (g : Gm) (r : List Ce) (m : Nat) (M : List Nat) (v : S1) : Prop :=
  (∃ n, n < repM g M ∧ BetterM g r M m n ∧ (∀ n', n' < n → ¬ BetterM g r M m n') ∧ v = intsS (toldM g M n)) ∨ ((∀ n, n < repM g M → ¬ BetterM g r M m n) ∧ v = .nils)
theorem isJn.at {g : Gm} {r : List Ce} {m : Nat} {M : List Nat} {v : S1} (h : isJn g r m M v) {n : Nat} (h1 : n < repM g M) (h2 : BetterM g r M m n) (h3 : ∀ n', n' < n → ¬ BetterM g r M m n') : v = intsS (toldM g M n) := by
  rcases h with ⟨k, a1, a2, a3, a4⟩ | ⟨a1, -⟩
  · rcases Nat.lt_trichotomy k n with c | c | c
    · exact absurd a2 (h3 k c)
    · rw [← c]; exact a4
    · exact absurd h2 (a3 n c)
  · exact absurd h2 (a1 n h1)
theorem isJn.none {g : Gm} {r : List Ce} {m : Nat} {M : List Nat} {v : S1} (h : isJn g r m M v) (hn : ∀ n, n < repM g M → ¬ BetterM g r M m n) : v = .nils := by
  rcases h with ⟨k, a1, a2, -⟩ | ⟨-, a2⟩
  · exact absurd a2 (hn k a1)
  · exact a2

set_option maxRecDepth 20000 in
set_option maxHeartbeats 2000000 in
theorem joint_s (g : Gm) (r : List Ce) (h : Play g r) (M : List Nat) (hM : MOk g M) (hne : M ≠ []) (m : Nat) (hm : m < r.length) (hr0 : 0 < repM g M) (v : S1) (hv : isJn g r m M v) :
    CallsS Tryz.prog 126 [tbS g r, .one (.int .i64 (m : Int)), .one (intsS (atG g m)), .one (intsS (intsN M))] (.v (.one v)) := by
  have hf := h.fine
  obtain ⟨q1, -, -, q4, q5⟩ := sizeOk_all hf.sz
  have hrl := h.good.2.2.1
  have hal := atG_length g m
  have hl4 := hM.len
  have hle := repM_le hf hM
  have hmp : 0 < M.length := List.length_pos_iff.2 hne
  have hpos : 0 < g.agents.length := by have := hM.lt _ (List.getElem_mem hmp); omega
  refine calls Tryz.func126 rfl (by rfl) (by rfl) (by kernel_rfl) ?_
  simp -dsimp -implicitDefEqProofs [Tryz.f126]
  refine ⟨by omega, ?_⟩
  refine sw_loop_e (fun p : {p : Nat × Nat // p.1 < repM g M ∧ ∀ n, n < p.1 → ¬ BetterM g r M m n} => SS.of [(1, I .i64 m), (2, .v (.one (intsS (atG g m)))), (3, .v (.one (intsS (intsN M)))), (4, .v (.one (.mp 0 0))), (9, .v (.one (.ms 1 0 M.length 1 true)))] [(0, ⟨106, rowTb g r⟩), (1, ⟨3, flat rowInt (toldM g M p.1.1)⟩)] (p.1.2 + 2))
    (fun p => repM g M - p.1.1) ⟨(0, 0), hr0, fun n hn => absurd hn (by omega)⟩ (by kernel_rfl) (Le.to (by simp) (by simp [toldM, atR_zero, szM_len, flat_int]) (by simp)) ?_
  rintro ⟨⟨n, c⟩, hn, hno⟩
  simp only at hn hno
  have htl := toldM_len g M n
  obtain ⟨t1, t2, t3⟩ := toM_lt h (M := M) hm hn
  have hid := index_s g hf _ (by have := t3.1; omega) _ (.inl ⟨t3, rfl⟩)
  rw [t1] at hid
  have hBW : BetterM g r M m n ↔ ∀ a ∈ M, useQ g r m a < hasQ (ceAt r (toM g m M (toldM g M n))) (kdAt g a (kOf g m a)) a := Iff.rfl
  simp -dsimp -implicitDefEqProofs [slots, flat_ints]
  refine ⟨⟨fun e => by rw [e] at hal; simp at hal; omega, known_int _⟩, ⟨by omega, by omega⟩, ?_⟩
  refine sw_cut (fun _ : Unit => SS.of [(1, I .i64 m), (2, .v (.one (intsS (atG g m)))), (3, .v (.one (intsS (intsN M)))), (4, .v (.one (.mp 0 0))), (9, .v (.one (.ms 1 0 M.length 1 true))), (10, .v (.one (intsS (setAll (atG g m) M (toldM g M n)))))] [(0, ⟨106, rowTb g r⟩), (1, ⟨3, flat rowInt (toldM g M n)⟩)] (c + 3)) ?_ ?_
  · refine sw_loop_e (fun p : {p : Nat // p ≤ M.length} => SS.of [(1, I .i64 m), (2, .v (.one (intsS (atG g m)))), (3, .v (.one (intsS (intsN M)))), (4, .v (.one (.mp 0 0))), (9, .v (.one (.ms 1 0 M.length 1 true))), (10, .v (.one (.ms (c + 2) 0 g.agents.length 1 true))), (23, .v (.one (intsS (intsN M)))), (24, I .i64 M.length), (25, I .i64 p.1)] [(0, ⟨106, rowTb g r⟩), (1, ⟨3, flat rowInt (toldM g M n)⟩), (c + 2, ⟨3, flat rowInt (setAll (atG g m) (M.take p.1) ((toldM g M n).take p.1))⟩)] (c + 3))
      (fun p => M.length - p.1) ⟨0, Nat.zero_le _⟩ (by kernel_rfl) (Le.to (by simp [hal]) (by simp [setAll]) (by simp)) ?_
    rintro ⟨i, hi⟩
    by_cases a1 : i < M.length
    · have wi : IntKind.i64.wrap ((i : Int) + 1) = ((i + 1 : Nat) : Int) := by rw [wrap_i64 _ (by omega) (by omega)]; rfl
      have hlt := hM.lt _ (List.getElem_mem a1)
      have a1' : i < (intsN M).length := by simpa using a1
      have a1'' : i < (toldM g M n).length := by omega
      have hge := intsN_get a1
      have hsn := setAll_snoc (atG g m) (M.take i) ((toldM g M n).take i) M[i] (toldM g M n)[i] (by simp; omega)
      rw [← takeSnoc M i a1, ← takeSnoc (toldM g M n) i a1''] at hsn
      have hsl := setAll_len (atG g m) (M.take i) ((toldM g M n).take i)
      simp -dsimp -implicitDefEqProofs [a1, a1', a1'', hge, hlt, hsl, hal, htl, flat_int_get]
      refine ⟨by omega, ?_⟩
      exact Again.by ⟨i + 1, a1⟩ (Le.to (by simp [wi]) (by simp [hsn, set_int]) (by simp)) (by simp; omega)
    have hi2 : i = M.length := by omega
    subst hi2
    have htk : (toldM g M n).take M.length = toldM g M n := List.take_of_length_le (by omega)
    have hmk : M.take M.length = M := List.take_length
    have hsl := setAll_len (atG g m) M (toldM g M n)
    simp only [htk, hmk]
    simp -dsimp -implicitDefEqProofs
    exact Cut.by () (Le.fzF [c + 2] (Le.to (by simp [hsl, hal]) (by simp) (by simp)))
  intro _
  generalize hto : toM g m M (toldM g M n) = w at *
  generalize hq : setAll (atG g m) M (toldM g M n) = q at *
  simp -dsimp -implicitDefEqProofs
  refine eCall.of hid (by simp) ?_
  simp -dsimp -implicitDefEqProofs [t2]
  refine sw_loop_e (fun p : {p : Nat × Bool // p.1 ≤ M.length ∧ (p.2 = true ↔ ∀ a ∈ M.take p.1, useQ g r m a < hasQ (ceAt r w) (kdAt g a (kOf g m a)) a)} => SS.of [(1, I .i64 m), (2, .v (.one (intsS (atG g m)))), (3, .v (.one (intsS (intsN M)))), (4, .v (.one (.mp 0 0))), (9, .v (.one (.ms 1 0 M.length 1 true))), (13, .v (.one (.mp (c + 3) 0))), (14, B p.1.2), (47, .v (.one (intsS (intsN M)))), (48, I .i64 M.length), (49, I .i64 p.1.1)] [(0, ⟨106, rowTb g r⟩), (1, ⟨3, flat rowInt (toldM g M n)⟩), (c + 3, ⟨60, rowCe r[w]⟩)] (c + 4))
    (fun p => M.length - p.1.1) ⟨(0, true), Nat.zero_le _, by simp⟩ (by kernel_rfl) (Le.to (by simp) (by simp) (by simp)) ?_
  rintro ⟨⟨i, b⟩, hi, hall⟩
  simp only at hi hall
  by_cases a1 : i < M.length
  · have wi : IntKind.i64.wrap ((i : Int) + 1) = ((i + 1 : Nat) : Int) := by rw [wrap_i64 _ (by omega) (by omega)]; rfl
    have hlt := hM.lt _ (List.getElem_mem a1)
    have a1' : i < (intsN M).length := by simpa using a1
    have hge := intsN_get a1
    have htk : M.take (i + 1) = M.take i ++ [M[i]] := takeSnoc M i a1
    generalize hA : M[i] = A at *
    have hsp : Spot g r A m := ⟨h, hlt, hm⟩
    obtain ⟨k1, k2⟩ := hsp.kof
    have al : A < (atG g m).length := by omega
    have k1' : (atG g m)[A] = (kOf g m A : Int) := by rw [List.getElem?_eq_getElem al] at k1; exact Option.some.inj k1
    have hP := hsp.pair t2 k2
    have hP0 := hsp.pair hm k2
    have hu : useQ g r m A = hasQ r[m] (g.agents[A].kinds[kOf g m A]) A := by unfold useQ; rw [ceAt_eq hm, kdAt_eq hlt k2]
    have hh1 := rhas_s g r r[w] A (kOf g m A) hlt k2 hP
    have hh2 := rhas_s g r r[m] A (kOf g m A) hlt k2 hP0
    rw [← hu] at hh2
    have z1 := (cap_mz (show mz (hasQ r[w] (g.agents[A].kinds[kOf g m A]) A) ≤ 2048 by have := hP.has; omega)).2
    have z2 := (cap_mz (show mz (useQ g r m A) ≤ 2048 by have := hsp.use.1; omega)).2
    have hcm := fcmp_s (frQ (hasQ r[w] (g.agents[A].kinds[kOf g m A]) A)) (frQ (useQ g r m A)) (frQ_ok (by omega)) (frQ_ok (by omega))
    rw [fix_frQ z1, fix_frQ z2] at hcm
    have hcw : hasQ (ceAt r w) (kdAt g A (kOf g m A)) A = hasQ r[w] (g.agents[A].kinds[kOf g m A]) A := by rw [ceAt_eq t2, kdAt_eq hlt k2]
    rw [← hcw] at hh1 hcm
    cases b with
    | false =>
      have hn' : ¬ ∀ a ∈ M.take (i + 1), useQ g r m a < hasQ (ceAt r w) (kdAt g a (kOf g m a)) a := fun hh => by
        have := hall.2 (fun a ha => hh a (by rw [htk]; exact List.mem_append_left _ ha))
        cases this
      simp -dsimp -implicitDefEqProofs [a1, a1', hge]
      exact Again.by ⟨(i + 1, false), a1, by simp only; exact ⟨fun hh => (by cases hh), fun hh => absurd hh hn'⟩⟩ (Le.to (by simp [wi]) (by simp) (by simp)) (by simp; omega)
    | true =>
      have hall' := hall.1 rfl
      simp -dsimp -implicitDefEqProofs [a1, a1', hge, al, k1']
      refine eCall.of hh1 (by simp) ?_
      simp -dsimp -implicitDefEqProofs [al, k1', hm]
      refine eCall.of hh2 (by simp) ?_
      simp -dsimp -implicitDefEqProofs
      refine eCall.of hcm (by simp [frQ, ng]) ?_
      by_cases cc : useQ g r m A < hasQ (ceAt r w) (kdAt g A (kOf g m A)) A
      · simp -dsimp -implicitDefEqProofs [cmpQ_pos.2 cc]
        exact Again.by ⟨(i + 1, true), a1, fun _ a ha => by
          rw [htk] at ha
          rcases List.mem_append.1 ha with ha | ha
          · exact hall' a ha
          · rw [List.mem_singleton.1 ha]; exact cc, fun _ => rfl⟩ (Le.to (by simp [wi]) (by simp) (by simp)) (by simp; omega)
      · simp -dsimp -implicitDefEqProofs [mt cmpQ_pos.1 cc]
        exact Again.by ⟨(i + 1, false), a1, by simp only; exact ⟨fun hh => (by cases hh), fun hh => absurd (hh A (by rw [htk]; exact List.mem_append_right _ (List.mem_singleton_self _))) cc⟩⟩ (Le.to (by simp [wi]) (by simp) (by simp)) (by simp; omega)
  have hi2 : i = M.length := by omega
  subst hi2
  rw [List.take_length] at hall
  have hBW' : BetterM g r M m n ↔ b = true := hBW.trans hall.symm
  cases b with
  | true =>
    obtain rfl := hv.at hn (hBW'.2 rfl) hno
    simp -dsimp -implicitDefEqProofs [← htl]
    try rfl
  | false =>
    have hno' : ∀ n', n' < n + 1 → ¬ BetterM g r M m n' := fun n' hl => by
      by_cases e : n' = n
      · rw [e]; exact fun hh => by have := hBW'.1 hh; cases this
      · exact hno n' (by omega)
    have wl : IntKind.i64.wrap ((M.length : Int) - 1) = (M.length : Int) - 1 := wrap_i64 _ (by omega) (by omega)
    simp -dsimp -implicitDefEqProofs
    refine sw_loop_e (fun p : {p : Nat × Nat // IncAt g M n p.1 p.2} => SS.of [(1, I .i64 m), (2, .v (.one (intsS (atG g m)))), (3, .v (.one (intsS (intsN M)))), (4, .v (.one (.mp 0 0))), (9, .v (.one (.ms 1 0 M.length 1 true))), (17, I .i64 ((p.1.1 : Int) - 1))] [(0, ⟨106, rowTb g r⟩), (1, ⟨3, flat rowInt (atR ((szM g M).take p.1.1).reverse p.1.2 ++ List.replicate (M.length - p.1.1) 0)⟩)] (c + 4))
      (fun p => p.1.1) ⟨(M.length, n), IncAt.start hn⟩ (by kernel_rfl) (Le.to (by simp [wl]) (by simp [List.take_of_length_le, szM_len, toldM]) (by simp)) ?_
    rintro ⟨⟨j, P⟩, hI⟩
    by_cases b1 : j = 0
    · subst b1
      have hl := hI.last
      obtain rfl := hv.none (fun n' hl' => hno' n' (by omega))
      simp -dsimp -implicitDefEqProofs
    obtain ⟨i, rfl⟩ : ∃ i, j = i + 1 := ⟨j - 1, by omega⟩
    have a1 : i < M.length := hI.hj
    have hlt := hM.lt _ (List.getElem_mem a1)
    have hkl := kl_eq hlt
    have hk4 := q4 _ (List.getElem_mem hlt)
    have hk0 := hf.kinds_pos _ (List.getElem_mem hlt)
    have a1' : i < (intsN M).length := by simpa using a1
    have hge := intsN_get a1
    have hcar := hI.carry a1
    have hstp := hI.step a1
    have hmod : P % kl g M[i] < kl g M[i] := Nat.mod_lt _ (by omega)
    have e1 : (((i + 1 : Nat) : Int) - 1) = (i : Int) := by omega
    have wr : IntKind.i64.wrap ((i : Int) - 1) = (i : Int) - 1 := wrap_i64 _ (by omega) (by omega)
    have hXe : atR ((szM g M).take (i + 1)).reverse P ++ List.replicate (M.length - (i + 1)) 0 = atR ((szM g M).take i).reverse (P / kl g M[i]) ++ ((P % kl g M[i] : Nat) : Int) :: List.replicate (M.length - (i + 1)) 0 := by
      rw [sz_rev g a1, atR, List.append_assoc]; rfl
    have hAl : (atR ((szM g M).take i).reverse (P / kl g M[i])).length = i := by rw [atR_length]; simp [szM]; omega
    have hrep : (0 : Int) :: List.replicate (M.length - (i + 1)) 0 = List.replicate (M.length - i) 0 := by rw [show M.length - i = (M.length - (i + 1)) + 1 by omega, List.replicate_succ]
    have hRl : (List.replicate (M.length - (i + 1)) (0 : Int)).length = M.length - (i + 1) := List.length_replicate
    rw [hkl] at hcar hstp hmod hXe hAl
    simp only [hXe, e1]
    generalize hA : atR ((szM g M).take i).reverse (P / g.agents[M[i]].kinds.length) = A at *
    generalize hR : List.replicate (M.length - (i + 1)) (0 : Int) = R at *
    generalize hD : P % g.agents[M[i]].kinds.length = D at *
    have hXl : (A ++ (D : Int) :: R).length = M.length := by simp; omega
    have hXi : ∀ hh, (A ++ (D : Int) :: R)[i]'hh = (D : Int) := fun hh => by rw [List.getElem_append_right (by omega)]; simp [hAl]
    have hXs : ∀ y : Int, (A ++ (D : Int) :: R).set i y = A ++ y :: R := fun y => by rw [List.set_append_right _ _ (by omega), hAl, Nat.sub_self]; rfl
    have wd : IntKind.i64.wrap ((D : Int) + 1) = ((D + 1 : Nat) : Int) := by rw [wrap_i64 _ (by omega) (by omega)]; rfl
    by_cases c1 : D + 1 = g.agents[M[i]].kinds.length
    · have c1' : ((D : Int) + 1) = (g.agents[M[i]].kinds.length : Int) := by omega
      have wk : IntKind.i64.wrap (g.agents[M[i]].kinds.length : Int) = (g.agents[M[i]].kinds.length : Int) := wrap_i64 _ (by omega) (by omega)
      have hsz := hXs 0
      rw [hrep] at hsz
      simp -dsimp -implicitDefEqProofs [a1, a1', hge, hlt, hXl, hXi, flat_int_get, wk, c1']
      refine ⟨by omega, ?_⟩
      exact Again.by ⟨(i, P / g.agents[M[i]].kinds.length), hcar c1⟩ (Le.to (by simp [wr]) (by simp [set_int, hsz, hA]) (by simp)) (by simp)
    · have c1' : ¬ ((D : Int) + 1) = (g.agents[M[i]].kinds.length : Int) := by omega
      obtain ⟨s1, s2⟩ := hstp (by omega)
      simp -dsimp -implicitDefEqProofs [a1, a1', hge, hlt, hXl, hXi, flat_int_get, wd, c1, c1']
      refine ⟨fun hh => by omega, by omega, ?_⟩
      exact Again.by ⟨(n + 1, c + 2), s1, hno'⟩ (Le.to (by simp) (by simp [set_int, hXs, s2]) (by simp)) (by simp; omega)
end Go.Proofs.YtmgaoecfipkjbaaGreat.Sh

/- Groups: the program. -/
namespace Go.Proofs.YtmgaoecfipkjbaaGreat.Sh
open Go Go.RowKit

theorem isJn_of (g : Gm) (r : List Ce) (m : Nat) (M : List Nat) : (∃ n, n < repM g M ∧ BetterM g r M m n ∧ (∀ n', n' < n → ¬ BetterM g r M m n') ∧ isJn g r m M (intsS (toldM g M n))) ∨ ((∀ n, n < repM g M → ¬ BetterM g r M m n) ∧ isJn g r m M .nils) := by
  by_cases h : ∃ n, n < repM g M ∧ BetterM g r M m n
  · obtain ⟨n, h1, h2⟩ := least_of _ h
    have h3 : ∀ n', n' < n → ¬ BetterM g r M m n' := fun n' hl hb => h2 n' hl ⟨by omega, hb⟩
    exact .inl ⟨n, h1.1, h1.2, h3, .inl ⟨n, h1.1, h1.2, h3, rfl⟩⟩
  · have h3 : ∀ n, n < repM g M → ¬ BetterM g r M m n := fun n hn hb => h ⟨n, hn, hb⟩
    exact .inr ⟨h3, .inr ⟨h3, rfl⟩⟩

theorem prodR_pos : ∀ {l : List Nat}, (∀ k ∈ l, 0 < k) → 0 < prodR l
  | [], _ => Nat.one_pos
  | k :: l, h => Nat.mul_pos (prodR_pos (fun x hx => h x (List.mem_cons_of_mem _ hx))) (h k (List.mem_cons_self ..))
theorem repM_pos {g : Gm} (h : Fine g) {M : List Nat} (hM : MOk g M) : 0 < repM g M := by
  unfold repM
  refine prodR_pos fun k hk => ?_
  rw [List.mem_reverse] at hk
  obtain ⟨a, ha, rfl⟩ := List.mem_map.1 hk
  rw [kl_eq (hM.lt a ha)]
  exact h.kinds_pos _ (List.getElem_mem _)

theorem bit_and : ∀ grp : Nat, grp < 16 → ∀ i : Nat, i < 4 → bitsOf .and .i64 ((grp : Int).fdiv (2 ^ min i IntKind.i64.bits)) 1 = (((grp / 2 ^ i % 2 : Nat)) : Int) := by decide +kernel

set_option maxRecDepth 20000 in
set_option maxHeartbeats 2000000 in
theorem rgroup_s (g : Gm) (r : List Ce) (h : Play g r) (j : Jt) (ok : Bool) (hj : isJt g r j ok) : CallsS Tryz.prog 58 [gmS g, ruS r] (.tup [jtS j, .one (.bool ok)]) := by
  have hf := h.fine
  obtain ⟨q1, -, -, q4, q5⟩ := sizeOk_all hf.sz
  have hrl := h.good.2.2.1
  have hpl := profs_length g
  have hp2 : 2 ^ g.agents.length ≤ 2 ^ 4 := Nat.pow_le_pow_right (by decide) q1
  refine calls Tryz.func58 rfl (by rfl) (by rfl) (by kernel_rfl) ?_
  simp -dsimp -implicitDefEqProofs [Tryz.f58]
  refine eCall.of (open_s g r h.seen h.good) (by simp) ?_
  have wNN : IntKind.i64.wrap (2 ^ min g.agents.length IntKind.i64.bits) = ((2 ^ g.agents.length : Nat) : Int) := by
    rw [Nat.min_eq_left (by show _ ≤ 64; omega), show ((2 : Int) ^ g.agents.length) = ((2 ^ g.agents.length : Nat) : Int) from (Int.natCast_pow 2 _).symm]
    generalize 2 ^ g.agents.length = P at *
    exact wrap_i64 _ (by omega) (by omega)
  simp -dsimp -implicitDefEqProofs
  refine sw_loop_e (fun p : {p : Nat × Nat // p.1 ≤ 2 ^ g.agents.length ∧ ∀ grp, grp < p.1 → NoJ g r grp} => SS.of [(2, .v (.one (.mp 0 0))), (4, .v (.one (.mp 2 0))), (5, .v (.one (.mp 3 0))), (6, .v (.one (.mp 4 0))), (26, I .i64 (2 ^ g.agents.length : Nat)), (27, I .i64 p.1.1)] [(0, ⟨26, rowGm g⟩), (2, ⟨90, [.nils, .nils, .nils]⟩), (3, ⟨4, [.bool false]⟩), (4, ⟨106, rowTb g r⟩)] (p.1.2 + 5))
    (fun p => 2 ^ g.agents.length - p.1.1) ⟨(0, 0), Nat.zero_le _, fun grp hg => absurd hg (by simp)⟩ (by kernel_rfl) (Le.to (by simp only [wNN]; simp) (by simp) (by simp)) ?_
  rintro ⟨⟨grp, c⟩, hg, hq⟩
  simp only at hg hq
  generalize hNN : 2 ^ g.agents.length = NN at *
  by_cases a2 : grp < NN
  · have wg : IntKind.i64.wrap ((grp : Int) + 1) = ((grp + 1 : Nat) : Int) := by rw [wrap_i64 _ (by omega) (by omega)]; rfl
    have hM := mems_ok hf grp
    have hl4 := hM.len
    have next : NoJ g r grp → ∀ grp', grp' < grp + 1 → NoJ g r grp' := fun hn grp' hl => by
      by_cases e : grp' = grp
      · rw [e]; exact hn
      · exact hq grp' (by omega)
    simp -dsimp -implicitDefEqProofs [a2]
    refine sw_cut (fun y : Nat => SS.of [(2, .v (.one (.mp 0 0))), (4, .v (.one (.mp 2 0))), (5, .v (.one (.mp 3 0))), (6, .v (.one (.mp 4 0))), (9, .v (.one (.mp (c + 5) 0))), (26, I .i64 NN), (27, I .i64 grp)] [(0, ⟨26, rowGm g⟩), (2, ⟨90, [.nils, .nils, .nils]⟩), (3, ⟨4, [.bool false]⟩), (4, ⟨106, rowTb g r⟩), (c + 5, ⟨34, [intsS (intsN (mems g.agents.length grp))]⟩)] (c + y + 6)) ?_ ?_
    · refine sw_loop_e (fun p : {p : Nat × Nat // p.1 ≤ g.agents.length} => SS.of [(2, .v (.one (.mp 0 0))), (4, .v (.one (.mp 2 0))), (5, .v (.one (.mp 3 0))), (6, .v (.one (.mp 4 0))), (8, I .i64 grp), (9, .v (.one (.mp (c + 5) 0))), (26, I .i64 NN), (27, I .i64 grp), (32, I .i64 g.agents.length), (33, I .i64 p.1.1)]
          ((0, ⟨26, rowGm g⟩) :: (2, ⟨90, [.nils, .nils, .nils]⟩) :: (3, ⟨4, [.bool false]⟩) :: (4, ⟨106, rowTb g r⟩) :: (c + 5, ⟨34, [if (mems p.1.1 grp).length = 0 then .nils else .ms (c + p.1.2 + 6) 0 (mems p.1.1 grp).length 1 true]⟩) :: if (mems p.1.1 grp).length = 0 then [] else [(c + p.1.2 + 6, ⟨3, flat rowInt (intsN (mems p.1.1 grp))⟩)]) (c + p.1.2 + 7))
        (fun p => g.agents.length - p.1.1) ⟨(0, 0), Nat.zero_le _⟩ (by kernel_rfl) (Le.to (by simp) (by simp [mems]) (by simp)) ?_
      rintro ⟨⟨i, d⟩, hi⟩
      simp only at hi
      have f1 : ¬ c + d + 1 = c := by omega
      have f2 : ¬ c + d + 2 = c := by omega
      have f3 : ¬ c + d + 3 = c := by omega
      have f1' : ¬ c = c + d + 1 := by omega
      have f2' : ¬ c = c + d + 2 := by omega
      have f3' : ¬ c = c + d + 3 := by omega
      by_cases a1 : i < g.agents.length
      · have wi : IntKind.i64.wrap ((i : Int) + 1) = ((i + 1 : Nat) : Int) := by rw [wrap_i64 _ (by omega) (by omega)]; rfl
        have hms := mems_succ i grp
        have hml := mems_len i grp
        have hb := bit_and grp (by omega) i (by omega)
        have hbit : bitN grp i = (grp / 2 ^ i % 2 == 1) := rfl
        by_cases cb : grp / 2 ^ i % 2 = 1
        · rw [hbit, show (grp / 2 ^ i % 2 == 1) = true by simp [cb], if_pos rfl] at hms
          rw [cb] at hb
          have hfl := flat_snoc (f := rowInt) (i : Int) (intsN (mems i grp))
          rw [← intsN_snoc, ← hms] at hfl
          have hl1 : (mems (i + 1) grp).length = (mems i grp).length + 1 := by rw [hms]; simp
          have hne : ¬ mems (i + 1) grp = [] := fun e => by rw [e] at hl1; simp at hl1
          by_cases l0 : mems i grp = []
          · rw [l0] at hfl hl1
            simp -dsimp -implicitDefEqProofs [a1, hb, slots, l0, f1, f2, f3, f1', f2', f3']
            exact Again.by ⟨(i + 1, d + 2), a1⟩ (Le.to (by simp [wi]) (by simp only [if_neg (show ¬ (mems (i + 1) grp).length = 0 by omega)]; simp [hl1, hfl, show flat rowInt (intsN []) = [] from rfl, ← Nat.add_assoc, f1, f2, f3, f1', f2', f3']) (by simp; omega)) (by simp; omega)
          · simp -dsimp -implicitDefEqProofs [a1, hb, slots, l0, f1, f2, f3, f1', f2', f3']
            refine ⟨⟨by omega, by omega⟩, ?_⟩
            exact Again.by ⟨(i + 1, d + 2), a1⟩ (Le.to (by simp [wi]) (by simp only [if_neg (show ¬ (mems (i + 1) grp).length = 0 by omega)]; simp [hl1, hfl, ← Nat.add_assoc, f1, f2, f3, f1', f2', f3']) (by simp; omega)) (by simp; omega)
        · rw [hbit, show (grp / 2 ^ i % 2 == 1) = false by simp [cb], if_neg (by simp)] at hms
          have cb' : ¬ ((grp / 2 ^ i % 2 : Nat) : Int) = 1 := by omega
          generalize ((grp / 2 ^ i % 2 : Nat) : Int) = G at *
          simp -dsimp -implicitDefEqProofs [a1, hb, cb']
          exact Again.by ⟨(i + 1, d), a1⟩ (Le.to (by simp [wi]) (by simp only [hms]; split <;> simp [*]) (by simp)) (by simp; omega)
      have hi2 : i = g.agents.length := by omega
      subst hi2
      by_cases l0 : mems g.agents.length grp = []
      · simp -dsimp -implicitDefEqProofs [l0]
        exact Cut.by (d + 1) (Le.to (by simp) (by simp [l0, intsN]) (by simp; omega))
      · simp -dsimp -implicitDefEqProofs [l0]
        exact Cut.by (d + 1) (Le.fzF [c + d + 6] (Le.to (by simp [f1, f1']) (by simp [l0, f1, f1']) (by simp [f1, f1']; omega)))
    intro y
    generalize hMM : mems g.agents.length grp = M at *
    by_cases c2 : M.length < 2
    · have c2' : (M.length : Int) < 2 := by omega
      have hn := next (fun hh => absurd hh (by rw [hMM]; omega))
      simp -dsimp -implicitDefEqProofs [c2, c2']
      exact Again.by ⟨(grp + 1, c + y + 1), a2, hn⟩ (Le.to (by simp [wg]) (by simp) (by simp <;> omega)) (by simp; omega)
    have c2' : ¬ (M.length : Int) < 2 := by omega
    have hne : M ≠ [] := fun e => by rw [e] at c2; simp at c2
    have hr0 := repM_pos hf hM
    simp -dsimp -implicitDefEqProofs [c2, c2']
    refine eCall.of (places_s g r) (by simp) ?_
    simp -dsimp -implicitDefEqProofs
    refine sw_range_f [0, 2, 3, 4, c + 5] (fun _ => SS.of [(2, .v (.one (.mp 0 0))), (4, .v (.one (.mp 2 0))), (5, .v (.one (.mp 3 0))), (6, .v (.one (.mp 4 0))), (9, .v (.one (.mp (c + 5) 0))), (26, I .i64 NN), (27, I .i64 grp), (50, .v (.one (.fn 154 [.rp true (rowTb g r)])))] [(0, ⟨26, rowGm g⟩), (2, ⟨90, [.nils, .nils, .nils]⟩), (3, ⟨4, [.bool false]⟩), (4, ⟨106, rowTb g r⟩), (c + 5, ⟨34, [intsS (intsN M)]⟩)] (c + y + 6))
      (fun k => ∀ m, m < k → NoJm g r grp m) (by simp) (places1_it g r (by omega)) (by simp) (by kernel_rfl) (fun it hit => by obtain ⟨i, -, rfl⟩ := List.mem_map.1 hit; rfl) (Le.to (by simp) (by simp) (by simp)) (fun k => ⟨rfl, rfl, ?_, by simp, rfl, rfl⟩) (fun k w0 ok0 hb => stable_nil) ?_ ?_
    · intro o ob ho
      simp at ho
      grind
    · intro m hm hF
      rw [itemsP_len, hpl, ← hrl] at hm
      have hpn : (profs g)[m]?.getD [] = atG g m := by rw [profs_at (by omega)]; rfl
      rw [itemsP_get]
      simp -dsimp -implicitDefEqProofs [itemP, hpn]
      rcases isJn_of g r m M with ⟨n, n1, n2, n3, n4⟩ | ⟨n1, n2⟩
      · refine eCall.of (joint_s g r h M hM hne m hm hr0 _ n4) (by simp) ?_
        obtain ⟨rfl, rfl⟩ := hj.at ⟨by rw [hNN]; exact a2, by rw [hMM]; omega, hm, by rw [hMM]; exact n1, by rw [hMM]; exact n2, hq, hF, by rw [hMM]; exact n3⟩
        have htl := toldM_len g M n
        obtain ⟨t, T, hT⟩ := List.exists_cons_of_ne_nil (l := toldM g M n) (fun e => by rw [e] at htl; simp at htl; omega)
        have hal := atG_length g m
        simp -dsimp -implicitDefEqProofs [jtAt, hMM, hT]
        exact ⟨by omega, by omega⟩
      · refine eCall.of (joint_s g r h M hM hne m hm hr0 _ n2) (by simp) ?_
        simp -dsimp -implicitDefEqProofs
        intro m' hm'
        by_cases e : m' = m
        · rw [e]; unfold NoJm; rw [hMM]; exact n1
        · exact hF m' (by omega)
    · intro hF
      rw [itemsP_len, hpl, ← hrl] at hF
      have hn := next (fun _ => hF)
      simp -dsimp -implicitDefEqProofs
      exact Again.by ⟨(grp + 1, c + y + 1), a2, hn⟩ (Le.to (by simp [wg]) (by simp) (by simp <;> omega)) (by simp; omega)
  have hg2 : grp = NN := by omega
  subst hg2
  obtain ⟨rfl, rfl⟩ := hj.none (by rw [hNN]; exact hq)
  simp -dsimp -implicitDefEqProofs
set_option maxRecDepth 20000 in
theorem rgroupNo_s (g : Gm) (r : List Ce) (h : Seen g r) (hg : ¬ Good g r) : CallsS Tryz.prog 58 [gmS g, ruS r] (.tup [jtS ⟨[], [], []⟩, .one (.bool false)]) := by
  refine calls Tryz.func58 rfl (by rfl) (by rfl) (by kernel_rfl) ?_
  simp -dsimp -implicitDefEqProofs [Tryz.f58]
  refine eCall.of (openNo_s g r h hg) (by simp) ?_
  simp -dsimp -implicitDefEqProofs
end Go.Proofs.YtmgaoecfipkjbaaGreat.Sh

/- Groups: the law. -/
namespace Go.Proofs.YtmgaoecfipkjbaaGreat.Sh
open Go Go.RowKit

theorem isJt.lens {g : Gm} {r : List Ce} {j : Jt} {ok : Bool} (hg : g.agents.length ≤ 4) (h : isJt g r j ok) : j.group.length ≤ 4 ∧ j.told.length ≤ 4 ∧ j.prof.length ≤ 4 := by
  rcases h with ⟨a, n, t, -, rfl, -⟩ | ⟨-, rfl, -⟩
  · have h1 := mems_len g.agents.length a
    have h2 := toldM_len g (mems g.agents.length a) t
    have h3 := atG_length g n
    refine ⟨?_, ?_, ?_⟩ <;> simp only [jtAt] <;> (try rw [intsN_len]) <;> omega
  · exact ⟨Nat.zero_le _, Nat.zero_le _, Nat.zero_le _⟩

set_option maxRecDepth 20000 in
theorem lawGroup_s (g : Gm) (r : List Ce) (hg : g.ok) (hl : lenOk r) (hr : ∀ c ∈ r, c.ok) : CallsS Tryz.prog 12 [gmS g, ruS r] (B true) := by
  refine calls Tryz.func12 rfl (by rfl) (by rfl) (by kernel_rfl) ?_
  simp -dsimp -implicitDefEqProofs [Tryz.f12]
  refine eCall.of (bey4_s g r hg hl hr) (by simp) ?_
  cases h1 : far g with
  | true => simp -dsimp -implicitDefEqProofs
  | false =>
  cases h2 : beyondRule r with
  | true => simp -dsimp -implicitDefEqProofs
  | false =>
  have hs := seen_of hg hr h1 h2
  obtain ⟨j, ok, ha, hb, l1, l2, l3⟩ : ∃ j ok, CallsS Tryz.prog 57 [gmS g, ruS r] (.tup [jtS j, .one (.bool ok)]) ∧ CallsS Tryz.prog 58 [gmS g, ruS r] (.tup [jtS j, .one (.bool ok)]) ∧ j.group.length ≤ 140737488355328 ∧ j.told.length ≤ 140737488355328 ∧ j.prof.length ≤ 140737488355328 := by
    by_cases hgd : Good g r
    · have hp : Play g r := ⟨hs, h1, hgd⟩
      obtain ⟨j, ok, hj⟩ := isJt_of g r
      obtain ⟨l1, l2, l3⟩ := hj.lens (sizeOk_all hp.fine.sz).1
      exact ⟨j, ok, group4_s g r hp j ok hj, rgroup_s g r hp j ok hj, by omega, by omega, by omega⟩
    · exact ⟨⟨[], [], []⟩, false, groupNo4_s g r hs hgd, rgroupNo_s g r hs hgd, by decide, by decide, by decide⟩
  simp -dsimp -implicitDefEqProofs
  refine eCall.of ha (by simp) ?_
  simp -dsimp -implicitDefEqProofs
  refine eCall.of hb (by simp) ?_
  simp -dsimp -implicitDefEqProofs
  refine eCall.of (sameInts_s j.group j.group l1 l1) (by simp) ?_
  simp -dsimp -implicitDefEqProofs
  refine eCall.of (sameInts_s j.told j.told l2 l2) (by simp) ?_
  simp -dsimp -implicitDefEqProofs
  refine eCall.of (sameInts_s j.prof j.prof l3 l3) (by simp) ?_
  simp -dsimp -implicitDefEqProofs
  refine eCall.of fixed_s (by simp) ?_
  simp -dsimp -implicitDefEqProofs
end Go.Proofs.YtmgaoecfipkjbaaGreat.Sh

