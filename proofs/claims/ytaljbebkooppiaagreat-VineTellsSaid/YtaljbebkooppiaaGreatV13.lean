/- A part of the proof: W17, W18, W19, W20, W21 -/
import Derived.Test.YtaljbebkooppiaaGreatV12
set_option linter.unusedSimpArgs false
set_option linter.unusedVariables false
set_option linter.unusedSectionVars false
namespace Go.Proofs.YtaljbebkooppiaaGreat.Sh
open Go Go.RowKit
set_option maxRecDepth 20000 in
theorem digit_s {v l : List Int} {off n : Nat} (h : DigitIn v l off n) (hl : l.length ≤ 70368744177664) : CallsX Tryz.prog 223 [.one (.ms 0 off (n + 1) 1 false), .one (wS v)] [oS l] (I .u32 (wv l off (n + 1) / val v)) [some (oS (winSet l off (n + 1) (wv l off (n + 1) % val v)))] := by
  have n2 := h.n2
  have hlen := h.len
  have hfit := h.fit
  have a1 := at0_W h.inv (n - 1)
  have a2 := at0_W h.inv (n - 2)
  have a3 := at0_W h.inl (off + n)
  have a4 := at0_W h.inl (off + (n - 1))
  have a5 := at0_W h.inl (off + (n - 2))
  have w1 : IntKind.i64.wrap ((n : Int) - 1) = ((n - 1 : Nat) : Int) := by rw [wrap_i64 _ (by omega) (by omega)]; omega
  have w2 : IntKind.i64.wrap ((n : Int) - 2) = ((n - 2 : Nat) : Int) := by rw [wrap_i64 _ (by omega) (by omega)]; omega
  have g1 : l[off + n]? = some (at0 l (off + n)) := by rw [at0_lt (by omega), List.getElem?_eq_getElem]
  have g2 : l[off + (n - 1)]? = some (at0 l (off + (n - 1))) := by rw [at0_lt (by omega), List.getElem?_eq_getElem]
  have g3 : l[off + (n - 2)]? = some (at0 l (off + (n - 2))) := by rw [at0_lt (by omega), List.getElem?_eq_getElem]
  have g4 : v[n - 1]? = some (at0 v (n - 1)) := by rw [at0_lt (by omega), List.getElem?_eq_getElem]
  have g5 : v[n - 2]? = some (at0 v (n - 2)) := by rw [at0_lt (by omega), List.getElem?_eq_getElem]
  refine callsX Tryz.func223 rfl (by rfl) (by rfl) (by kernel_rfl) (by simp) ?_
  simp -dsimp -implicitDefEqProofs [Tryz.f223, hlen, w1, w2, g1, g2, g3, g4, g5]
  have hwv : IntKind.u64.wrap (at0 v (n - 1)) = at0 v (n - 1) := wrap_u64_id _ (by omega) (by omega)
  have htop := h.top
  refine ⟨by omega, by omega, by omega, by omega, by omega, by omega, ?_⟩
  refine sw_cut (fun g : {g : Int // (0 ≤ g ∧ g < 4294967296) ∧ (g - 1) * val v ≤ wv l off (n + 1) ∧ wv l off (n + 1) < (g + 1) * val v} => SS.of [(0, .v (.one (.ms 0 off (n + 1) 1 false))), (1, .v (.one (wS v))), (5, I .i64 n), (7, I .u64 g.1)] [(0, oS l)] 1) ?_ ?_
  · refine sw_loop_e (fun p : {p : Int × Int // Guess v l off n p.1 p.2 ∧ p.2 < 4294967296} => SS.of [(0, .v (.one (.ms 0 off (n + 1) 1 false))), (1, .v (.one (wS v))), (5, I .i64 n), (7, I .u64 p.1.1), (8, I .u64 p.1.2)] [(0, oS l)] 1)
      (fun p => p.1.1.toNat) ⟨(_, _), Guess.start h rfl⟩ (by kernel_rfl) (Le.to ?_ (by simp) (by simp)) ?_
    · have c1 : IntKind.u64.wrap (at0 l (off + n)) = at0 l (off + n) := wrap_u64_id _ (by omega) (by omega)
      have c2 : IntKind.u64.wrap (at0 l (off + (n - 1))) = at0 l (off + (n - 1)) := wrap_u64_id _ (by omega) (by omega)
      have c3 := shl32 (at0 l (off + n)) a3.1 a3.2
      have c4 := or_word (at0 l (off + n)) (at0 l (off + (n - 1))) a3.1 a3.2 a4.1 a4.2
      have gs := (Guess.start h rfl).1
      have gr := (Guess.start h rfl).2
      have c5 : (at0 l (off + n) * 4294967296 + at0 l (off + (n - 1))).tdiv (at0 v (n - 1)) = (at0 l (off + n) * 4294967296 + at0 l (off + (n - 1))) / at0 v (n - 1) := Int.tdiv_eq_ediv_of_nonneg (by omega)
      have c6 : (at0 l (off + n) * 4294967296 + at0 l (off + (n - 1))).tmod (at0 v (n - 1)) = (at0 l (off + n) * 4294967296 + at0 l (off + (n - 1))) % at0 v (n - 1) := Int.tmod_eq_emod_of_nonneg (by omega)
      have c7 : IntKind.u64.wrap ((at0 l (off + n) * 4294967296 + at0 l (off + (n - 1))) / at0 v (n - 1)) = (at0 l (off + n) * 4294967296 + at0 l (off + (n - 1))) / at0 v (n - 1) := wrap_u64_id _ gs.g0.1 (by have := gs.g0.2; omega)
      simp [c1, c2, c3, c4, hwv, c5, c6, c7]
    rintro ⟨⟨g, r⟩, hg, hr⟩
    simp only at hg hr
    have k0 := hg.g0
    have k1 := hg.r0
    have k2 : IntKind.u64.wrap (at0 v (n - 1)) = at0 v (n - 1) := wrap_u64_id _ (by omega) (by omega)
    have k3 : IntKind.u64.wrap (at0 v (n - 2)) = at0 v (n - 2) := wrap_u64_id _ (by omega) (by omega)
    have k4 : IntKind.u64.wrap (at0 l (off + (n - 2))) = at0 l (off + (n - 2)) := wrap_u64_id _ (by omega) (by omega)
    have k5 : IntKind.u64.wrap (r * 2 ^ min 32 IntKind.u64.bits) = r * 4294967296 := shl32 r k1 hr
    have k6 : bitsOf .or .u64 (r * 4294967296) (at0 l (off + (n - 2))) = r * 4294967296 + at0 l (off + (n - 2)) := or_word _ _ k1 hr a5.1 a5.2
    have k7 : IntKind.u64.wrap (r + at0 v (n - 1)) = r + at0 v (n - 1) := wrap_u64_id _ (by omega) (by omega)
    by_cases hB : 4294967296 ≤ g
    · obtain ⟨d1, d2⟩ := hg.down h (Or.inl hB)
      have k8 : IntKind.u64.wrap (g - 1) = g - 1 := wrap_u64_id _ (by omega) (by omega)
      simp -dsimp -implicitDefEqProofs [hlen, w1, w2, g1, g2, g3, g4, g5, hB, k2, k3, k4, k5, k6, k7, k8]
      refine ⟨by omega, fun hs => ?_, fun hs => ?_⟩
      · obtain ⟨s1, s2⟩ := d1.stop h hs
        exact Cut.by ⟨g - 1, ⟨by omega, by omega⟩, s2, d1.hi⟩ (Le.to (by simp) (by simp) (by simp))
      · exact Again.by ⟨(g - 1, r + at0 v (n - 1)), d1, hs⟩ (Le.to (by simp) (by simp) (by simp)) (by simp; omega)
    · have k9 : IntKind.u64.wrap (g * at0 v (n - 2)) = g * at0 v (n - 2) := by
        have := prod_lt ⟨k0.1, by omega⟩ a2
        exact wrap_u64_id _ (by omega) (by omega)
      simp -dsimp -implicitDefEqProofs [hlen, w1, w2, g1, g2, g3, g4, g5, hB, k2, k3, k4, k5, k6, k7, k9]
      refine ⟨by omega, by omega, fun hc => ⟨by omega, fun hs => ?_, fun hs => ?_⟩, fun hc => ?_⟩
      · obtain ⟨d1, d2⟩ := hg.down h (Or.inr hc)
        obtain ⟨s1, s2⟩ := d1.stop h hs
        have k8 : IntKind.u64.wrap (g - 1) = g - 1 := wrap_u64_id _ (by omega) (by omega)
        exact Cut.by ⟨g - 1, ⟨by omega, by omega⟩, s2, d1.hi⟩ (Le.to (by simp [k8]) (by simp) (by simp))
      · obtain ⟨d1, d2⟩ := hg.down h (Or.inr hc)
        have k8 : IntKind.u64.wrap (g - 1) = g - 1 := wrap_u64_id _ (by omega) (by omega)
        exact Again.by ⟨(g - 1, r + at0 v (n - 1)), d1, hs⟩ (Le.to (by simp [k8]) (by simp) (by simp)) (by simp; omega)
      · exact Cut.by ⟨g, ⟨k0.1, by omega⟩, hg.near h (by omega) hc, hg.hi⟩ (Le.to (by simp) (by simp) (by simp))
  · rintro ⟨g, hg, hg1, hg2⟩
    simp -dsimp -implicitDefEqProofs [hlen]
    refine sw_loop_e (fun p : {p : Nat × List Int × Int × Int // SubInv l v off n g p.1 p.2.1 p.2.2.1 p.2.2.2 ∧ p.1 ≤ n} => SS.of [(0, .v (.one (.ms 0 off (n + 1) 1 false))), (1, .v (.one (wS v))), (5, I .i64 n), (7, I .u64 g), (9, I .u64 p.1.2.2.2), (10, I .u64 p.1.2.2.1), (82, I .i64 n), (83, I .i64 p.1.1)] [(0, oS p.1.2.1)] 1)
      (fun p => n - p.1.1) ⟨(0, l, 0, 0), SubInv.start h.inl off n g, Nat.zero_le _⟩ (by kernel_rfl) (Le.to (by simp) (by simp) (by simp)) ?_
    rintro ⟨⟨i, m, c, b⟩, hi, hin⟩
    simp only at hi hin
    obtain ⟨f1, f2, f3, f4, f5⟩ := hi.facts h.inv hg
    have hml : m.length = l.length := hi.w.len
    have q1 : m[off + i]? = some (at0 m (off + i)) := by rw [at0_lt (by omega), List.getElem?_eq_getElem]
    by_cases a6 : i < n
    · have q2 : v[i]? = some (at0 v i) := by rw [at0_lt (by omega), List.getElem?_eq_getElem]
      have q3 : v[i] = at0 v i := (at0_lt (by omega)).symm
      have wi : IntKind.i64.wrap ((i : Int) + 1) = ((i + 1 : Nat) : Int) := by rw [wrap_i64 _ (by omega) (by omega)]; rfl
      have k1 : IntKind.u64.wrap (at0 v i) = at0 v i := wrap_u64_id _ (by omega) (by omega)
      have k2 : IntKind.u64.wrap (g * at0 v i) = g * at0 v i := wrap_u64_id _ (by omega) (by omega)
      have k3 : IntKind.u64.wrap (c + g * at0 v i) = c + g * at0 v i := wrap_u64_id _ (by omega) (by omega)
      have k4 : IntKind.u64.wrap ((c + g * at0 v i) % 4294967296 + b) = (c + g * at0 v i) % 4294967296 + b := wrap_u64_id _ (by omega) (by omega)
      have k5 : IntKind.u64.wrap ((c + g * at0 v i) % 4294967296) = (c + g * at0 v i) % 4294967296 := wrap_u64_id _ (by omega) (by omega)
      have k6 : IntKind.u64.wrap (at0 m (off + i)) = at0 m (off + i) := wrap_u64_id _ (by omega) (by omega)
      have k7 : IntKind.u64.wrap (at0 m (off + i) + 4294967296) = at0 m (off + i) + 4294967296 := wrap_u64_id _ (by omega) (by omega)
      simp -dsimp -implicitDefEqProofs [hlen, a6, wi, q1, q2, q3, k1, k2, k3, wrap_u32 (c + g * at0 v i), k4, k5, k6, k7, shr32]
      refine ⟨by omega, fun hc => ⟨by omega, by omega, ?_⟩, fun hc => ⟨by omega, by omega, ?_⟩⟩
      · have y1 : IntKind.u64.wrap (at0 m (off + i) + 4294967296 - ((c + g * at0 v i) % 4294967296 + b)) = at0 m (off + i) + 4294967296 - ((c + g * at0 v i) % 4294967296 + b) := wrap_u64_id _ (by omega) (by omega)
        have y2 : IntKind.u32.wrap (at0 m (off + i) + 4294967296 - ((c + g * at0 v i) % 4294967296 + b)) = at0 m (off + i) + 4294967296 - ((c + g * at0 v i) % 4294967296 + b) := wrap_u32_id _ (by omega) (by omega)
        exact Again.by ⟨(i + 1, _, _, 1), hi.step h.inv hg (by omega) hfit rfl rfl rfl (b' := 1) (Or.inr ⟨rfl, hc⟩) (y := at0 m (off + i) + 4294967296 - ((c + g * at0 v i) % 4294967296 + b)) (by omega), by simp only; omega⟩ (Le.to (by simp) (by simp [y1, y2]) (by simp)) (by simp; omega)
      · have y1 : IntKind.u64.wrap (at0 m (off + i) - ((c + g * at0 v i) % 4294967296 + b)) = at0 m (off + i) - ((c + g * at0 v i) % 4294967296 + b) := wrap_u64_id _ (by omega) (by omega)
        have y2 : IntKind.u32.wrap (at0 m (off + i) - ((c + g * at0 v i) % 4294967296 + b)) = at0 m (off + i) - ((c + g * at0 v i) % 4294967296 + b) := wrap_u32_id _ (by omega) (by omega)
        exact Again.by ⟨(i + 1, _, _, 0), hi.step h.inv hg (by omega) hfit rfl rfl rfl (b' := 0) (Or.inl ⟨rfl, hc⟩) (y := at0 m (off + i) - ((c + g * at0 v i) % 4294967296 + b)) (by omega), by simp only; omega⟩ (Le.to (by simp) (by simp [y1, y2]) (by simp)) (by simp; omega)
    · have hin' : i = n := by omega
      subst hin'
      have z0 : at0 v i = 0 := at0_ge (by omega)
      have k1 : IntKind.u64.wrap (c + b) = c + b := wrap_u64_id _ (by omega) (by omega)
      have k6 : IntKind.u64.wrap (at0 m (off + i)) = at0 m (off + i) := wrap_u64_id _ (by omega) (by omega)
      have k7 : IntKind.u64.wrap (at0 m (off + i) + 4294967296) = at0 m (off + i) + 4294967296 := wrap_u64_id _ (by omega) (by omega)
      have k8 : IntKind.u32.wrap g = g := wrap_u32_id _ (by omega) (by omega)
      simp -dsimp -implicitDefEqProofs [hlen, q1, k1, k6, k7, k8]
      refine ⟨by omega, fun hc => ⟨by omega, by omega, ?_⟩, fun hc => ⟨by omega, by omega, ?_⟩⟩
      · have st := hi.step h.inv hg (Nat.le_refl _) hfit (p := c) (t := c + b) (c' := 0) (b' := 0) (y := at0 m (off + i) - (c + b)) (by rw [z0]; simp) (by omega) (by omega) (Or.inl ⟨rfl, hc⟩) (by omega)
        obtain ⟨r1, r2⟩ := st.right (by omega) h.pos hg2
        have r3 := st.w.done (by omega) r2
        have y1 : IntKind.u64.wrap (at0 m (off + i) - (c + b)) = at0 m (off + i) - (c + b) := wrap_u64_id _ (by omega) (by omega)
        have y2 : IntKind.u32.wrap (at0 m (off + i) - (c + b)) = at0 m (off + i) - (c + b) := wrap_u32_id _ (by omega) (by omega)
        exact RetX.by [] [] (by simp) (by simp) (by simp [r1]) (by simp [← r3, y1, y2])
      · have st := hi.step h.inv hg (Nat.le_refl _) hfit (p := c) (t := c + b) (c' := 0) (b' := 1) (y := at0 m (off + i) + 4294967296 - (c + b)) (by rw [z0]; simp) (by omega) (by omega) (Or.inr ⟨rfl, hc⟩) (by omega)
        have y1 : IntKind.u64.wrap (at0 m (off + i) + 4294967296 - (c + b)) = at0 m (off + i) + 4294967296 - (c + b) := wrap_u64_id _ (by omega) (by omega)
        have y2 : IntKind.u32.wrap (at0 m (off + i) + 4294967296 - (c + b)) = at0 m (off + i) + 4294967296 - (c + b) := wrap_u32_id _ (by omega) (by omega)
        generalize hm1 : m.set (off + i) (at0 m (off + i) + 4294967296 - (c + b)) = m1 at st
        have hm1l : m1.length = l.length := st.w.len
        refine sw_loop_e (fun p : {p : Nat × List Int × Int // AddInv m1 v off i p.1 p.2.1 p.2.2 ∧ p.1 ≤ i} => SS.of [(0, .v (.one (.ms 0 off (i + 1) 1 false))), (1, .v (.one (wS v))), (5, I .i64 i), (7, I .u64 g), (10, I .u64 p.1.2.2), (156, I .i64 i), (157, I .i64 p.1.1)] [(0, oS p.1.2.1)] 1)
          (fun p => i - p.1.1) ⟨(0, m1, 0), AddInv.start st.w.inw off i, Nat.zero_le _⟩ (by kernel_rfl) (Le.to (by simp) (by simp [y1, y2, ← hm1]) (by simp)) ?_
        rintro ⟨⟨j, m2, d⟩, hj, hji⟩
        simp only at hj hji
        have e1 := at0_W hj.w.inw (off + j)
        have e2 := at0_W h.inv j
        have e3 := hj.c0
        have hm2 : m2.length = m1.length := hj.w.len
        have q5 : m2[off + j]? = some (at0 m2 (off + j)) := by rw [at0_lt (by omega), List.getElem?_eq_getElem]
        by_cases b1 : j < i
        · have q2 : v[j]? = some (at0 v j) := by rw [at0_lt (by omega), List.getElem?_eq_getElem]
          have q3 : v[j] = at0 v j := (at0_lt (by omega)).symm
          have wi : IntKind.i64.wrap ((j : Int) + 1) = ((j + 1 : Nat) : Int) := by rw [wrap_i64 _ (by omega) (by omega)]; rfl
          have p1 : IntKind.u64.wrap (at0 v j) = at0 v j := wrap_u64_id _ (by omega) (by omega)
          have p2 : IntKind.u64.wrap (at0 m2 (off + j)) = at0 m2 (off + j) := wrap_u64_id _ (by omega) (by omega)
          have p3 : IntKind.u64.wrap (at0 m2 (off + j) + at0 v j) = at0 m2 (off + j) + at0 v j := wrap_u64_id _ (by omega) (by omega)
          have p4 : IntKind.u64.wrap (d + (at0 m2 (off + j) + at0 v j)) = at0 m2 (off + j) + at0 v j + d := by rw [wrap_u64_id _ (by omega) (by omega)]; omega
          simp -dsimp -implicitDefEqProofs [hlen, b1, wi, q5, q2, q3, p1, p2, p3, p4, wrap_u32 (at0 m2 (off + j) + at0 v j + d), shr32]
          repeat refine And.intro (by omega) ?_
          exact Again.by ⟨(j + 1, _, _), hj.step h.inv (by omega) (by omega) rfl rfl rfl, by simp only; omega⟩ (Le.to (by simp) (by simp) (by simp)) (by simp; omega)
        · have hji' : j = i := by omega
          subst hji'
          simp -dsimp -implicitDefEqProofs [hlen, q5]
          refine ⟨by omega, by omega, ?_⟩
          have at1 := hj.step h.inv (Nat.le_refl _) (by omega) (s := at0 m2 (off + j) + d) (by rw [z0]; omega) rfl rfl
          obtain ⟨r1, r2⟩ := st.high at1 h.inv (by omega) (by omega) h.pos hg1
          have st2 : WinS l (m2.set (off + j) ((at0 m2 (off + j) + d) % 4294967296)) off (j + 1) := ⟨by rw [at1.w.len, hm1l], at1.w.inw, by rw [at1.w.tk, st.w.tk], by rw [at1.w.dr, st.w.dr]⟩
          have r3 := st2.done (by omega) r2
          have hg1' : 1 ≤ g := by
            rcases Int.lt_or_le 0 g with h0 | h0
            · omega
            · exfalso
              have hV := h.pos
              have hU := wv_nonneg h.inl off (j + 1)
              have hq := Int.ediv_nonneg hU (Int.le_of_lt hV)
              omega
          have y3 : IntKind.u64.wrap (g - 1) = g - 1 := wrap_u64_id _ (by omega) (by omega)
          have y4 : IntKind.u32.wrap (g - 1) = g - 1 := wrap_u32_id _ (by omega) (by omega)
          have y5 : IntKind.u32.wrap d = d := wrap_u32_id _ (by omega) (by omega)
          exact RetX.by [] [] (by simp) (by simp) (by simp [r1, y3, y4]) (by simp [← r3, y5, wrap_u32 (at0 m2 (off + j) + d)])
end Go.Proofs.YtaljbebkooppiaaGreat.Sh

namespace Go.Proofs.YtaljbebkooppiaaGreat.Sh
open Go Go.RowKit
theorem at0_take (x : List Int) (i j : Nat) : at0 (x.take i) j = if j < i then at0 x j else 0 := by
  unfold at0
  rw [List.getElem?_take]
  split <;> rfl
structure UnInv (x : List Int) (s i : Nat) (l : List Int) : Prop where
  hi : i ≤ x.length
  len : l.length = x.length
  inw : InW l
  eq : ∀ j, at0 l j = (at0 (x.take i) j + 4294967296 * at0 (x.take i) (j + 1)) / 2 ^ s % 4294967296
theorem UnInv.start (x : List Int) (s : Nat) : UnInv x s 0 (List.replicate x.length 0) := by
  refine ⟨by omega, by simp, by intro z hz; rw [List.eq_of_mem_replicate hz]; omega, fun j => ?_⟩
  have : at0 (List.replicate x.length 0) j = 0 := by
    unfold at0
    rw [List.getElem?_replicate]
    split <;> rfl
  rw [this]
  simp [at0]
theorem UnInv.top {x l : List Int} {s i : Nat} (h : UnInv x s i l) {j : Nat} (hj : i ≤ j) : at0 l j = 0 := by
  rw [h.eq, at0_take, at0_take, if_neg (by omega), if_neg (by omega)]; simp
theorem down_word {s : Nat} (hs : s < 32) {a z : Int} (a0 : 0 ≤ a) (a1 : a < 4294967296) (z0 : 0 ≤ z) (z1 : z < 4294967296) :
    (0 ≤ a / 2 ^ s ∧ a / 2 ^ s < 4294967296) ∧ (a + 4294967296 * z) / 2 ^ s % 4294967296 = a / 2 ^ s + z * 2 ^ (32 - s) % 4294967296 ∧ bitsOf .or .u32 (a / 2 ^ s) (z * 2 ^ (32 - s) % 4294967296) = a / 2 ^ s + z * 2 ^ (32 - s) % 4294967296 ∧ z * 2 ^ (32 - s) < 18446744073709551616 ∧ a / 2 ^ s + z * 2 ^ (32 - s) % 4294967296 < 4294967296 := by
  have ht : (4294967296 : Int) = 2 ^ s * 2 ^ (32 - s) := by rw [← Int.pow_add, show s + (32 - s) = 32 by omega]; rfl
  have p1 := two_pos s
  have p2 := two_pos (32 - s)
  have p3 : (2 : Int) ^ (32 - s) ≤ 4294967296 := two_mono (show 32 - s ≤ 32 by omega)
  have d0 : 0 ≤ a / 2 ^ s := Int.ediv_nonneg a0 (by omega)
  have d1 : a / 2 ^ s ≤ a := Int.ediv_le_self _ a0
  have d2 : a / 2 ^ s < 2 ^ (32 - s) := Int.ediv_lt_of_lt_mul p1 (by rw [Int.mul_comm, ← ht]; exact a1)
  have e1 : z * 2 ^ (32 - s) % 4294967296 = 2 ^ (32 - s) * (z % 2 ^ s) := by rw [show (4294967296 : Int) = 2 ^ (32 - s) * 2 ^ s by rw [Int.mul_comm]; exact ht, Int.mul_comm, Int.mul_emod_mul_of_pos _ _ p2]
  have m0 := Int.emod_nonneg z (show (2 : Int) ^ s ≠ 0 by omega)
  have m1 := Int.emod_lt_of_pos z p1
  have hlt : (2 : Int) ^ (32 - s) * (z % 2 ^ s) + 2 ^ (32 - s) ≤ 4294967296 := by
    have : (2 : Int) ^ (32 - s) * (z % 2 ^ s + 1) ≤ 2 ^ (32 - s) * 2 ^ s := Int.mul_le_mul_of_nonneg_left (by omega) (by omega)
    rw [Int.mul_add, Int.mul_comm (2 ^ (32 - s)) (2 ^ s), ← ht] at this; omega
  have e2 : (a + 4294967296 * z) / 2 ^ s = a / 2 ^ s + z * 2 ^ (32 - s) := by
    rw [show a + 4294967296 * z = a + 2 ^ s * (2 ^ (32 - s) * z) by rw [← Int.mul_assoc, ← ht], Int.add_mul_ediv_left _ _ (by omega), Int.mul_comm z]
  have hz : z * 2 ^ (32 - s) < 18446744073709551616 := by
    have : z * 2 ^ (32 - s) ≤ 4294967295 * 4294967296 := Int.mul_le_mul (by omega) p3 (by omega) (by omega)
    omega
  have hm := Int.mul_nonneg (Int.le_of_lt p2) m0
  refine ⟨⟨d0, by omega⟩, ?_, ?_, hz, by omega⟩
  · rw [e2, Int.add_emod, e1, Int.emod_eq_of_lt d0 (by omega), Int.emod_eq_of_lt (a := a / 2 ^ s + _) (by omega) (by omega)]
  · rw [e1, or_add .u32 (Or.inl rfl) (32 - s) (a / 2 ^ s) (z % 2 ^ s) d0 d2 m0 (by simp only [IntKind.bits]; omega)]; omega
theorem UnInv.step {x l : List Int} {s i : Nat} (h : UnInv x s i l) (hs : s < 32) (hx : InW x) (hi : i < x.length) : i = 0 → UnInv x s 1 (l.set 0 (at0 x 0 / 2 ^ s)) := by
  rintro rfl
  have a0 := at0_W hx 0
  obtain ⟨⟨d0, d1⟩, _⟩ := down_word hs a0.1 a0.2 (z := 0) (by omega) (by omega)
  refine ⟨by omega, by simp [h.len], ?_, fun j => ?_⟩
  · intro z hz
    rcases List.mem_or_eq_of_mem_set hz with hz | rfl
    · exact h.inw z hz
    · exact ⟨d0, d1⟩
  · rw [at0_take, at0_take, if_neg (show ¬ j + 1 < 1 by omega)]
    cases j with
    | zero =>
      rw [at0_set_self _ (by rw [h.len]; omega), if_pos (by omega), Int.mul_zero, Int.add_zero]
      exact (Int.emod_eq_of_lt d0 d1).symm
    | succ j => rw [at0_set_ne _ (by omega), h.top (by omega), if_neg (by omega)]; simp
theorem UnInv.step2 {x l : List Int} {s i : Nat} (h : UnInv x s (i + 1) l) (hs : s < 32) (hx : InW x) (hi : i + 1 < x.length) :
    UnInv x s (i + 2) ((l.set (i + 1) (at0 x (i + 1) / 2 ^ s)).set i (at0 x i / 2 ^ s + at0 x (i + 1) * 2 ^ (32 - s) % 4294967296)) := by
  have a0 := at0_W hx i
  have a1 := at0_W hx (i + 1)
  obtain ⟨_, e1, _, _, e4⟩ := down_word hs a0.1 a0.2 a1.1 a1.2
  obtain ⟨⟨d0, d1⟩, _⟩ := down_word hs a1.1 a1.2 (z := 0) (by omega) (by omega)
  have p1 := two_pos s
  have d2 : 0 ≤ at0 x i / 2 ^ s := Int.ediv_nonneg a0.1 (by omega)
  refine ⟨by omega, by simp [h.len], ?_, fun j => ?_⟩
  · intro z hz
    rcases List.mem_or_eq_of_mem_set hz with hz | rfl
    · rcases List.mem_or_eq_of_mem_set hz with hz | rfl
      · exact h.inw z hz
      · exact ⟨d0, d1⟩
    · omega
  · have e := h.eq j
    rw [at0_take, at0_take] at e
    rw [at0_take, at0_take]
    by_cases c1 : j = i
    · subst c1
      rw [at0_set_self _ (by simp [h.len]; omega), if_pos (by omega), if_pos (by omega), e1]
    · rw [at0_set_ne _ (by omega)]
      by_cases c2 : j = i + 1
      · subst c2
        rw [at0_set_self _ (by simp [h.len]; omega), if_pos (by omega), if_neg (by omega)]
        simp only [Int.mul_zero, Int.add_zero]
        exact (Int.emod_eq_of_lt d0 d1).symm
      · rw [at0_set_ne _ (by omega), e]
        by_cases c3 : j < i
        · rw [if_pos (by omega), if_pos (by omega), if_pos (by omega), if_pos (by omega)]
        · rw [if_neg (by omega), if_neg (by omega), if_neg (by omega), if_neg (by omega)]
theorem UnInv.step3 {x l : List Int} {s i : Nat} (h : UnInv x s i l) (hs : s < 32) (hx : InW x) (hi : i < x.length) (hz : ¬ i = 0) :
    UnInv x s (i + 1) ((l.set i (at0 x i / 2 ^ s)).set (i - 1) (at0 x (i - 1) / 2 ^ s + at0 x i * 2 ^ (32 - s) % 4294967296)) ∧ at0 l (i - 1) = at0 x (i - 1) / 2 ^ s := by
  cases i with
  | zero => exact absurd rfl hz
  | succ k =>
    refine ⟨h.step2 hs hx hi, ?_⟩
    have ay := at0_W hx k
    obtain ⟨⟨g0, g1⟩, _⟩ := down_word hs ay.1 ay.2 (z := 0) (by omega) (by omega)
    have e := h.eq k
    rw [at0_take, at0_take, if_pos (by omega), if_neg (by omega)] at e
    rw [Int.mul_zero, Int.add_zero, Int.emod_eq_of_lt g0 g1] at e
    exact e
theorem UnInv.done {x l : List Int} {s : Nat} (h : UnInv x s x.length l) (hs : s < 32) (hx : InW x) : val l = val x / 2 ^ s := by
  have key : ∀ k, k ≤ x.length → val (l.take k) = val x / 2 ^ s % 4294967296 ^ k := by
    intro k
    induction k with
    | zero => intro _; simp [val, Int.emod_one]
    | succ k ih =>
      intro hk
      have hp := pow_pos_ k
      rw [val_take_succ, ih (by omega), Int.pow_succ, emod_mul_ _ _ _ hp (by omega), back_word x hx s k hs, h.eq k, List.take_of_length_le (Nat.le_refl _)]
  have e := key x.length (Nat.le_refl _)
  have v0 := val_nonneg hx
  have v1 := val_lt hx
  have p1 := two_pos s
  have d0 : 0 ≤ val x / 2 ^ s := Int.ediv_nonneg v0 (by omega)
  have d1 : val x / 2 ^ s ≤ val x := Int.ediv_le_self _ v0
  rw [List.take_of_length_le (by rw [h.len]; omega), Int.emod_eq_of_lt d0 (by omega)] at e
  exact e
set_option maxRecDepth 20000 in
theorem unshifted_s (x : List Int) (s : Nat) (hs : s < 32) (hx : InW x) (h1 : x.length ≤ 70368744177664) : CallsS Tryz.prog 224 [.one (wS x), .one (.int .i64 s)] (.v (.one (nS (val x / 2 ^ s).toNat))) := by
  refine calls Tryz.func224 rfl (by rfl) (by rfl) (by kernel_rfl) ?_
  simp -dsimp -implicitDefEqProofs [Tryz.f224]
  repeat refine And.intro (by omega) ?_
  refine sw_loop_e (fun p : {p : Nat × List Int // UnInv x s p.1 p.2} => SS.of [(0, .v (.one (wS x))), (1, I .i64 s), (5, .v (.one (.ms 0 0 x.length 1 true))), (11, .v (.one (wS x))), (12, I .i64 x.length), (13, I .i64 p.1.1)] [(0, oS p.1.2)] 1)
    (fun p => x.length - p.1.1) ⟨(0, List.replicate x.length 0), UnInv.start x s⟩ (by kernel_rfl) (Le.to (by simp) (by simp) (by simp)) ?_
  rintro ⟨⟨i, l⟩, hp⟩
  simp only at hp
  have hlen := hp.len
  by_cases a1 : i < x.length
  · have ax := at0_W hx i
    have e1 := at0_lt a1
    have hmin : min s IntKind.u32.bits = s := by simp [IntKind.bits]; omega
    have wi : IntKind.i64.wrap ((i : Int) + 1) = ((i + 1 : Nat) : Int) := by rw [wrap_i64 _ (by omega) (by omega)]; rfl
    have fd : ∀ z : Int, z.fdiv (2 ^ s) = z / 2 ^ s := fun z => Int.fdiv_eq_ediv_of_nonneg z (Int.le_of_lt (two_pos s))
    have q1 : l[i]? = some 0 := by rw [← hp.top (Nat.le_refl i), at0_lt (by omega), List.getElem?_eq_getElem]
    obtain ⟨⟨d0, d1⟩, _⟩ := down_word hs ax.1 ax.2 (z := 0) (by omega) (by omega)
    by_cases z : i = 0
    · subst z
      have w1 : IntKind.i64.wrap 1 = 1 := by decide
      have q0 : at0 l 0 = 0 := hp.top (Nat.le_refl 0)
      rw [at0_lt (by omega)] at q0
      simp -dsimp -implicitDefEqProofs [a1, w1, hlen, q1]
      repeat refine And.intro (by omega) ?_
      exact Again.by ⟨(1, _), hp.step hs hx a1 rfl⟩ (Le.to (by simp) (by simp [hmin, fd, e1, q0, or_zero _ (e1 ▸ d0) (e1 ▸ d1)]) (by simp)) (by simp; omega)
    · have wi2 : IntKind.i64.wrap ((i : Int) - 1) = ((i - 1 : Nat) : Int) := by rw [wrap_i64 _ (by omega) (by omega)]; omega
      have ay := at0_W hx (i - 1)
      obtain ⟨⟨g0, g1⟩, g2, g3, g4, g5⟩ := down_word hs ay.1 ay.2 ax.1 ax.2
      obtain ⟨st, q2⟩ := hp.step3 hs hx a1 z
      have q0 : at0 l i = 0 := hp.top (Nat.le_refl _)
      rw [at0_lt (by omega)] at q0
      rw [at0_lt (show i - 1 < l.length by omega)] at q2
      have z' : (0 : Int) < i := by omega
      have z2 : 0 < i := by omega
      have z3 : i - 1 < l.length := by omega
      have z4 : ¬ i = i - 1 := by omega
      have q4 : l[i - 1]? = some l[i - 1] := List.getElem?_eq_getElem z3
      have g6 : 0 ≤ at0 x i * 2 ^ (32 - s) := Int.mul_nonneg ax.1 (Int.le_of_lt (two_pos _))
      have w4 : IntKind.u64.wrap (IntKind.u64.wrap x[i] * 2 ^ (32 - s)) = x[i] * 2 ^ (32 - s) := by rw [← e1, wrap_u64_id (at0 x i) (by omega) (by omega), wrap_u64_id _ g6 g4]
      have w5 : IntKind.i64.wrap (32 - (s : Int)) = ((32 - s : Nat) : Int) := by rw [wrap_i64 _ (by omega) (by omega)]; omega
      have w6 : min (32 - s) IntKind.u64.bits = 32 - s := by simp [IntKind.bits]; omega
      simp -dsimp -implicitDefEqProofs [a1, wi, wi2, hlen, q1, z', z2, q0, z3, q4, w5, List.getElem?_set, z4]
      repeat refine And.intro (by omega) ?_
      refine Again.by ⟨(i + 1, _), st⟩ (Le.to (by simp) ?_ (by simp)) (by simp; omega)
      simp [hmin, fd, e1, w6, w4, wrap_u32 (x[i] * 2 ^ (32 - s)), or_zero _ (e1 ▸ d0) (e1 ▸ d1), q2, e1 ▸ g3]
  · have hi2 : i = x.length := by have := hp.hi; omega
    subst hi2
    have hv := hp.done hs hx
    simp -dsimp -implicitDefEqProofs [hlen]
    have ht := trimF_s l hp.inw (by omega)
    rw [hv] at ht
    refine eCall.of ht (by simp [hlen]) ?_
    simp -dsimp -implicitDefEqProofs
end Go.Proofs.YtaljbebkooppiaaGreat.Sh

namespace Go.Proofs.YtaljbebkooppiaaGreat.Sh
open Go Go.RowKit
def bitLen (n : Nat) : Nat := if n = 0 then 0 else n.log2 + 1
theorem bitLen_spec {n : Nat} (h : n ≠ 0) : 2 ^ (bitLen n - 1) ≤ n ∧ n < 2 ^ bitLen n := by
  unfold bitLen
  rw [if_neg h]
  exact ⟨by simpa using Nat.log2_self_le h, Nat.lt_log2_self⟩
theorem bitLen_le {n k : Nat} (h : n < 2 ^ k) : bitLen n ≤ k := by
  by_cases h0 : n = 0
  · subst h0; simp [bitLen]
  · have := (bitLen_spec h0).1
    rcases Nat.lt_or_ge k (bitLen n) with hc | hc
    · have := Nat.pow_le_pow_right (show 0 < 2 by decide) (show k ≤ bitLen n - 1 by omega); omega
    · exact hc
theorem bitLen_shift {n k : Nat} (h : 2 ^ k ≤ n) : bitLen (n / 2 ^ k) + k = bitLen n := by
  have hk := Nat.two_pow_pos k
  have h1 : n / 2 ^ k ≠ 0 := by have := Nat.div_pos h hk; omega
  have hn : n ≠ 0 := by omega
  have a := bitLen_spec h1
  have b := bitLen_spec hn
  have p : 1 ≤ bitLen (n / 2 ^ k) := by unfold bitLen; rw [if_neg h1]; omega
  have q : 1 ≤ bitLen n := by unfold bitLen; rw [if_neg hn]; omega
  have a1 : 2 ^ (bitLen (n / 2 ^ k) - 1 + k) ≤ n := by rw [Nat.pow_add]; exact (Nat.le_div_iff_mul_le hk).1 a.1
  have a2 : n < 2 ^ (bitLen (n / 2 ^ k) + k) := by rw [Nat.pow_add]; exact (Nat.div_lt_iff_lt_mul hk).1 a.2
  have c1 : bitLen (n / 2 ^ k) - 1 + k < bitLen n := (Nat.pow_lt_pow_iff_right (by decide : 1 < 2)).1 (Nat.lt_of_le_of_lt a1 b.2)
  have c2 : bitLen n - 1 < bitLen (n / 2 ^ k) + k := (Nat.pow_lt_pow_iff_right (by decide : 1 < 2)).1 (Nat.lt_of_le_of_lt b.1 a2)
  omega
set_option maxRecDepth 20000 in
theorem len32_s (x : Nat) (hx : x < 4294967296) : CallsS Tryz.prog 226 [.one (.int .u32 x)] (I .i64 (bitLen x)) := by
  have e16 : (x : Int).fdiv (2 ^ min 16 IntKind.u32.bits) = ((x / 65536 : Nat) : Int) := by rw [show min 16 IntKind.u32.bits = 16 from rfl, Int.fdiv_eq_ediv_of_nonneg _ (by decide)]; rfl
  have e8 : ∀ y : Nat, (y : Int).fdiv (2 ^ min 8 IntKind.u32.bits) = ((y / 256 : Nat) : Int) := fun y => by rw [show min 8 IntKind.u32.bits = 8 from rfl, Int.fdiv_eq_ediv_of_nonneg _ (by decide)]; rfl
  have w8 : ∀ y : Nat, y < 256 → IntKind.u8.wrap (y : Int) = (y : Int) := fun y hy => by simp [IntKind.wrap, IntKind.bits, IntKind.signed]; omega
  refine calls Tryz.func226 rfl (by rfl) (by rfl) (by kernel_rfl) ?_
  simp -dsimp -implicitDefEqProofs [Tryz.f226, e16, e8]
  generalize hs : (ByteArray.mk _) = s
  obtain ⟨k1, k2⟩ : s.size = 256 ∧ ∀ i : Nat, i < 256 → byteAt s (i : Int) = (bitLen i : Int) := by
    subst hs
    exact ⟨by decide +kernel, by decide +kernel⟩
  have fin : ∀ (y c : Nat), y < 256 → c ≤ 24 → bitLen y + c = bitLen x → (0 ≤ IntKind.u8.wrap (y : Int) ∧ IntKind.u8.wrap (y : Int) < (s.size : Nat)) ∧ IntKind.i64.wrap ((c : Nat) + IntKind.i64.wrap (byteAt s (IntKind.u8.wrap (y : Int)))) = (bitLen x : Int) := by
    intro y c hy hc hb
    have hl : bitLen y ≤ 8 := by
      by_cases h0 : y = 0
      · subst h0; simp [bitLen]
      · have := (bitLen_spec h0).1
        rcases Nat.lt_or_ge 8 (bitLen y) with h | h
        · have := Nat.pow_le_pow_right (show 0 < 2 by decide) (show 8 ≤ bitLen y - 1 by omega); omega
        · exact h
    rw [w8 y hy, k2 y hy, k1]
    refine ⟨⟨by omega, by omega⟩, ?_⟩
    rw [wrap_i64 (bitLen y : Int) (by omega) (by omega), wrap_i64 _ (by omega) (by omega)]; omega
  have c16 : (x : Int) / 65536 = ((x / 65536 : Nat) : Int) := rfl
  have c8 : (x : Int) / 256 = ((x / 256 : Nat) : Int) := rfl
  have w24 : IntKind.i64.wrap 24 = ((24 : Nat) : Int) := by decide
  have w16 : (16 : Int) = ((16 : Nat) : Int) := rfl
  have w88 : IntKind.i64.wrap 8 = ((8 : Nat) : Int) := by decide
  clear hs k1 k2
  simp only [c16, c8, e8, w24, w88]
  refine ⟨fun h => ⟨fun h2 => ?_, fun h2 => ?_⟩, fun h => ⟨fun h2 => ?_, fun h2 => ?_⟩⟩
  · have b := bitLen_shift (n := x) (k := 24) (by omega)
    rw [show x / 2 ^ 24 = x / 65536 / 256 by omega] at b
    exact fin _ 24 (by omega) (by omega) b
  · have b := bitLen_shift (n := x) (k := 16) (by omega)
    rw [show x / 2 ^ 16 = x / 65536 by omega] at b
    exact fin _ 16 (by omega) (by omega) b
  · have b := bitLen_shift (n := x) (k := 8) (by omega)
    rw [show x / 2 ^ 8 = x / 256 by omega] at b
    exact fin _ 8 (by omega) (by omega) b
  · have b := fin x 0 (by omega) (by omega) (by omega)
    simpa using b
theorem lead_s (x : Nat) (hx : x < 4294967296) : CallsS Tryz.prog 221 [.one (.int .u32 x)] (I .i64 (32 - bitLen x : Int)) := by
  have hl : bitLen x ≤ 32 := by
    by_cases h0 : x = 0
    · subst h0; simp [bitLen]
    · have := (bitLen_spec h0).1
      rcases Nat.lt_or_ge 32 (bitLen x) with h | h
      · have := Nat.pow_le_pow_right (show 0 < 2 by decide) (show 32 ≤ bitLen x - 1 by omega); omega
      · exact h
  have w : IntKind.i64.wrap (32 - (bitLen x : Int)) = 32 - (bitLen x : Int) := wrap_i64 _ (by omega) (by omega)
  refine calls Tryz.func221 rfl (by rfl) (by rfl) (by kernel_rfl) ?_
  simp -dsimp -implicitDefEqProofs [Tryz.f221]
  refine eCall.of (len32_s x hx) (by simp) ?_
  simp -dsimp -implicitDefEqProofs [w]
end Go.Proofs.YtaljbebkooppiaaGreat.Sh

namespace Go.Proofs.YtaljbebkooppiaaGreat.Sh
open Go Go.RowKit
theorem val_cut (l : List Int) (j : Nat) (h : j ≤ l.length) : val l = val (l.take j) + 4294967296 ^ j * val (l.drop j) := by
  have e := val_append (l.take j) (l.drop j)
  rwa [List.take_append_drop, List.length_take, Nat.min_eq_left h] at e
theorem val_take_lt {l : List Int} (hl : InW l) (j : Nat) : 0 ≤ val (l.take j) ∧ val (l.take j) < 4294967296 ^ j := by
  refine ⟨val_nonneg (hl.take j), ?_⟩
  have := val_lt (hl.take j)
  have := pow_mono_ (show (l.take j).length ≤ j by rw [List.length_take]; omega)
  omega
structure LongInv (U0 V : Int) (n k : Nat) (u q : List Int) : Prop where
  iu : InW u
  iq : InW q
  lu : u.length = q.length + n
  hk : k ≤ q.length
  eq : U0 = val (q.drop k) * 4294967296 ^ k * V + val u
  lt : val u < V * 4294967296 ^ k
structure Norm (v : List Int) (n : Nat) : Prop where
  n2 : 2 ≤ n
  len : v.length = n
  inv : InW v
  top : 2147483648 ≤ at0 v (n - 1)
theorem LongInv.win {U0 : Int} {v u q : List Int} {n j : Nat} (h : LongInv U0 (val v) n (j + 1) u q) (hv : Norm v n) : DigitIn v u j n ∧ val (u.drop (j + (n + 1))) = 0 ∧ val u = val (u.take j) + 4294967296 ^ j * wv u j (n + 1) := by
  have hk := h.hk
  have hu := h.lu
  have pj := pow_pos_ j
  have hl := h.lt
  have hvlt := val_lt hv.inv
  rw [hv.len] at hvlt
  have hz : val (u.drop (j + (n + 1))) = 0 := by
    have e := val_cut u (j + (n + 1)) (by omega)
    have t0 := (val_take_lt h.iu (j + (n + 1))).1
    have d0 := val_nonneg (h.iu.drop (j + (n + 1)))
    have hlt : val v * 4294967296 ^ (j + 1) < 4294967296 ^ n * 4294967296 ^ (j + 1) := Int.mul_lt_mul_of_pos_right hvlt (pow_pos_ _)
    rw [← Int.pow_add, show n + (j + 1) = j + (n + 1) by omega] at hlt
    rcases Int.lt_or_le 0 (val (u.drop (j + (n + 1)))) with hc | hc
    · exfalso
      have : (4294967296 : Int) ^ (j + (n + 1)) * 1 ≤ 4294967296 ^ (j + (n + 1)) * val (u.drop (j + (n + 1))) := Int.mul_le_mul_of_nonneg_left (by omega) (Int.le_of_lt (pow_pos_ _))
      omega
    · omega
  have hd : val (u.drop j) = wv u j (n + 1) := by
    have e := val_cut (u.drop j) (n + 1) (by rw [List.length_drop]; omega)
    rw [List.drop_drop, hz, Int.mul_zero, Int.add_zero] at e
    exact e
  have he : val u = val (u.take j) + 4294967296 ^ j * wv u j (n + 1) := by rw [← hd]; exact val_cut u j (by omega)
  refine ⟨⟨hv.n2, hv.len, hv.inv, h.iu, hv.top, by omega, ?_⟩, hz, he⟩
  have t0 := (val_take_lt h.iu j).1
  have h1 : 4294967296 ^ j * wv u j (n + 1) < 4294967296 ^ j * (val v * 4294967296) := by
    have : val v * 4294967296 ^ (j + 1) = 4294967296 ^ j * (val v * 4294967296) := by rw [Int.pow_succ]; grind
    omega
  exact Int.lt_of_mul_lt_mul_left h1 (Int.le_of_lt pj)
theorem LongInv.step {U0 : Int} {v u q : List Int} {n j : Nat} (h : LongInv U0 (val v) n (j + 1) u q) (hv : Norm v n) :
    LongInv U0 (val v) n j (winSet u j (n + 1) (wv u j (n + 1) % val v)) (q.set j (wv u j (n + 1) / val v)) := by
  obtain ⟨hd, hz, he⟩ := h.win hv
  have hk := h.hk
  have hu := h.lu
  have hV := hd.pos
  have hw := wv_nonneg h.iu j (n + 1)
  have r0 := Int.emod_nonneg (wv u j (n + 1)) (show val v ≠ 0 by omega)
  have r1 := Int.emod_lt_of_pos (wv u j (n + 1)) hV
  have q0 : 0 ≤ wv u j (n + 1) / val v := Int.ediv_nonneg hw (by omega)
  have q1 : wv u j (n + 1) / val v < 4294967296 := Int.ediv_lt_of_lt_mul hV (by rw [Int.mul_comm]; exact hd.lt)
  have edm := Int.emod_add_mul_ediv (wv u j (n + 1)) (val v)
  have hvlt := val_lt hv.inv
  rw [hv.len] at hvlt
  have hpm := pow_mono_ (show n ≤ n + 1 by omega)
  have hu2 : val (winSet u j (n + 1) (wv u j (n + 1) % val v)) = val (u.take j) + 4294967296 ^ j * (wv u j (n + 1) % val v) := by
    unfold winSet
    rw [val_append, val_append, hz, List.length_take, Nat.min_eq_left (by omega), Int.mul_zero, Int.add_zero, val_padW _ _ r0 (by omega)]
  refine ⟨winSet_inW h.iu _ _ _, ?_, by rw [winSet_len _ _ _ _ (by omega), List.length_set]; exact hu, by rw [List.length_set]; omega, ?_, ?_⟩
  · intro z hz
    rcases List.mem_or_eq_of_mem_set hz with hz | rfl
    · exact h.iq z hz
    · exact ⟨q0, q1⟩
  · have eq := h.eq
    rw [hu2]
    rw [he] at eq
    have : val ((q.set j (wv u j (n + 1) / val v)).drop j) = wv u j (n + 1) / val v + 4294967296 * val (q.drop (j + 1)) := by
      rw [List.drop_eq_getElem_cons (by simp; omega), val_cons, List.getElem_set_self]
      rw [List.drop_set, if_pos (by omega)]
    rw [this, eq, Int.pow_succ]
    generalize wv u j (n + 1) % val v = r at *
    generalize wv u j (n + 1) / val v = d at *
    rw [← edm]
    grind
  · rw [hu2]
    have t1 := (val_take_lt h.iu j).2
    have h1 : (4294967296 : Int) ^ j * (wv u j (n + 1) % val v + 1) ≤ 4294967296 ^ j * val v := Int.mul_le_mul_of_nonneg_left (by omega) (Int.le_of_lt (pow_pos_ j))
    rw [Int.mul_add, Int.mul_one] at h1
    rw [Int.mul_comm (val v)]
    omega
theorem LongInv.done {U0 V : Int} {u q : List Int} {n : Nat} (h : LongInv U0 V n 0 u q) (hV : 0 < V) : val q = U0 / V ∧ val u = U0 % V := by
  have e := h.eq
  have l := h.lt
  simp only [List.drop_zero, Int.pow_zero, Int.mul_one] at e l
  have u0 := val_nonneg h.iu
  obtain ⟨q1, q2⟩ := quo_of hV (q := val q) (U := U0) (by omega) (by rw [Int.add_mul, Int.one_mul]; omega)
  exact ⟨q1.symm, by rw [q2]; omega⟩
theorem norm_of {b : Nat} {n : Nat} (hn : (toW b).length = n) (h2 : 2 ≤ n) {s : Nat} (hs : bitLen (at0 (toW b) (n - 1)).toNat + s = 32) :
    s < 32 ∧ Norm (toW (b * 2 ^ s)) n := by
  have hb : b ≠ 0 := by rintro rfl; rw [toW_zero] at hn; simp at hn; omega
  have htw : at0 (toW b) (n - 1) ≠ 0 := by
    rcases toW_trim b with h | ⟨a, x, h, hx⟩
    · rw [h] at hn; simp at hn; omega
    · rw [h] at hn ⊢
      simp at hn
      have : n - 1 = a.length := by omega
      rw [this]
      simpa [at0] using hx
  have aw := at0_W (toW_inW b) (n - 1)
  have hsplit : (b : Int) = val ((toW b).take (n - 1)) + 4294967296 ^ (n - 1) * at0 (toW b) (n - 1) := by
    have := val_take_succ (toW b) (n - 1)
    rw [List.take_of_length_le (by omega), val_toW] at this
    exact this
  have htk := val_take_lt (toW_inW b) (n - 1)
  generalize at0 (toW b) (n - 1) = t at *
  obtain ⟨t, rfl⟩ := Int.eq_ofNat_of_zero_le aw.1
  have ht0 : t ≠ 0 := by omega
  obtain ⟨l1, l2⟩ := bitLen_spec ht0
  rw [Int.toNat_natCast] at hs
  have hbl : 1 ≤ bitLen t := by unfold bitLen; rw [if_neg ht0]; omega
  have hs32 : s < 32 := by omega
  have hB : (b : Int) < 4294967296 ^ (n - 1) * (t + 1 : Nat) := by rw [Int.natCast_add, Int.mul_add]; omega
  have hB' : b < 4294967296 ^ (n - 1) * (t + 1) := by
    have : (b : Int) < ((4294967296 ^ (n - 1) * (t + 1) : Nat) : Int) := by rw [Int.natCast_mul, Int.natCast_pow]; exact hB
    omega
  have hBl : 4294967296 ^ (n - 1) * t ≤ b := by
    have : ((4294967296 ^ (n - 1) * t : Nat) : Int) ≤ b := by
      rw [Int.natCast_mul, Int.natCast_pow]
      show (4294967296 : Int) ^ (n - 1) * (t : Int) ≤ b
      omega
    omega
  have hps := Nat.two_pow_pos s
  have h32 : 2 ^ bitLen t * 2 ^ s = 4294967296 := by rw [← Nat.pow_add, hs]
  have h31 : 2 ^ (bitLen t - 1) * 2 ^ s = 2147483648 := by rw [← Nat.pow_add, show bitLen t - 1 + s = 31 by omega]
  have up : b * 2 ^ s < 4294967296 ^ n := by
    have e1 : b * 2 ^ s < 4294967296 ^ (n - 1) * (t + 1) * 2 ^ s := Nat.mul_lt_mul_of_pos_right hB' hps
    have e2 : 4294967296 ^ (n - 1) * (t + 1) * 2 ^ s ≤ 4294967296 ^ (n - 1) * (2 ^ bitLen t) * 2 ^ s := Nat.mul_le_mul_right _ (Nat.mul_le_mul_left _ l2)
    have e3 : 4294967296 ^ (n - 1) * (2 ^ bitLen t) * 2 ^ s = 4294967296 ^ n := by
      rw [Nat.mul_assoc, h32, ← Nat.pow_succ, show (n - 1).succ = n by omega]
    omega
  have lo : 4294967296 ^ (n - 1) * 2147483648 ≤ b * 2 ^ s := by
    have e1 : 4294967296 ^ (n - 1) * 2 ^ (bitLen t - 1) * 2 ^ s ≤ b * 2 ^ s := Nat.mul_le_mul_right _ (Nat.le_trans (Nat.mul_le_mul_left _ l1) hBl)
    rw [Nat.mul_assoc, h31] at e1
    exact e1
  have hlen : (toW (b * 2 ^ s)).length = n := by
    have h1 := toW_len_lt up
    rcases Nat.lt_or_ge (toW (b * 2 ^ s)).length n with h | h
    · have h2 := toW_lt (b * 2 ^ s)
      have h3 := Nat.pow_le_pow_right (show 0 < 4294967296 by decide) (show (toW (b * 2 ^ s)).length ≤ n - 1 by omega)
      have h4 := Nat.pow_pos (n := n - 1) (show 0 < 4294967296 by decide)
      omega
    · omega
  refine ⟨hs32, h2, hlen, toW_inW _, ?_⟩
  have aw2 := at0_W (toW_inW (b * 2 ^ s)) (n - 1)
  have hsp : ((b * 2 ^ s : Nat) : Int) = val ((toW (b * 2 ^ s)).take (n - 1)) + 4294967296 ^ (n - 1) * at0 (toW (b * 2 ^ s)) (n - 1) := by
    have := val_take_succ (toW (b * 2 ^ s)) (n - 1)
    rw [List.take_of_length_le (by omega), val_toW] at this
    exact this
  have htk2 := val_take_lt (toW_inW (b * 2 ^ s)) (n - 1)
  have lo' : (4294967296 : Int) ^ (n - 1) * 2147483648 ≤ ((b * 2 ^ s : Nat) : Int) := by
    have : ((4294967296 ^ (n - 1) * 2147483648 : Nat) : Int) ≤ ((b * 2 ^ s : Nat) : Int) := by exact_mod_cast lo
    rwa [Int.natCast_mul, Int.natCast_pow] at this
  have pp := pow_pos_ (n - 1)
  rcases Int.lt_or_le (at0 (toW (b * 2 ^ s)) (n - 1)) 2147483648 with hc | hc
  · exfalso
    have : (4294967296 : Int) ^ (n - 1) * (at0 (toW (b * 2 ^ s)) (n - 1) + 1) ≤ 4294967296 ^ (n - 1) * 2147483648 := Int.mul_le_mul_of_nonneg_left (by omega) (Int.le_of_lt pp)
    rw [Int.mul_add, Int.mul_one] at this
    omega
  · exact hc
theorem LongInv.start {a b n s : Nat} (hn : (toW b).length = n) (hs : s < 32) (hv : Norm (toW (b * 2 ^ s)) n) (hab : n ≤ (toW a).length) :
    LongInv ((a : Int) * 2 ^ s) (val (toW (b * 2 ^ s))) n ((toW a).length + 1 - n) (padW ((toW a).length + 1) ((a : Int) * 2 ^ s)) (List.replicate ((toW a).length + 1 - n) 0) := by
  have p0 : (0 : Int) ≤ (a : Int) * 2 ^ s := Int.mul_nonneg (by omega) (Int.le_of_lt (two_pos s))
  obtain ⟨t, t1, t2, t3, t4⟩ := two_pow_s hs
  have al := toW_lt a
  have al' : (a : Int) < 4294967296 ^ (toW a).length := by
    have : (a : Int) < ((4294967296 ^ (toW a).length : Nat) : Int) := by exact_mod_cast al
    rwa [Int.natCast_pow] at this
  have pa := pow_pos_ (toW a).length
  have hU : (a : Int) * 2 ^ s < 4294967296 ^ (toW a).length * 2147483648 := by
    have h1 : (a : Int) * 2 ^ s < 4294967296 ^ (toW a).length * 2 ^ s := Int.mul_lt_mul_of_pos_right al' (two_pos s)
    have h2 : (4294967296 : Int) ^ (toW a).length * 2 ^ s ≤ 4294967296 ^ (toW a).length * 2147483648 := Int.mul_le_mul_of_nonneg_left t4 (Int.le_of_lt pa)
    omega
  have hp : (a : Int) * 2 ^ s < 4294967296 ^ ((toW a).length + 1) := by rw [Int.pow_succ]; omega
  refine ⟨padW_inW _ _, by intro z hz; rw [List.eq_of_mem_replicate hz]; omega, by rw [padW_len, List.length_replicate]; omega, by simp, ?_, ?_⟩
  · rw [val_padW _ _ p0 hp, List.drop_eq_nil_of_le (by simp)]; simp [val]
  · rw [val_padW _ _ p0 hp]
    have hsp := val_take_succ (toW (b * 2 ^ s)) (n - 1)
    have h2 := hv.n2
    rw [List.take_of_length_le (by rw [hv.len]; omega)] at hsp
    have t0 := (val_take_lt hv.inv (n - 1)).1
    have top := hv.top
    have h1 : (4294967296 : Int) ^ (n - 1) * 2147483648 ≤ val (toW (b * 2 ^ s)) := by
      have := Int.mul_le_mul_of_nonneg_left top (Int.le_of_lt (pow_pos_ (n - 1)))
      omega
    have h3 := Int.mul_le_mul_of_nonneg_right h1 (Int.le_of_lt (pow_pos_ ((toW a).length + 1 - n)))
    have h4 : (4294967296 : Int) ^ (n - 1) * 2147483648 * 4294967296 ^ ((toW a).length + 1 - n) = 4294967296 ^ (toW a).length * 2147483648 := by
      rw [Int.mul_right_comm, ← Int.pow_add, show n - 1 + ((toW a).length + 1 - n) = (toW a).length by omega]
    omega
theorem long_res {a b s : Nat} (hb : b ≠ 0) {U : Int} (hU : U = (a : Int) * 2 ^ s) {V : Int} (hV : V = ((b * 2 ^ s : Nat) : Int)) : U / V = ((a / b : Nat) : Int) ∧ U % V / 2 ^ s = ((a % b : Nat) : Int) ∧ 0 < V := by
  have p := two_pos s
  have hV2 : V = (b : Int) * 2 ^ s := by rw [hV]; simp
  have hb' : 0 < (b : Int) := by omega
  subst hU
  rw [hV2]
  refine ⟨?_, ?_, Int.mul_pos hb' p⟩
  · rw [Int.mul_ediv_mul_of_pos_left _ _ p]; rfl
  · rw [Int.mul_comm (a : Int), Int.mul_comm (b : Int), Int.mul_emod_mul_of_pos _ _ p, Int.mul_ediv_cancel_left _ (by omega)]; rfl
end Go.Proofs.YtaljbebkooppiaaGreat.Sh

namespace Go.Proofs.YtaljbebkooppiaaGreat.Sh
open Go Go.RowKit
theorem len_mono {a b : Nat} (h : a ≤ b) : (toW a).length ≤ (toW b).length := by
  rcases Nat.lt_or_ge (toW b).length (toW a).length with hc | hc
  · have := lt_of_len hc; omega
  · exact hc
theorem smallL_toW (a : Nat) : smallL (toW a) = if (toW a).length ≤ 2 then ((a : Int), true) else (0, false) := by
  unfold smallL; rw [val_toW]
theorem two_words {a : Nat} (h : (toW a).length ≤ 2) : a < 18446744073709551616 := by
  have := toW_lt a
  have := Nat.pow_le_pow_right (show 0 < 4294967296 by decide) h
  omega
theorem one_word {b : Nat} (hb : b ≠ 0) (h : (toW b).length = 1) : b < 4294967296 ∧ (toW b)[0]? = some (b : Int) := by
  have := toW_lt b
  rw [h] at this
  have hb2 : b < 4294967296 := by omega
  refine ⟨hb2, ?_⟩
  rw [toW_pos hb]
  simp; omega
theorem wrap_u64_nat (n : Nat) (h : n < 18446744073709551616) : IntKind.u64.wrap (n : Int) = n := wrap_u64_id _ (by omega) (by omega)
set_option maxRecDepth 20000 in
theorem div_s (a b : Nat) (hb : b ≠ 0) (h1 : (toW a).length ≤ 17592186044416) (h2' : (toW b).length ≤ 17592186044416) : CallsS Tryz.prog 218 [.one (nS a), .one (nS b)] (.tup [.one (nS (a / b)), .one (nS (a % b))]) := by
  by_cases hab : a < b
  · rw [Nat.div_eq_of_lt hab, Nat.mod_eq_of_lt hab]
    refine calls Tryz.func218 rfl (by rfl) (by rfl) (by kernel_rfl) ?_
    simp -dsimp -implicitDefEqProofs [Tryz.f218]
    refine eCall.of (cmp_s a b (by omega) (by omega)) (by simp) ?_
    simp -dsimp -implicitDefEqProofs [cmpN_lt hab]
    refine eCall.of (own_s (toW a) (by omega)) (by simp) ?_
    simp -dsimp -implicitDefEqProofs [toW_zero]
  have h2 : (toW b).length ≤ (toW a).length := len_mono (by omega)
  have hc : ¬ cmpN a b < 0 := by unfold cmpN; rw [if_neg hab]; split <;> decide
  refine calls Tryz.func218 rfl (by rfl) (by rfl) (by kernel_rfl) ?_
  simp -dsimp -implicitDefEqProofs [Tryz.f218]
  refine eCall.of (cmp_s a b (by omega) (by omega)) (by simp) ?_
  simp -dsimp -implicitDefEqProofs [hc]
  refine eCall.of (wsmall_s (toW a) (toW_inW a)) (by simp) ?_
  rw [smallL_toW]
  by_cases hs : (toW a).length ≤ 2
  · have ha64 := two_words hs
    have hb64 : b < 18446744073709551616 := by omega
    have hbs : (toW b).length ≤ 2 := by omega
    rw [if_pos hs]
    simp -dsimp -implicitDefEqProofs
    refine eCall.of (wsmall_s (toW b) (toW_inW b)) (by simp) ?_
    rw [smallL_toW, if_pos hbs]
    have d3 : a / b ≤ a := Nat.div_le_self _ _
    have d1 : IntKind.u64.wrap ((a : Int) / b) = ((a / b : Nat) : Int) := wrap_u64_nat (a / b) (by omega)
    have d4 : a % b ≤ a := Nat.mod_le _ _
    have d4 : a % b ≤ a := Nat.mod_le _ _
    have d2 : (a : Int).tmod b = (a : Int) % b := Int.tmod_eq_emod_of_nonneg (by omega)
    have d5 : IntKind.u64.wrap ((a : Int) % b) = ((a % b : Nat) : Int) := wrap_u64_nat (a % b) (by omega)
    simp -dsimp -implicitDefEqProofs [hb, d1, d2]
    refine eCall.of (of_s (a / b) (by omega)) (by simp) ?_
    simp -dsimp -implicitDefEqProofs [hb, d2]
    refine eCall.of (of_s (a % b) (by omega)) (by simp) ?_
    simp -dsimp -implicitDefEqProofs
  · rw [if_neg hs]
    by_cases hb1 : (toW b).length = 1
    · obtain ⟨b1, b2⟩ := one_word hb hb1
      have b3 : (toW b)[0] = (b : Int) := by rw [List.getElem_eq_iff]; exact b2
      have hb1' : ((toW b).length : Int) = 1 := by omega
      simp -dsimp -implicitDefEqProofs [hb1, hb1', b2, b3]
      refine eCall.of (short_s (toW a) b (toW_inW a) (by omega) (by omega) (by omega)) (by simp) ?_
      have e1 : (val (toW a) / (b : Int)).toNat = a / b := by rw [val_toW]; exact Int.toNat_natCast (a / b)
      have e2 : val (toW a) % (b : Int) = ((a % b : Nat) : Int) := by rw [val_toW]; rfl
      have e3 : a % b < b := Nat.mod_lt _ (by omega)
      have e4 : IntKind.u64.wrap ((a % b : Nat) : Int) = ((a % b : Nat) : Int) := wrap_u64_nat (a % b) (by omega)
      rw [e1, e2]
      simp -dsimp -implicitDefEqProofs
      refine eCall.of (of_s (a % b) (by omega)) (by simpa using e4) ?_
      simp -dsimp -implicitDefEqProofs
    · have hb0 : (toW b).length ≠ 0 := by intro h; exact hb (toW_eq_nil.1 (List.length_eq_zero_iff.1 h))
      have hb1' : ¬ ((toW b).length : Int) = 1 := by omega
      generalize hn : (toW b).length = n at *
      have w1 : IntKind.i64.wrap ((n : Int) - 1) = ((n - 1 : Nat) : Int) := by rw [wrap_i64 _ (by omega) (by omega)]; omega
      have g1 : (toW b)[n - 1]? = some (at0 (toW b) (n - 1)) := by rw [at0_lt (by omega), List.getElem?_eq_getElem]
      have aw := at0_W (toW_inW b) (n - 1)
      obtain ⟨t, ht⟩ := Int.eq_ofNat_of_zero_le aw.1
      have ht' : at0 (toW b) (n - 1) = (t : Int) := ht
      rw [ht'] at g1 aw
      simp -dsimp -implicitDefEqProofs [hb1', hn, w1, g1]
      refine ⟨by omega, ?_⟩
      obtain ⟨s, hs⟩ : ∃ s, bitLen t + s = 32 := ⟨32 - bitLen t, by have := bitLen_le (n := t) (k := 32) (by omega); omega⟩
      obtain ⟨hs32, hv⟩ := norm_of (s := s) hn (by omega) (by rw [ht']; exact hs)
      have hlead := lead_s t (by omega)
      rw [show (32 - (bitLen t : Int)) = (s : Int) by omega] at hlead
      refine eCall.of hlead (by simp) ?_
      simp -dsimp -implicitDefEqProofs
      refine eCall.lend [] (shifted_s (toW a) s hs32 (toW_inW a) (by omega)) (by simp) (by simp) (by simp) ?_
      simp -dsimp -implicitDefEqProofs
      refine eCall.lend [] (shifted_s (toW b) s hs32 (toW_inW b) (by omega)) (by simp) (by simp) (by simp) ?_
      simp -dsimp -implicitDefEqProofs [val_toW, hn, padW_len]
      have hbs : ((b : Int) * 2 ^ s) = ((b * 2 ^ s : Nat) : Int) := by simp
      have hlt := toW_lt (b * 2 ^ s)
      rw [hv.len] at hlt
      have hvb : val (padW (n + 1) ((b : Int) * 2 ^ s)) = ((b * 2 ^ s : Nat) : Int) := by
        rw [hbs, val_padW _ _ (by omega)]
        have : ((b * 2 ^ s : Nat) : Int) < ((4294967296 ^ n : Nat) : Int) := by exact_mod_cast hlt
        rw [Int.natCast_pow] at this
        have h3 := pow_mono_ (show n ≤ n + 1 by omega)
        show ((b * 2 ^ s : Nat) : Int) < (4294967296 : Int) ^ (n + 1)
        have h4 : ((4294967296 : Nat) : Int) = 4294967296 := rfl
        rw [h4] at this
        omega
      have htr := trimF_s (padW (n + 1) ((b : Int) * 2 ^ s)) (padW_inW _ _) (by rw [padW_len]; omega)
      rw [hvb, Int.toNat_natCast] at htr
      refine eCall.of htr (by simp) ?_
      obtain ⟨m, hm⟩ : ∃ m, (toW a).length + 1 = m + n := ⟨(toW a).length + 1 - n, by omega⟩
      have wm : IntKind.i64.wrap (((toW a).length : Int) + 1 - n) = (m : Int) := by rw [wrap_i64 _ (by omega) (by omega)]; omega
      have wm1 : IntKind.i64.wrap ((m : Int) - 1) = (m : Int) - 1 := wrap_i64 _ (by omega) (by omega)
      have mm : max (m : Int) 0 = m := by omega
      simp -dsimp -implicitDefEqProofs [val_toW, hn, padW_len, hv.len, wm, mm, wm1]
      refine ⟨by omega, ?_⟩
      have st := LongInv.start (a := a) hn hs32 hv (by omega)
      rw [show (toW a).length + 1 - n = m by omega] at st
      generalize padW ((toW a).length + 1) ((a : Int) * 2 ^ s) = u0 at st ⊢
      refine sw_loop_e (fun p : {p : Nat × List Int × List Int // LongInv ((a : Int) * 2 ^ s) (val (toW (b * 2 ^ s))) n p.1 p.2.1 p.2.2 ∧ p.2.2.length = m} => SS.of [(12, I .i64 s), (13, .v (.one (.ms 0 0 ((toW a).length + 1) 1 true))), (14, .v (.one (nS (b * 2 ^ s)))), (15, .v (.one (.ms 2 0 m 1 true))), (16, I .i64 ((p.1.1 : Int) - 1))] [(0, oS p.1.2.1), (2, oS p.1.2.2)] 3)
        (fun p => p.1.1) ⟨(m, _, _), st, by simp⟩ (by kernel_rfl) (Le.to (by simp) (by simp) (by simp)) ?_
      rintro ⟨⟨k, u, q⟩, hk, hq⟩
      simp only at hk hq
      have hul := hk.lu
      have hkq := hk.hk
      have hul2 : u.length = (toW a).length + 1 := by omega
      by_cases k0 : k = 0
      · subst k0
        simp -dsimp -implicitDefEqProofs [hq]
        obtain ⟨r1, r2, r3⟩ := long_res (a := a) (b := b) (s := s) hb rfl (V := val (toW (b * 2 ^ s))) (val_toW _)
        obtain ⟨d1, d2⟩ := hk.done r3
        have t1 := trimF_s q hk.iq (by omega)
        rw [d1, r1, Int.toNat_natCast] at t1
        refine eCall.of t1 (by simp) ?_
        simp -dsimp -implicitDefEqProofs [hul2]
        have t2 := unshifted_s u s hs32 hk.iu (by omega)
        rw [d2, r2, Int.toNat_natCast] at t2
        refine eCall.of t2 (by simp) ?_
        simp -dsimp -implicitDefEqProofs
        have t3 := trimF_s (toW (a % b)) (toW_inW _) (by have := len_mono (Nat.mod_le a b); omega)
        rw [val_toW, Int.toNat_natCast] at t3
        refine eCall.of t3 (by simp) ?_
        simp -dsimp -implicitDefEqProofs
      · obtain ⟨j, rfl⟩ : ∃ j, k = j + 1 := ⟨k - 1, by omega⟩
        have ej : (((j + 1 : Nat) : Int) - 1) = (j : Int) := by omega
        have wj1 : IntKind.i64.wrap ((j : Int) + n) = (j : Int) + n := wrap_i64 _ (by omega) (by omega)
        have wj2 : IntKind.i64.wrap ((j : Int) + n + 1) = (j : Int) + n + 1 := wrap_i64 _ (by omega) (by omega)
        have wj3 : ((j : Int) + n + 1).toNat = j + n + 1 := by omega
        have wj4 : j + n + 1 - j = n + 1 := by omega
        have wj5 : j + (n + 1) ≤ u.length := by omega
        have wj6 : IntKind.i64.wrap ((j : Int) - 1) = (j : Int) - 1 := wrap_i64 _ (by omega) (by omega)
        simp -dsimp -implicitDefEqProofs [ej, hv.len, wj1, wj2, wj3, wj4, wj5]
        obtain ⟨w1, w2, w3⟩ := hk.win hv
        refine ⟨by omega, ?_⟩
        refine eCall.lend [0] (digit_s w1 (by omega)) (by simp [hv.len, wj1, wj2, wj3, wj4]) (by simp) (by simp) ?_
        simp -dsimp -implicitDefEqProofs [ej, hv.len, hq]
        refine ⟨by omega, by omega, ?_⟩
        have st2 := hk.step hv
        generalize winSet u j (n + 1) (wv u j (n + 1) % val (toW (b * 2 ^ s))) = u2 at st2 ⊢
        refine Again.by ⟨(j, u2, _), st2, by simp [hq]⟩ (Le.to (by simp [wj6]) (by simp) (by simp)) (by simp)
end Go.Proofs.YtaljbebkooppiaaGreat.Sh

