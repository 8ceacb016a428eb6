/- A part of the proof: Sh5, Sh6, Sh7, Sh8 -/
import Derived.Test.YtaljbebkooppiaaGreatV1
import Derived.ChangeKeysEq
set_option linter.unusedSimpArgs false
set_option linter.unusedVariables false
set_option linter.unusedSectionVars false
namespace Go.Proofs.YtaljbebkooppiaaGreat.Sh
open Go Go.RowKit
section
variable {w0 : W0} {w w' : World} {ok0 : Bool → Nat → Prop} {N : Nat} {σ σ' : SS} {a : Act} {mu mu' : Nat → Option (Nat × Nat)} {ok : Bool → Nat → Prop} {P : Program}
def optInt (σ : SS) : Option Operand → Option (Option Int)
  | none => some none
  | some x => match σ.ev x with | .v (.one (.int _ n)) => some (some n) | _ => none
theorem IM.optInt (h : IM w0 ok0 N σ mu a w) {x : Option Operand} {n : Option Int} (e : optInt σ x = some n) : x.map a.eval = none ∧ n = none ∨ ∃ k i, x.map a.eval = some (.int k i) ∧ n = some i := by
  cases x with
  | none => left; simp [Sh.optInt] at e; exact ⟨rfl, e.symm⟩
  | some x =>
    right
    simp only [Sh.optInt] at e
    split at e
    · rename_i k i hx
      cases e
      exact ⟨k, i, by rw [Option.map_some, h.int hx], rfl⟩
    · cases e
def cutOK (len : Nat) (lo hi mx : Option Int) : Prop :=
  0 ≤ lo.getD 0 ∧ lo.getD 0 ≤ hi.getD len ∧ hi.getD len ≤ mx.getD len ∧ mx.getD len ≤ len ∧ (mx.isSome = true → hi.isSome = true)
def sCut (σ : SS) (τ : TyI) (lo hi mx : Option Int) : ST → Option (Nat × S1)
  | .v (.one (.sl fr e rows)) => match τ.kind with
    | .slice _ z => if z = e ∧ z ≠ 0 then some (rows.length, .sl fr e ((rows.take (hi.getD rows.length).toNat).drop (lo.getD 0).toNat)) else none
    | _ => none
  | .v (.one (.ms o off len e full)) => match τ.kind with
    | .slice _ z => if z = e ∧ z ≠ 0 then some (len, .ms o (off + (lo.getD 0).toNat * e) ((hi.getD len).toNat - (lo.getD 0).toNat) e (full && lo.isNone && mx.isNone)) else none
    | _ => none
  | .v (.one (.mp o off)) => match τ.kind, σ.objs o with
    | .arr n _ z, some ob => if off + n * z ≤ ob.cells.length ∧ n ≤ 9223372036854775807 ∧ z ≠ 0 then some (n, .ms o (off + (lo.getD 0).toNat * z) ((hi.getD n).toNat - (lo.getD 0).toNat) z false) else none
    | _, _ => none
  | .v (.one (.str s)) => match τ.kind with
    | .str => if mx.isNone = true then some (s.size, .str (s.extract (lo.getD 0).toNat (hi.getD s.size).toNat)) else none
    | _ => none
  | _ => none
theorem run_bound {k : IntKind} {i : Int} {y : Nat} {c : BoundsCode} (h0 : 0 ≤ i) (h1 : i ≤ y) : (Instr.sliceBound (.int k i) y c).run P w = .ok i.toNat w := by
  simp [Instr.sliceBound, asIntOf, h0, h1]
theorem run_sliceBounds (isS : Bool) {len cap : Nat} (hcap : len ≤ cap) {lo hi mx : Option Int} {Lo Hi Mx : Option Value} (h : cutOK len lo hi mx)
    (h1 : Lo = none ∧ lo = none ∨ ∃ k i, Lo = some (.int k i) ∧ lo = some i) (h2 : Hi = none ∧ hi = none ∨ ∃ k i, Hi = some (.int k i) ∧ hi = some i) (h3 : Mx = none ∧ mx = none ∨ ∃ k i, Mx = some (.int k i) ∧ mx = some i) :
    (Instr.sliceBounds isS len cap Lo Hi Mx).run P w = .ok ((lo.getD 0).toNat, (hi.getD len).toNat, (mx.getD cap).toNat) w := by
  obtain ⟨g1, g2, g3, g4, g5⟩ := h
  rcases h3 with ⟨rfl, rfl⟩ | ⟨k3, m, rfl, rfl⟩
  · rcases h2 with ⟨rfl, rfl⟩ | ⟨k2, i2, rfl, rfl⟩
    · rcases h1 with ⟨rfl, rfl⟩ | ⟨k1, i1, rfl, rfl⟩ <;> simp only [Option.getD_some, Option.getD_none] at g1 g2 g3 g4
      · simp [Instr.sliceBounds]
      · have e1 := fun c => run_bound (P := P) (w := w) (k := k1) (i := i1) (y := len) (c := c) g1 (by omega)
        simp [Instr.sliceBounds, e1]
    · simp only [Option.getD_some, Option.getD_none] at g2 g3 g4
      have e2 := fun c => run_bound (P := P) (w := w) (k := k2) (i := i2) (y := cap) (c := c) (by omega) (by omega)
      rcases h1 with ⟨rfl, rfl⟩ | ⟨k1, i1, rfl, rfl⟩ <;> simp only [Option.getD_some, Option.getD_none] at g1 g2
      · simp [Instr.sliceBounds, e2]
      · have e1 := fun c => run_bound (P := P) (w := w) (k := k1) (i := i1) (y := i2.toNat) (c := c) g1 (by omega)
        simp [Instr.sliceBounds, e1, e2]
  · rcases h2 with ⟨rfl, rfl⟩ | ⟨k2, i2, rfl, rfl⟩
    · simp at g5
    · simp only [Option.getD_some] at g2 g3 g4
      have e3 := fun c => run_bound (P := P) (w := w) (k := k3) (i := m) (y := cap) (c := c) (by rcases h1 with ⟨rfl, rfl⟩ | ⟨k1, i1, rfl, rfl⟩ <;> simp at g1 g2 <;> omega) (by omega)
      have e2 := fun c => run_bound (P := P) (w := w) (k := k2) (i := i2) (y := m.toNat) (c := c) (by rcases h1 with ⟨rfl, rfl⟩ | ⟨k1, i1, rfl, rfl⟩ <;> simp at g1 g2 <;> omega) (by omega)
      rcases h1 with ⟨rfl, rfl⟩ | ⟨k1, i1, rfl, rfl⟩ <;> simp only [Option.getD_some, Option.getD_none] at g1 g2
      · simp [Instr.sliceBounds, e2, e3]
      · have e1 := fun c => run_bound (P := P) (w := w) (k := k1) (i := i1) (y := i2.toNat) (c := c) g1 (by omega)
        simp [Instr.sliceBounds, e1, e2, e3]
theorem run_cut_sh (h : IM w0 ok0 N σ mu a w) {t : Nat} {τ : TyI} (ht : tyOf P t = some τ) {v : Value} {x : ST} (hx : RT w mu (okOf w0 ok0 σ mu w) v x)
    {lo hi mx : Option Int} {Lo Hi Mx : Option Value} {n : Nat} {s : S1} (hs : sCut σ τ lo hi mx x = some (n, s)) (hc : cutOK n lo hi mx)
    (h1 : Lo = none ∧ lo = none ∨ ∃ k i, Lo = some (.int k i) ∧ lo = some i) (h2 : Hi = none ∧ hi = none ∨ ∃ k i, Hi = some (.int k i) ∧ hi = some i) (h3 : Mx = none ∧ mx = none ∨ ∃ k i, Mx = some (.int k i) ∧ mx = some i) :
    ∃ u, (Instr.sliceAt t v Lo Hi Mx).run P w = .ok u w ∧ R1 w mu (okOf w0 ok0 σ mu w) u s := by
  obtain ⟨ti, d, g1, g2, g3, g4, g5, _⟩ := tyOf_some ht
  unfold sCut at hs
  split at hs
  · rename_i fr e rows
    split at hs
    · rename_i te z hk
      rw [hk] at g5
      obtain ⟨rfl, hz⟩ := slice_of g5
      split at hs
      · rename_i hee
        obtain ⟨rfl, hz0⟩ := hee
        have hsz := run_cellsOf (w := w) hz hz0
        obtain ⟨rfl, rfl⟩ := Prod.mk.inj (Option.some.inj hs)
        have hcc := hc
        obtain ⟨c1, c2, c3, c4, c5⟩ := hc
        have hx := R1.c0 hx rfl
        cases hx with
        | nilsl =>
          have hb := run_sliceBounds (P := P) (w := w) true (Nat.le_refl 0) hcc h1 h2 h3
          simp only [List.length_nil, Int.natCast_zero] at c1 c2 c3 c4 hb
          refine ⟨.slice none 0 0, ?_, by simpa using R1.c (R0.nilsl fr z)⟩
          simp [Instr.sliceAt, underlying, g2, Instr.slice, hb, hsz, show (lo.getD 0).toNat = 0 from by omega, show (hi.getD 0).toNat = 0 from by omega, show (mx.getD 0).toNat = 0 from by omega]
        | emp _ _ A cap =>
          have hb := run_sliceBounds (P := P) (w := w) true (Nat.zero_le cap) hcc h1 h2 h3
          simp only [List.length_nil, Int.natCast_zero] at c1 c2 c3 c4 hb
          have e1 : (lo.getD 0).toNat = 0 := by omega
          have e2 : (hi.getD 0).toNat = 0 := by omega
          have key : ∀ A' c', R1 w mu (okOf w0 ok0 σ mu w) (.slice (some A') 0 c') (.sl fr z ((([] : List (List S1)).take (hi.getD ([] : List (List S1)).length).toNat).drop (lo.getD 0).toNat)) := fun A' c' => by simpa using R1.c (R0.emp fr z A' c')
          have hrun : ∃ A' c', (Instr.sliceAt t (.slice (some A) 0 cap) Lo Hi Mx).run P w = .ok (.slice (some A') 0 c') w := by
            refine ⟨if (mx.getD (cap : Int)).toNat = 0 then A else A.add 0, (mx.getD (cap : Int)).toNat, ?_⟩
            simp [Instr.sliceAt, underlying, g2, Instr.slice, hb, hsz, e1, e2]
            try (split <;> simp_all)
          obtain ⟨A', c', hr⟩ := hrun
          exact ⟨_, hr, key A' c'⟩
        | sl _ _ _ b off cap f hcap hlen hok hrow hcell hr =>
          have hb := run_sliceBounds (P := P) (w := w) true hcap hcc h1 h2 h3
          have hrl : ((rows.take (hi.getD rows.length).toNat).drop (lo.getD 0).toNat).length = (hi.getD rows.length).toNat - (lo.getD 0).toNat := by rw [List.length_drop, List.length_take]; omega
          have hmx : (mx.getD rows.length) ≤ (mx.getD cap) := by cases mx <;> simp; omega
          have hget : ∀ (i : Nat) (row : List S1), ((rows.take (hi.getD rows.length).toNat).drop (lo.getD 0).toNat)[i]? = some row → rows[(lo.getD 0).toNat + i]? = some row := by
            intro i row hi'
            rw [List.getElem?_drop, List.getElem?_take] at hi'
            split at hi'
            · exact hi'
            · cases hi'
          have key := R0.sl (w := w) (ok := okOf w0 ok0 σ mu w) fr z ((rows.take (hi.getD rows.length).toNat).drop (lo.getD 0).toNat) b
            (if (mx.getD cap).toNat = (lo.getD 0).toNat then off else off + (lo.getD 0).toNat * z) ((mx.getD cap).toNat - (lo.getD 0).toNat) (fun i j => f ((lo.getD 0).toNat + i) j)
            (by rw [hrl]; omega) (by rw [hrl]; omega) (fun hne => hok (by rintro rfl; simp at hne)) (fun i row hi' => hrow _ _ (hget i row hi'))
            (fun i row hi' j s hj => by
              have hlt := (List.getElem?_eq_some_iff.1 hi').1
              rw [hrl] at hlt
              rw [if_neg (by omega)]
              have := hcell _ _ (hget i row hi') j s hj
              rw [show off + (lo.getD 0).toNat * z + (i * z + j) = off + (((lo.getD 0).toNat + i) * z + j) by rw [Nat.add_mul]; omega]
              exact this)
            (fun i row hi' j s hj => hr _ _ (hget i row hi') j s hj)
          rw [hrl] at key
          refine ⟨_, ?_, .c key⟩
          simp [Instr.sliceAt, underlying, g2, Instr.slice, hb, hsz, add_none]
          split <;> rfl
      · cases hs
    · cases hs
  · rename_i o off len e full
    split at hs
    · rename_i te z hk
      rw [hk] at g5
      obtain ⟨rfl, hz⟩ := slice_of g5
      split at hs
      · rename_i hee
        obtain ⟨rfl, hz0⟩ := hee
        have hsz := run_cellsOf (w := w) hz hz0
        obtain ⟨rfl, rfl⟩ := Prod.mk.inj (Option.some.inj hs)
        have hcc := hc
        obtain ⟨c1, c2, c3, c4, c5⟩ := hc
        cases hx with
        | c hx => cases hx
        | ms _ _ _ _ _ b cc cap off' hm hcap hlen hin hfull hoff =>
          have hb := run_sliceBounds (P := P) (w := w) true hcap hcc h1 h2 h3
          have hmx : (mx.getD (len : Int)) ≤ (mx.getD (cap : Int)) := by cases mx <;> simp; omega
          have hle : ((hi.getD (len : Int)).toNat - (lo.getD 0).toNat) * z + (lo.getD 0).toNat * z ≤ len * z := by
            rw [← Nat.add_mul]; exact Nat.mul_le_mul_right _ (by omega)
          refine ⟨_, ?_, R1.ms o _ _ z _ b cc ((mx.getD (cap : Int)).toNat - (lo.getD 0).toNat) (if (mx.getD (cap : Int)).toNat = (lo.getD 0).toNat then off' else off' + (lo.getD 0).toNat * z) hm (by omega) (by omega) (by omega) ?_ ?_⟩
          · simp [Instr.sliceAt, underlying, g2, Instr.slice, hb, hsz, add_none]
            split <;> rfl
          · intro hf
            simp only [Bool.and_eq_true, Option.isNone_iff_eq_none] at hf
            obtain ⟨⟨hf1, rfl⟩, rfl⟩ := hf
            obtain ⟨k1, k2, k3⟩ := hfull hf1
            simp only [Option.getD_none]
            exact ⟨by rw [k1]; simp, by simpa using k2, by simp; exact k3⟩
          · intro hf
            by_cases hz : (mx.getD (cap : Int)).toNat = (lo.getD 0).toNat
            · rw [if_pos hz]
              rcases hf with hf | hf
              · omega
              · simp only [Bool.and_eq_true, Option.isNone_iff_eq_none] at hf
                obtain ⟨⟨hf1, rfl⟩, rfl⟩ := hf
                rw [hoff (Or.inr hf1)]; simp
            · rw [if_neg hz]
              rcases hf with hf | hf
              · rw [hoff (Or.inl (by omega))]
              · simp only [Bool.and_eq_true, Option.isNone_iff_eq_none] at hf
                obtain ⟨⟨hf1, rfl⟩, rfl⟩ := hf
                rw [hoff (Or.inr hf1)]
      · cases hs
    · cases hs
  · rename_i o off
    split at hs
    · rename_i n te z ob hk hob
      rw [hk] at g5
      obtain ⟨rfl, hz⟩ := arr_of g5
      split at hs
      · rename_i hle
        have hsz := run_cellsOf (w := w) hz hle.2.2
        obtain ⟨rfl, rfl⟩ := Prod.mk.inj (Option.some.inj hs)
        have hcc := hc
        obtain ⟨c1, c2, c3, c4, c5⟩ := hc
        obtain ⟨b, cur, m1, m2, m3, m4, m5⟩ := h.m.objs o ob hob
        cases hx with
        | c hx => cases hx
        | mp _ _ b' cc hm =>
          rw [m1] at hm
          obtain ⟨rfl, rfl⟩ := Prod.mk.inj (Option.some.inj hm)
          have hb := run_sliceBounds (P := P) (w := w) false (Nat.le_refl n) hcc h1 h2 h3
          have hle2 : ((hi.getD (n : Int)).toNat - (lo.getD 0).toNat) * z + (lo.getD 0).toNat * z ≤ n * z := by
            rw [← Nat.add_mul]; exact Nat.mul_le_mul_right _ (by omega)
          refine ⟨_, ?_, R1.ms o _ _ _ false b cur.size ((mx.getD (n : Int)).toNat - (lo.getD 0).toNat) (if (mx.getD (n : Int)).toNat = (lo.getD 0).toNat then off else off + (lo.getD 0).toNat * z) m1 (by omega) (by simp only [maxLen]; omega) (by omega) (by simp) ?_⟩
          · simp [Instr.sliceAt, Instr.sureAddr, underlying, g2, hb, hsz, add_none]
            split <;> rfl
          · intro hf
            rcases hf with hf | hf
            · rw [if_neg (by omega)]
            · cases hf
      · cases hs
    · cases hs
  · rename_i s0
    split at hs
    · rename_i hk
      rw [hk] at g5
      obtain rfl := str_of g5
      split at hs
      · rename_i hmx
        obtain ⟨rfl, rfl⟩ := Prod.mk.inj (Option.some.inj hs)
        have hx := R1.c0 hx rfl
        cases hx
        have hm0 : mx = none := by simpa using hmx
        subst hm0
        obtain ⟨rfl, -⟩ | ⟨k3, i3, -, h3⟩ := h3
        · have hb := run_sliceBounds (P := P) (w := w) false (Nat.le_refl s0.size) hc h1 h2 (.inl ⟨rfl, rfl⟩)
          refine ⟨_, ?_, .c (.str _)⟩
          simp [Instr.sliceAt, underlying, g2, Instr.slice, hb]
        · cases h3
      · cases hs
    · cases hs
  · cases hs
end
end Go.Proofs.YtaljbebkooppiaaGreat.Sh

namespace Go.Proofs.YtaljbebkooppiaaGreat.Sh
open Go Go.RowKit
section
variable {w0 : W0} {w w' : World} {ok0 : Bool → Nat → Prop} {N : Nat} {σ σ' : SS} {a : Act} {mu mu' : Nat → Option (Nat × Nat)} {ok : Bool → Nat → Prop} {P : Program}
def SV.closed : SV → Bool
  | .one s => s.closed
  | .agg l => l.all S1.closed
theorem RV.c0 {v : Value} : ∀ {x : SV}, RV w mu ok v x → x.closed = true → RV w mu' ok v x
  | .one _, h, hc => .c (R1.c0 h hc)
  | .agg l, ⟨arr, h1, h2, h3⟩, hc => ⟨arr, h1, h2, fun j s hj => by
      obtain ⟨u, hu, hr⟩ := h3 j s hj
      exact ⟨u, hu, .c (hr.c0 (List.all_eq_true.1 hc s (List.mem_of_getElem? hj)))⟩⟩
def isFn (P : Program) (f : Nat) : Prop := ∃ fn, P.funcs[f]? = some fn ∧ (fn.name == "runtime.NumGoroutine") = false ∧ fn.body.isNone = false
def CallsS (P : Program) (f : Nat) (args : List SV) (r : ST) : Prop :=
  isFn P f ∧ ∀ (w : World) (vals : Array Value) (ok : Bool → Nat → Prop), (∀ fr b, ok fr b → b < w.heap.size) → vals.size = args.length →
    (∀ (i : Nat) (x : SV), args[i]? = some x → RV w mu0 ok (vals.getD i undef) x) →
    Calls P f vals w fun e w' => ∃ v, e = .returned v ∧ RT w' mu0 (fun fr b => (ok fr b ∨ w.heap.size ≤ b) ∧ b < w'.heap.size) v r ∧ Below w.heap.size w w'
def argsOf (σ : SS) : List Operand → Option (List SV)
  | [] => some []
  | x :: l => match σ.ev x, argsOf σ l with
    | .v y, some ys => if y.closed then some (y :: ys) else none
    | _, _ => none
theorem argsOf_spec (h : IM w0 ok0 N σ mu a w) : ∀ {l : List Operand} {ys : List SV}, argsOf σ l = some ys → l.length = ys.length ∧ ∀ (i : Nat) (y : SV), ys[i]? = some y → ∃ x, l[i]? = some x ∧ RV w mu' (okOf w0 ok0 σ mu w) (a.eval x) y
  | [], ys, e => by cases e; exact ⟨rfl, fun i y hi => by simp at hi⟩
  | x :: l, ys, e => by
    simp only [argsOf] at e
    split at e
    · rename_i y zs hx hl
      split at e
      · rename_i hc
        cases e
        obtain ⟨i1, i2⟩ := argsOf_spec h hl
        refine ⟨by simp [i1], fun i y' hi => ?_⟩
        cases i with
        | zero =>
          simp at hi; subst hi
          refine ⟨x, rfl, ?_⟩
          have := h.ev x
          rw [hx] at this
          exact RV.c0 this hc
        | succ i => simp at hi; obtain ⟨x', g1, g2⟩ := i2 i y' hi; exact ⟨x', by simpa using g1, g2⟩
      · cases e
    · cases e
theorem RT_widen (h : IM w0 ok0 N σ mu a w) {v : Value} {r : ST} (hr : RT w' mu0 (fun fr b => (okOf w0 ok0 σ mu w fr b ∨ w.heap.size ≤ b) ∧ b < w'.heap.size) v r) :
    RT w' mu (okOf w0 ok0 σ mu w') v r := by
  refine RT.mono (fun fr b hok => ?_) (fun _ _ _ => rfl) (fun o p ho => by simp [mu0] at ho) hr
  obtain ⟨h1, h2⟩ := hok
  rcases h1 with h1 | h1
  · exact ⟨h1.1, h2, h1.2.2⟩
  · refine ⟨Or.inr (Or.inl (Nat.le_trans h.below.size h1)), h2, fun o ob cc ho hm => ?_⟩
    have := h.m.lt ho hm
    omega
def sLen : ST → Option Int
  | .v (.one (.sl _ _ rows)) => some rows.length
  | .v (.one (.ms _ _ len _ _)) => some len
  | .v (.one .nils) => some 0
  | _ => none
theorem run_len_sh {v : Value} {x : ST} (hx : RT w mu ok v x) {n : Int} (hn : sLen x = some n) : ∃ (A : Option Addr) (l c : Nat), v = .slice A l c ∧ (l : Int) = n := by
  unfold sLen at hn
  split at hn
  · cases hn
    have hx := R1.c0 hx rfl
    cases hx with
    | nilsl => exact ⟨_, _, _, rfl, rfl⟩
    | emp => exact ⟨_, _, _, rfl, rfl⟩
    | sl => exact ⟨_, _, _, rfl, rfl⟩
  · cases hn
    cases hx with
    | c hx => cases hx
    | ms => exact ⟨_, _, _, rfl, rfl⟩
  · cases hn
    have hx := R1.c0 hx rfl
    cases hx
    exact ⟨_, _, _, rfl, rfl⟩
  · cases hn
def sStrLen : ST → Option Int
  | .v (.one (.str s)) => some s.size
  | _ => none
def sMinMax (b : Builtin) : ST → ST → Option S1
  | .v (.one (.int k x)), .v (.one (.int k' y)) => if k = k' then (match b with | .min => some (.int k (if y < x then y else x)) | .max => some (.int k (if x < y then y else x)) | _ => none) else none
  | _, _ => none
def sBuiltin (P : Program) (σ : SS) (b : Builtin) (args : List Operand) (tys : List Nat) : Option S1 :=
  match b, args, tys with
  | .len, [x], t :: _ => match (tyOf P t).map TyI.kind with
    | some (.slice _ _) => (sLen (σ.ev x)).map (.int .i64)
    | some .str => (sStrLen (σ.ev x)).map (.int .i64)
    | _ => none
  | b, [x, y], _ => sMinMax b (σ.ev x) (σ.ev y)
  | _, _, _ => none
def SV.cells : SV → List S1
  | .one s => [s]
  | .agg l => l
def putL (cs : List S1) : Nat → List S1 → List S1
  | _, [] => cs
  | off, s :: l => putL (cs.set off s) (off + 1) l
def SV.known : SV → Bool
  | .one s => s.known
  | .agg _ => true
def fillS (fs : List (Nat × Nat)) (σ : SS) (cs : List S1) : List (Nat × Operand) → Option (List S1)
  | [] => some cs
  | (i, x) :: rest => match fs[i]?, σ.ev x with
    | some (off, size), .v y => if y.cells.length = size ∧ off + size ≤ cs.length ∧ y.known = true then fillS fs σ (putL cs off y.cells) rest else none
    | _, _ => none
def sNil : ST → Option Bool
  | .v (.one .nils) => some true
  | .v (.one (.sl _ _ (_ :: _))) => some false
  | .v (.one (.ms _ _ _ _ _)) => some false
  | _ => none
def sEq (τ : TyI) (x y : ST) : Option Bool :=
  match τ.kind with
  | .bool => match x, y with
    | .v (.one (.bool p)), .v (.one (.bool q)) => some (p == q)
    | _, _ => none
  | .slice _ _ => match y with
    | .v (.one .nils) => sNil x
    | _ => none
  | _ => none
def byteAt (s : ByteArray) (n : Int) : Int := (((s[n.toNat]?).map UInt8.toNat).getD 0 : Nat)
def onesOf : List SV → Option (List S1)
  | [] => some []
  | .one s :: l => (onesOf l).map (s :: ·)
  | .agg _ :: _ => none
theorem onesOf_eq : ∀ {l : List SV} {cs : List S1}, onesOf l = some cs → l = cs.map SV.one
  | [], cs, h => by cases h; rfl
  | .one s :: l, cs, h => by
    simp only [onesOf, Option.map_eq_some_iff] at h
    obtain ⟨ds, h1, rfl⟩ := h
    rw [onesOf_eq h1]; rfl
  | .agg _ :: _, _, h => by cases h
def arrParts (n z : Nat) : List (Nat × Nat) := (List.range n).map fun i => (i * z, z)
def isParts (k : TyK) (fs : List (Nat × Nat)) : Prop := k = .struct fs ∨ ∃ n e z, k = .arr n e z ∧ z ≠ 0 ∧ fs = arrParts n z
def fldOf (P : Program) (t f : Nat) : Option (Nat × TyI) := match P.underlying t with
  | some (.struct gs) => match gs[f]? with
    | some g => (tyOf P g.type).map fun τ => (g.offset, τ)
    | none => none
  | _ => none
def sPart (τ : TyI) (off : Nat) (l : List S1) : Option SV := if τ.agg = true then (if off + τ.size ≤ l.length then some (.agg ((l.drop off).take τ.size)) else none) else l[off]?.map SV.one
theorem run_field_sh {t f off : Nat} {τ : TyI} (hf : fldOf P t f = some (off, τ)) {v : Value} {l : List S1} (hx : RV w mu ok v (.agg l)) {y : SV} (hy : sPart τ off l = some y) : ∃ u, (Instr.field t v f).run P w = .ok u w ∧ RV w mu ok u y := by
  unfold fldOf at hf
  split at hf
  case h_2 => cases hf
  rename_i gs hu
  split at hf
  case h_2 => cases hf
  rename_i g hg
  rw [Option.map_eq_some_iff] at hf
  obtain ⟨τ', ht, he⟩ := hf
  injection he with e1 e2
  subst e1; subst e2
  obtain ⟨arr, rfl, hsz, hget⟩ := hx
  have hag := run_isAgg (w := w) ht
  have hss := run_sizeOf (w := w) ht
  unfold sPart at hy
  split at hy
  · rename_i ha
    split at hy
    · rename_i hle
      cases hy
      refine ⟨.agg (arr.extract g.offset (g.offset + τ'.size)), by simp [Instr.field, underlying, hu, hg, asAgg, part, hag, ha, hss], _, rfl, by simp; omega, fun j s hj => ?_⟩
      rw [List.getElem?_take] at hj
      split at hj
      · rename_i hjlt
        rw [List.getElem?_drop] at hj
        obtain ⟨u, hu2, hr⟩ := hget _ s hj
        refine ⟨u, ?_, hr⟩
        rw [Array.getElem?_extract_of_lt (by omega), ← hu2]
        exact (Array.getElem?_eq_getElem _).symm
      · cases hj
    · cases hy
  · rename_i ha
    rw [Option.map_eq_some_iff] at hy
    obtain ⟨s, hs, rfl⟩ := hy
    obtain ⟨u, hu2, hr⟩ := hget _ s hs
    exact ⟨u, by simp [Instr.field, underlying, hu, hg, asAgg, part, hag, ha, hu2], hr⟩
def sPtr : ST → Option S1
  | .v (.one (.mp i off)) => some (.mp i off)
  | .v (.one (.rp fr cs)) => some (.rp fr cs)
  | _ => none
def intsOf (k : IntKind) : List S1 → Option (List Int)
  | [] => some []
  | .int k' n :: l => if k = k' then (intsOf k l).map (n :: ·) else none
  | _ :: _ => none
def sArrEq (P : Program) (t : Nat) (l l' : List S1) : Option Bool := match tyOf P t with
  | some ⟨_, _, .arr n e 1, _⟩ => match tyOf P e with
    | some ⟨_, _, .int k, _⟩ => match intsOf k l, intsOf k l' with
      | some as, some bs => if as.length = n ∧ bs.length = n then some (as == bs) else none
      | _, _ => none
    | _ => none
  | _ => none
def sEqP (P : Program) (t : Nat) (x y : ST) : Option Bool := match x, y with
  | .v (.agg l), .v (.agg l') => sArrEq P t l l'
  | x, y => match tyOf P t with | some τ => sEq τ x y | none => none
def sItem (P : Program) (t : Nat) (n : Int) (l : List S1) : Option SV := match tyOf P t with
  | some ⟨_, _, .arr m e z, _⟩ => match tyOf P e with
    | some τ => if τ.size = z ∧ 0 ≤ n ∧ n < (m : Nat) then sPart τ (n.toNat * z) l else none
    | none => none
  | _ => none
def sPure (P : Program) (σ : SS) (o : Oper) (r : ST) : Prop :=
  match o.op with
  | .move x => r = σ.ev x
  | .assign x => r = σ.ev x
  | .pick c x y => ∃ t, σ.ev c = B t ∧ r = if t then σ.ev x else σ.ev y
  | .load t x => ∃ τ y, tyOf P t = some τ ∧ sLoad σ τ (σ.ev x) = some y ∧ r = .v y
  | .binOp op t x y _ => (∃ s, sBin op (σ.ev x) (σ.ev y) = some s ∧ r = .v (.one s)) ∨ (∃ p, sEqP P t (σ.ev x) (σ.ev y) = some p ∧ ((op = .eql ∧ r = B p) ∨ (op = .neq ∧ r = B (!p))))
  | .unOp op _ x => ∃ s, sUn op (σ.ev x) = some s ∧ r = .v (.one s)
  | .convert src t x => (∃ τ τs k k' n, tyOf P src = some τs ∧ tyOf P t = some τ ∧ τ.kind = .int k ∧ σ.ev x = I k' n ∧ r = I k (k.wrap n)) ∨
      (∃ τ τs τe e fr n, tyOf P src = some τs ∧ τs.kind = .slice e 1 ∧ tyOf P e = some τe ∧ τe.kind = .int .u8 ∧ tyOf P t = some τ ∧ τ.kind = .str ∧ σ.ev x = .v (.one (.sl fr 1 [[.int .u8 n]])) ∧ r = .v (.one (.str (ByteArray.empty.push (UInt8.ofNat n.toNat)))))
  | .fieldAddr t x f => ∃ τ s, tyOf P t = some τ ∧ sFieldAddr τ f (σ.ev x) = some s ∧ r = .v (.one s)
  | .indexAddr t x i => ∃ τ k n m s, tyOf P t = some τ ∧ σ.ev i = I k n ∧ sIndexAddr τ n (σ.ev x) = some (m, s) ∧ (0 ≤ n ∧ n < (m : Nat)) ∧ r = .v (.one s)
  | .slice t x lo hi mx => ∃ τ l h m n s, tyOf P t = some τ ∧ optInt σ lo = some l ∧ optInt σ hi = some h ∧ optInt σ mx = some m ∧ sCut σ τ l h m (σ.ev x) = some (n, s) ∧ cutOK n l h m ∧ r = .v (.one s)
  | .extract x i => ∃ l y, σ.ev x = .tup l ∧ l[i]? = some y ∧ r = .v y
  | .field t x f => ∃ off τ l y, fldOf P t f = some (off, τ) ∧ σ.ev x = .v (.agg l) ∧ sPart τ off l = some y ∧ r = .v y
  | .build t parts => ∃ τ fs cs, tyOf P t = some τ ∧ isParts τ.kind fs ∧ (τ.zero.isEmpty = false ∧ (fs.all fun p => p.2 != 0) = true) ∧ fillS fs σ (τ.zero.map ofVal1) parts.toList = some cs ∧ r = .v (.agg cs)
  | .index t x i => (∃ τ s k n, tyOf P t = some τ ∧ τ.kind = .str ∧ σ.ev x = .v (.one (.str s)) ∧ σ.ev i = I k n ∧ (0 ≤ n ∧ n < (s.size : Nat)) ∧ r = I .u8 (byteAt s n)) ∨
      (∃ l k n y, σ.ev x = .v (.agg l) ∧ σ.ev i = I k n ∧ sItem P t n l = some y ∧ r = .v y)
  | .nilCheck x => ∃ s, sPtr (σ.ev x) = some s ∧ r = .v (.one s)
  | .makeFunc fn first caps => ∃ f ys cs, fn = .func f ∧ first = #[] ∧ argsOf σ caps.toList = some ys ∧ onesOf ys = some cs ∧ r = .v (.one (.fn f cs))
  | .call c => match c.callee with
    | .value (.func f) => ∃ ys, argsOf σ c.args.toList = some ys ∧ CallsS P f ys r
    | .value (.tmp t) => ∃ f cs ys, σ.t t = .v (.one (.fn f cs)) ∧ argsOf σ c.args.toList = some ys ∧ CallsS P f (ys ++ cs.map SV.one) r
    | .builtin b => ∃ s, sBuiltin P σ b c.args.toList c.argTypes.toList = some s ∧ r = .v (.one s)
    | _ => False
  | _ => False
/-! ### They hold -/
def RC (w : World) (mu : Nat → Option (Nat × Nat)) (ok : Bool → Nat → Prop) (arr : Array Value) (cs : List S1) : Prop :=
  arr.size = cs.length ∧ ∀ (j : Nat) (s : S1), cs[j]? = some s → ∃ u, arr[j]? = some u ∧ R1 w mu ok u s
theorem RC.set {arr : Array Value} {cs : List S1} (h : RC w mu ok arr cs) {off : Nat} {u : Value} {s : S1} (hu : R1 w mu ok u s) : RC w mu ok (arr.setIfInBounds off u) (cs.set off s) := by
  refine ⟨by simpa using h.1, fun j s' hj => ?_⟩
  rw [List.getElem?_set] at hj
  by_cases e : off = j
  · subst e
    rw [if_pos rfl] at hj
    split at hj
    · rename_i hl
      cases hj
      exact ⟨u, by simp [h.1, hl], hu⟩
    · cases hj
  · rw [if_neg e] at hj
    obtain ⟨u', hu', hr⟩ := h.2 j s' hj
    exact ⟨u', by rw [Array.getElem?_setIfInBounds_ne e]; exact hu', hr⟩
theorem RC.puts (off : Nat) : ∀ (l : List S1) (vs : List Value) (k : Nat) {arr : Array Value} {cs : List S1}, RC w mu ok arr cs → vs.length = l.length → (∀ (j : Nat) (s : S1), l[j]? = some s → ∃ u, vs[j]? = some u ∧ R1 w mu ok u s) →
    RC w mu ok ((vs.zipIdx k).foldl (fun cs (c, j) => cs.setIfInBounds (off + j) c) arr) (putL cs (off + k) l)
  | [], [], k, arr, cs, h, _, _ => by simpa [putL] using h
  | [], _ :: _, _, _, _, _, e, _ => by simp at e
  | _ :: _, [], _, _, _, _, e, _ => by simp at e
  | s :: l, v :: vs, k, arr, cs, h, e, hv => by
    simp only [List.zipIdx_cons, List.foldl_cons, putL]
    have h0 := hv 0 s rfl
    obtain ⟨u, hu, hr⟩ := h0
    simp at hu; subst hu
    exact RC.puts off l vs (k + 1) (h.set hr) (by simpa using e) (fun j s' hj => by simpa using hv (j + 1) s' (by simpa using hj))
theorem RV.cells {v : Value} : ∀ {x : SV}, RV w mu ok v x → (∀ s, x = .one s → s.known = true) → RC w mu ok v.cells x.cells
  | .one s, h, hk => by
    have := R1.one h (hk s rfl)
    have e : v.cells = #[v] := by cases v <;> first | rfl | simp [Value.oneCell'] at this
    rw [e]
    exact ⟨rfl, fun j s' hj => by
      cases j with
      | zero => simp [SV.cells] at hj; subst hj; exact ⟨v, rfl, h⟩
      | succ j => simp [SV.cells] at hj⟩
  | .agg l, ⟨arr, h1, h2, h3⟩, _ => by subst h1; exact ⟨h2, h3⟩
theorem run_fill_sh (h : IM w0 ok0 N σ mu a w) {place : Nat → Option (Nat × Nat)} {fs : List (Nat × Nat)} (hp : ∀ i p, fs[i]? = some p → place i = some p) : ∀ (parts : List (Nat × Operand)) {arr : Array Value} {cs ds : List S1},
    RC w mu (okOf w0 ok0 σ mu w) arr cs → fillS fs σ cs parts = some ds → ∃ arr', Instr.fill place arr (parts.map fun p => (p.1, a.eval p.2)) = some arr' ∧ RC w mu (okOf w0 ok0 σ mu w) arr' ds
  | [], arr, cs, ds, hc, e => by cases e; exact ⟨arr, rfl, hc⟩
  | (i, x) :: rest, arr, cs, ds, hc, e => by
    simp only [fillS] at e
    split at e
    · rename_i off size y hf hy
      split at e
      · rename_i hl
        have hx := h.ev x
        rw [hy] at hx
        have hkn := hl.2.2
        have hxc := RV.cells hx (fun s e => by subst e; exact hkn)
        have hsz : (a.eval x).cells.size = size := by rw [hxc.1]; exact hl.1
        have hnot : ¬ ((a.eval x).cells.size ≠ size ∨ off + (a.eval x).cells.size > arr.size) := by
          rw [hsz, hc.1]; omega
        have hnew := RC.puts (w := w) (mu := mu) (ok := okOf w0 ok0 σ mu w) off y.cells (a.eval x).cells.toList 0 hc (by simpa using hxc.1) (fun j s hj => by obtain ⟨u, hu, hr⟩ := hxc.2 j s hj; exact ⟨u, by simpa using hu, hr⟩)
        obtain ⟨arr', g1, g2⟩ := run_fill_sh h hp rest hnew e
        refine ⟨arr', ?_, g2⟩
        simp only [List.map_cons, Instr.fill, hp i _ hf]
        rw [if_neg (by simpa using hnot)]
        rw [← Array.foldl_toList] 
        rw [Array.toList_zipIdx]
        exact g1
      · cases e
    · cases e
end
end Go.Proofs.YtaljbebkooppiaaGreat.Sh

namespace Go.Proofs.YtaljbebkooppiaaGreat.Sh
open Go Go.RowKit
section
variable {w0 : W0} {w w' : World} {ok0 : Bool → Nat → Prop} {N : Nat} {σ σ' : SS} {a : Act} {mu mu' : Nat → Option (Nat × Nat)} {ok : Bool → Nat → Prop} {P : Program}
theorem run_mapM_sizes : ∀ (gs : List Field), (gs.all fun f => P.cellsOf f.type != 0) = true →
    (gs.mapM fun f => (do pure (f.offset, ← sizeOf f.type) : Sem (Nat × Nat))).run P w = .ok (gs.map fun f => (f.offset, P.cellsOf f.type)) w
  | [], _ => rfl
  | g :: gs, h => by
    simp only [List.all_cons, Bool.and_eq_true, bne_iff_ne, ne_eq] at h
    have ih := run_mapM_sizes gs h.2
    have hs := run_cellsOf (P := P) (w := w) (t := g.type) rfl h.1
    simp only [List.mapM_cons, List.map_cons]
    simp only [Sem.run_bind, hs, Result.andThen_ok, Sem.run_pure, ih]
theorem run_build_sh (h : IM w0 ok0 N σ mu a w) {t : Nat} {τ : TyI} (ht : tyOf P t = some τ) {fs : List (Nat × Nat)} (hk : isParts τ.kind fs) (hz : τ.zero.isEmpty = false ∧ (fs.all fun p => p.2 != 0) = true)
    {parts : Array (Nat × Operand)} {cs : List S1} (hf : fillS fs σ (τ.zero.map ofVal1) parts.toList = some cs) :
    ∃ u, (Instr.build t (parts.map fun p => (p.1, a.eval p.2))).run P w = .ok u w ∧ RV w mu (okOf w0 ok0 σ mu w) u (.agg cs) := by
  obtain ⟨ti, d, g1, g2, g3, g4, g5, g6⟩ := tyOf_some ht
  rcases hk with hk | ⟨n, e, z, hk, hz0, rfl⟩
  · rw [hk] at g5
    obtain ⟨gs, rfl, rfl⟩ := struct_of g5
    cases hzv : ti.zero with
    | none => rw [hzv] at g6; simp at g6; rw [g6] at hz; simp at hz
    | some z =>
      rw [hzv] at g6
      simp only [Option.map_some, Option.getD_some] at g6
      have hrc : RC w mu (okOf w0 ok0 σ mu w) z.cells (τ.zero.map ofVal1) := by
        rw [← g6]
        refine ⟨by simp, fun j s hj => ?_⟩
        rw [List.getElem?_map, Option.map_eq_some_iff] at hj
        obtain ⟨u, hu, rfl⟩ := hj
        exact ⟨u, by simpa using hu, R1_ofVal1 u⟩
      obtain ⟨arr', h1, h2⟩ := run_fill_sh h (place := fun i => (gs.toList.map fun f => (f.offset, P.cellsOf f.type)).toArray[i]?) (fs := gs.toList.map fun f => (f.offset, P.cellsOf f.type)) (fun i p hp => by simpa using hp) parts.toList hrc hf
      have hm := run_mapM_sizes (P := P) (w := w) gs.toList (by simpa [List.all_map] using hz.2)
      refine ⟨.agg arr', ?_, arr', rfl, h2.1, h2.2⟩
      have hm2 : (gs.mapM fun f => (do pure (f.offset, ← sizeOf f.type) : Sem (Nat × Nat))).run P w = .ok (gs.toList.map fun f => (f.offset, P.cellsOf f.type)).toArray w := by
        rw [Array.mapM_eq_mapM_toList]
        show (Sem.bind _ _).run P w = _
        rw [Sem.run_bind', hm]
        rfl
      unfold Instr.build
      simp only [Sem.run_bind, zeroValue, typeInfo, run_program, Result.andThen_ok, g1, Sem.run_pure, hzv, underlying, g2]
      rw [hm2]
      simp only [Result.andThen_ok, Array.toList_map]
      rw [h1]
      rfl
  · rw [hk] at g5
    obtain ⟨rfl, hzz⟩ := arr_of g5
    cases hzv : ti.zero with
    | none => rw [hzv] at g6; simp at g6; rw [g6] at hz; simp at hz
    | some zv =>
      rw [hzv] at g6
      simp only [Option.map_some, Option.getD_some] at g6
      have hrc : RC w mu (okOf w0 ok0 σ mu w) zv.cells (τ.zero.map ofVal1) := by
        rw [← g6]
        refine ⟨by simp, fun j s hj => ?_⟩
        rw [List.getElem?_map, Option.map_eq_some_iff] at hj
        obtain ⟨u, hu, rfl⟩ := hj
        exact ⟨u, by simpa using hu, R1_ofVal1 u⟩
      unfold Instr.build
      simp only [Sem.run_bind, zeroValue, typeInfo, run_program, Result.andThen_ok, g1, Sem.run_pure, hzv, underlying, g2]
      have hsz := run_cellsOf (w := w) hzz hz0
      obtain ⟨arr', h1, h2⟩ := run_fill_sh h (place := fun i => some (i * z, z)) (fs := arrParts n z) (fun i p hp => by
        unfold arrParts at hp
        rw [List.getElem?_map, Option.map_eq_some_iff] at hp
        obtain ⟨q, hq, rfl⟩ := hp
        have := (List.getElem?_eq_some_iff.1 hq).2
        simp at this
        rw [this]) parts.toList hrc hf
      refine ⟨.agg arr', ?_, arr', rfl, h2.1, h2.2⟩
      simp only [hsz, Result.andThen_ok, Array.toList_map]
      rw [h1]
      rfl
end
end Go.Proofs.YtaljbebkooppiaaGreat.Sh

namespace Go.Proofs.YtaljbebkooppiaaGreat.Sh
open Go Go.RowKit
section
variable {w0 : W0} {w w' : World} {ok0 : Bool → Nat → Prop} {N : Nat} {σ σ' : SS} {a : Act} {mu mu' : Nat → Option (Nat × Nat)} {ok : Bool → Nat → Prop} {P : Program}
theorem wp_val {o : Oper} {next : Act → World → Prop} {Q : Exit → Act → World → Prop} (h : IM w0 ok0 N σ mu a w) {v : Value} {r : ST} (hrun : (execOp a.eval o).run P w = .ok (.value v) w) (hr : RT w mu (okOf w0 ok0 σ mu w) v r)
    (hd : ∀ i, o.dst = some i → i < N) (hK : ∀ a' w', Inv w0 ok0 N (σ.put o.dst r) a' w' → next a' w') : o.wp P a w next Q := by
  unfold Oper.wp
  rw [hrun, Oper.upon_value]
  exact hK _ _ ⟨h.below, by rw [size_put, h.size], by rw [defers_put]; exact h.defers, mu, h.m.put h.size o.dst hd v r hr⟩
theorem run_vals {o : Oper} {s : Sem Value} {v : Value} (ho : execOp a.eval o = (do pure (.value (← s)))) (hs : s.run P w = .ok v w) : (execOp a.eval o).run P w = .ok (.value v) w := by
  rw [ho]
  simp only [Sem.run_bind, hs, Result.andThen_ok, Sem.run_pure]
theorem getD_args (l : Array Operand) (i : Nat) (x : Operand) (h : l.toList[i]? = some x) : (l.map a.eval).getD i undef = a.eval x := by
  have : l[i]? = some x := by simpa using h
  simp [Array.getD_eq_getD_getElem?, this]
theorem run_sEq {t : Nat} {τ : TyI} (ht : tyOf P t = some τ) {X Y : Value} {x y : ST} (hx : RT w mu ok X x) (hy : RT w mu ok Y y) {p : Bool} (he : sEq τ x y = some p) (op : BinOp) (hop : op = .eql ∨ op = .neq) (q1 q2 : Operand) :
    (do eqGuard op t q1 q2 X Y; binOp op t X Y : Sem Value).run P w = .ok (.bool (if op = .eql then p else !p)) w := by
  obtain ⟨i, d, g1, g2, g3, g4, g5, _⟩ := tyOf_some ht
  have fin : (eqGuard op t q1 q2 X Y).run P w = .ok () w → (Op.equal t X Y).run P w = .ok p w → (∀ k n, X ≠ .int k n) → (∀ k n, X ≠ .float k n) → (∀ k n m, X ≠ .complex k n m) → (∀ n, X ≠ .string n) → (do eqGuard op t q1 q2 X Y; binOp op t X Y : Sem Value).run P w = .ok (.bool (if op = .eql then p else !p)) w := by
    intro h1 h2 n1 n2 n3 n4
    rcases hop with rfl | rfl
    · have : binOp .eql t X Y = (do pure (.bool (← Op.equal t X Y)) : Sem Value) := by
        unfold binOp
        cases X <;> first | rfl | exact absurd rfl (n1 _ _) | exact absurd rfl (n2 _ _) | exact absurd rfl (n3 _ _ _) | exact absurd rfl (n4 _)
      simp only [Sem.run_bind, h1, Result.andThen_ok, this, h2, Sem.run_pure, if_true]
    · have : binOp .neq t X Y = (do pure (.bool (!(← Op.equal t X Y))) : Sem Value) := by
        unfold binOp
        cases X <;> first | rfl | exact absurd rfl (n1 _ _) | exact absurd rfl (n2 _ _) | exact absurd rfl (n3 _ _ _) | exact absurd rfl (n4 _)
      simp only [Sem.run_bind, h1, Result.andThen_ok, this, h2, Sem.run_pure]
      rfl
  unfold sEq at he
  split at he
  · rename_i hk
    rw [hk] at g5
    have hdd : d = .bool := by cases d <;> simp [kindOf] at g5; rfl
    subst hdd
    split at he
    · rename_i b c
      cases he
      have hx := R1.c0 hx rfl
      have hy := R1.c0 hy rfl
      cases hx; cases hy
      refine fin ?_ ?_ (by simp) (by simp) (by simp) (by simp)
      · unfold eqGuard; rcases hop with rfl | rfl <;> simp
      · obtain ⟨dp, hdp⟩ : ∃ dp, Op.maxDepth = dp + 1 := ⟨9999, rfl⟩
        unfold Op.equal
        rw [hdp]
        simp [Op.equalIn, underlying, g2]
    · cases he
  · rename_i te z hk
    rw [hk] at g5
    obtain ⟨rfl, _⟩ := slice_of g5
    split at he
    · have hy := R1.c0 hy rfl
      cases hy
      unfold sNil at he
      split at he
      · cases he
        have hx := R1.c0 hx rfl
        cases hx
        refine fin ?_ ?_ (by simp) (by simp) (by simp) (by simp)
        · unfold eqGuard; rcases hop with rfl | rfl <;> simp
        · obtain ⟨dp, hdp⟩ : ∃ dp, Op.maxDepth = dp + 1 := ⟨9999, rfl⟩
          unfold Op.equal
          rw [hdp]
          simp [Op.equalIn, underlying, g2]
      · cases he
        have hx := R1.c0 hx rfl
        cases hx
        refine fin ?_ ?_ (by simp) (by simp) (by simp) (by simp)
        · unfold eqGuard; rcases hop with rfl | rfl <;> simp
        · obtain ⟨dp, hdp⟩ : ∃ dp, Op.maxDepth = dp + 1 := ⟨9999, rfl⟩
          unfold Op.equal
          rw [hdp]
          simp [Op.equalIn, underlying, g2]
      · cases he
        cases hx with
        | c hx => cases hx
        | ms =>
          refine fin ?_ ?_ (by simp) (by simp) (by simp) (by simp)
          · unfold eqGuard; rcases hop with rfl | rfl <;> simp
          · obtain ⟨dp, hdp⟩ : ∃ dp, Op.maxDepth = dp + 1 := ⟨9999, rfl⟩
            unfold Op.equal
            rw [hdp]
            simp [Op.equalIn, underlying, g2]
      · cases he
    · cases he
  · cases he
theorem intsOf_eq {k : IntKind} : ∀ {l : List S1} {as : List Int}, intsOf k l = some as → l = as.map (S1.int k)
  | [], as, h => by cases h; rfl
  | s :: l, as, h => by
    cases s <;> simp only [intsOf] at h <;> try cases h
    rename_i k' n
    split at h
    · rename_i e
      subst e
      rw [Option.map_eq_some_iff] at h
      obtain ⟨bs, h1, rfl⟩ := h
      rw [intsOf_eq h1]; rfl
    · cases h
theorem run_items {e : Nat} {k : IntKind} (he : P.underlying e = some (.int k)) (d : Nat) {xs ys : Array Value} {as bs : List Int}
    (hx : ∀ (j : Nat) (n : Int), as[j]? = some n → xs[j]? = some (.int k n)) (hy : ∀ (j : Nat) (n : Int), bs[j]? = some n → ys[j]? = some (.int k n)) :
    ∀ (is : List Nat), (∀ i ∈ is, i < as.length ∧ i < bs.length) → (Op.eqItems (d + 1) e 1 xs ys is).run P w = .ok (is.all fun i => as[i]? == bs[i]?) w
  | [], _ => by simp [Op.eqItems]
  | i :: is, h => by
    obtain ⟨h1, h2⟩ := h i (by simp)
    have p1 := run_part_plain (P := P) w (e := e) (by simp [Program.plainKey, he]) (hx i _ (List.getElem?_eq_getElem h1))
    have p2 := run_part_plain (P := P) w (e := e) (by simp [Program.plainKey, he]) (hy i _ (List.getElem?_eq_getElem h2))
    have ih := run_items he d hx hy is (fun j hj => h j (List.mem_cons_of_mem _ hj))
    have p3 : (Op.equalIn (d + 1) e (.int k as[i]) (.int k bs[i])).run P w = .ok (as[i] == bs[i]) w := by
      simp [Op.equalIn, underlying, he]
    simp only [Op.eqItems, Nat.mul_one, Sem.run_bind, p1, p2, p3, Result.andThen_ok, List.all_cons, List.getElem?_eq_getElem h1, List.getElem?_eq_getElem h2]
    by_cases hab : as[i] = bs[i]
    · simp [hab, ih]
    · simp [hab]
theorem all_range {as bs : List Int} {n : Nat} (ha : as.length = n) (hb : bs.length = n) : ((List.range n).all fun i => as[i]? == bs[i]?) = (as == bs) := by
  rw [Bool.eq_iff_iff, List.all_eq_true, beq_iff_eq]
  constructor
  · intro h
    apply List.ext_getElem?
    intro i
    by_cases hi : i < n
    · simpa using h i (List.mem_range.2 hi)
    · rw [List.getElem?_eq_none (by omega), List.getElem?_eq_none (by omega)]
  · rintro rfl i _; simp
theorem run_sEqP {t : Nat} {X Y : Value} {x y : ST} (hx : RT w mu ok X x) (hy : RT w mu ok Y y) {p : Bool} (he : sEqP P t x y = some p) (op : BinOp) (hop : op = .eql ∨ op = .neq) (q1 q2 : Operand) :
    (do eqGuard op t q1 q2 X Y; binOp op t X Y : Sem Value).run P w = .ok (.bool (if op = .eql then p else !p)) w := by
  unfold sEqP at he
  split at he
  case h_2 =>
    split at he
    · rename_i τ ht; exact run_sEq ht hx hy he op hop q1 q2
    · cases he
  rename_i l l'
  unfold sArrEq at he
  split at he
  case h_2 => cases he
  rename_i sz by_ n e zs ht
  split at he
  case h_2 => cases he
  rename_i sz2 by2 k zs2 hte
  split at he
  case h_2 => cases he
  rename_i as bs ha hb
  split at he
  case isFalse => cases he
  rename_i hlen
  cases he
  obtain ⟨i, dd, g1, g2, g3, g4, g5, _⟩ := tyOf_some ht
  obtain ⟨i2, d2, k1, k2, k3, k4, k5, _⟩ := tyOf_some hte
  have hd2 : d2 = .int k := by cases d2 <;> simp [kindOf] at k5; rw [k5]
  subst hd2
  have hdd : dd = .array n e ∧ P.cellsOf e = 1 := by cases dd <;> simp [kindOf] at g5; exact ⟨by rw [g5.1, g5.2.1], by rw [← g5.2.1]; exact g5.2.2⟩
  obtain ⟨rfl, hcells⟩ := hdd
  obtain ⟨xs, rfl, hxs, hgx⟩ := hx
  obtain ⟨ys, rfl, hys, hgy⟩ := hy
  have el := intsOf_eq ha
  have el' := intsOf_eq hb
  subst el; subst el'
  have hX : ∀ (j : Nat) (m : Int), as[j]? = some m → xs[j]? = some (.int k m) := by
    intro j m hj
    obtain ⟨u, hu, hr⟩ := hgx j (.int k m) (by simp [hj])
    have := hr.c0 rfl
    cases this
    exact hu
  have hY : ∀ (j : Nat) (m : Int), bs[j]? = some m → ys[j]? = some (.int k m) := by
    intro j m hj
    obtain ⟨u, hu, hr⟩ := hgy j (.int k m) (by simp [hj])
    have := hr.c0 rfl
    cases this
    exact hu
  have hg : (eqGuard op t q1 q2 (.agg xs) (.agg ys)).run P w = .ok () w := by
    have hgt : P.eqGuardType P.depth t = false := by
      have : P.depth = (2 * (P.types.size + Made.depth)) + 1 + 1 := rfl
      rw [this]
      simp [Program.eqGuardType, g2, k2]
    rcases hop with rfl | rfl <;> simp [eqGuard, hgt]
  have hq : (Op.equal t (.agg xs) (.agg ys)).run P w = .ok (as == bs) w := by
    obtain ⟨dp, hdp⟩ : ∃ dp, Op.maxDepth = dp + 1 + 1 := ⟨9998, rfl⟩
    unfold Op.equal
    rw [hdp, run_equalIn_array w (dp + 1) xs ys g2 k1, hcells, run_items k2 dp hX hY _ (fun i hi => by rw [hlen.1, hlen.2]; exact ⟨List.mem_range.1 hi, List.mem_range.1 hi⟩), all_range hlen.1 hlen.2]
  rcases hop with rfl | rfl
  · simp only [Sem.run_bind, hg, Result.andThen_ok, if_true]
    show (binOp .eql t (.agg xs) (.agg ys)).run P w = _
    simp only [binOp, Sem.run_bind, hq, Result.andThen_ok, Sem.run_pure]
  · simp only [Sem.run_bind, hg, Result.andThen_ok]
    show (binOp .neq t (.agg xs) (.agg ys)).run P w = _
    simp only [binOp, Sem.run_bind, hq, Result.andThen_ok, Sem.run_pure]
    rfl
theorem run_item {t : Nat} {n : Int} {l : List S1} {y : SV} (hy : sItem P t n l = some y) {v : Value} (hx : RV w mu ok v (.agg l)) (k : IntKind) : ∃ u, (Instr.index t v (.int k n)).run P w = .ok u w ∧ RV w mu ok u y := by
  unfold sItem at hy
  split at hy
  case h_2 => cases hy
  rename_i sz by_ m e z zs ht
  split at hy
  case h_2 => cases hy
  rename_i τ hte
  split at hy
  case isFalse => cases hy
  rename_i hc
  obtain ⟨hz, h0, h1⟩ := hc
  obtain ⟨i, dd, g1, g2, g3, g4, g5, _⟩ := tyOf_some ht
  have hdd : dd = .array m e := by cases dd <;> simp [kindOf] at g5; rw [g5.1, g5.2.1]
  subst hdd
  obtain ⟨arr, rfl, hsz, hget⟩ := hx
  have hag := run_isAgg (w := w) hte
  have hss := run_sizeOf (w := w) hte
  unfold sPart at hy
  split at hy
  · rename_i ha
    split at hy
    · rename_i hle
      cases hy
      refine ⟨.agg (arr.extract (n.toNat * z) (n.toNat * z + τ.size)), by simp [Instr.index, asIntOf, underlying, g2, h0, h1, part, hag, ha, hss, hz], _, rfl, by simp; omega, fun j s hj => ?_⟩
      rw [List.getElem?_take] at hj
      split at hj
      · rename_i hjlt
        rw [List.getElem?_drop] at hj
        obtain ⟨u, hu2, hr⟩ := hget _ s hj
        refine ⟨u, ?_, hr⟩
        rw [Array.getElem?_extract_of_lt (by omega), ← hu2]
        exact (Array.getElem?_eq_getElem _).symm
      · cases hj
    · cases hy
  · rename_i ha
    rw [Option.map_eq_some_iff] at hy
    obtain ⟨s, hs, rfl⟩ := hy
    obtain ⟨u, hu2, hr⟩ := hget _ s hs
    exact ⟨u, by simp [Instr.index, asIntOf, underlying, g2, h0, h1, part, hag, ha, hss, hz, hu2], hr⟩
theorem argsOf_closed : ∀ {l : List Operand} {ys : List SV}, argsOf σ l = some ys → ∀ y ∈ ys, y.closed = true
  | [], ys, e, y, hy => by cases e; cases hy
  | x :: l, ys, e, y, hy => by
    simp only [argsOf] at e
    split at e
    · split at e
      · rename_i hl hc
        cases e
        rcases List.mem_cons.1 hy with rfl | hy
        · exact hc
        · exact argsOf_closed hl y hy
      · cases e
    · cases e
theorem pure_wp {o : Oper} {r : ST} {next : Act → World → Prop} {Q : Exit → Act → World → Prop} (h : Inv w0 ok0 N σ a w) (hp : sPure P σ o r)
    (hd : ∀ i, o.dst = some i → i < N) (hK : ∀ a' w', Inv w0 ok0 N (σ.put o.dst r) a' w' → next a' w') : o.wp P a w next Q := by
  obtain ⟨mu, h⟩ := h.im
  unfold sPure at hp
  split at hp
  · rename_i x ho
    subst hp
    exact wp_val h (v := a.eval x) (by simp [execOp, ho]) (h.ev x) hd hK
  · rename_i x ho
    subst hp
    exact wp_val h (v := a.eval x) (by simp [execOp, ho]) (h.ev x) hd hK
  · rename_i c x y ho
    obtain ⟨t, hc, rfl⟩ := hp
    have hcv := h.bool hc
    cases t
    · exact wp_val h (v := a.eval y) (by simp [execOp, ho, hcv, asBool]) (h.ev y) hd hK
    · exact wp_val h (v := a.eval x) (by simp [execOp, ho, hcv, asBool]) (h.ev x) hd hK
  · rename_i t x ho
    obtain ⟨τ, y, ht, hy, rfl⟩ := hp
    obtain ⟨u, hu, hr⟩ := run_load_sh h ht (h.ev x) hy
    exact wp_val h (r := .v y) (run_vals (s := Instr.loadAt t (a.eval x)) (by simp only [execOp, ho]) hu) hr hd hK
  · rename_i op t x y ty ho
    rcases hp with ⟨s, hs, rfl⟩ | ⟨p, he, hp⟩
    · obtain ⟨v, hv, hr⟩ := run_sBin (P := P) (w := w) hs (h.ev x) (h.ev y) t x y
      exact wp_val h (r := .v (.one s)) (run_vals (s := do eqGuard op t x y (a.eval x) (a.eval y); binOp op t (a.eval x) (a.eval y)) (by simp only [execOp, ho]) hv) hr hd hK
    · have hxv := h.ev x
      have hyv := h.ev y
      generalize hX : a.eval x = X at hxv
      generalize hY : a.eval y = Y at hyv
      have hrun := fun op' ho' => run_sEqP (P := P) (w := w) hxv hyv he op' ho' x y
      rcases hp with ⟨rfl, rfl⟩ | ⟨rfl, rfl⟩
      · exact wp_val h (r := B p) (run_vals (s := do eqGuard .eql t x y (a.eval x) (a.eval y); binOp .eql t (a.eval x) (a.eval y)) (by simp only [execOp, ho]) (by rw [hX, hY]; exact hrun .eql (Or.inl rfl))) (R1.c (.bool _)) hd hK
      · exact wp_val h (r := B (!p)) (run_vals (s := do eqGuard .neq t x y (a.eval x) (a.eval y); binOp .neq t (a.eval x) (a.eval y)) (by simp only [execOp, ho]) (by rw [hX, hY]; exact hrun .neq (Or.inr rfl))) (R1.c (.bool _)) hd hK
  · rename_i op t x ho
    obtain ⟨s, hs, rfl⟩ := hp
    obtain ⟨v, hv, hr⟩ := run_sUn (P := P) (w := w) hs (h.ev x)
    exact wp_val h (r := .v (.one s)) (run_vals (s := Op.unary op (a.eval x)) (by simp only [execOp, ho]) hv) hr hd hK
  · rename_i src t x ho
    rcases hp with hp | hp
    case inr =>
      obtain ⟨τ, τs, τe, e, fr, n, hts, hks, hte, hke, ht, hk, hx, rfl⟩ := hp
      obtain ⟨i, d, g1, g2, g3, g4, g5, _⟩ := tyOf_some ht
      obtain ⟨is, ds, _, hu, _, _, gs, _⟩ := tyOf_some hts
      obtain ⟨ie, de, _, hue, _, _, ge, _⟩ := tyOf_some hte
      rw [hk] at g5
      rw [hks] at gs
      rw [hke] at ge
      have hdd : d = .string := by cases d <;> simp [kindOf] at g5; rfl
      have hds : ds = .slice e := by cases ds <;> simp [kindOf] at gs; rw [gs.1]
      have hde : de = .int .u8 := by cases de <;> simp [kindOf] at ge; rw [ge]
      subst hdd; subst hds; subst hde
      have hv := h.ev x
      rw [hx] at hv
      have hv := R1.c0 hv rfl
      generalize hge : a.eval x = V at hv
      cases hv with
      | sl _ _ _ b off cap f hcap hlen hok hrow hcell hr =>
        have hc0 := hcell 0 _ rfl 0 _ rfl
        have hr0 := hr 0 _ rfl 0 _ rfl
        generalize hf : f 0 0 = fv at hc0 hr0
        cases hr0
        refine wp_val h (r := .v (.one (.str (ByteArray.empty.push (UInt8.ofNat n.toNat))))) (run_vals (s := convert src t (a.eval x)) (by simp only [execOp, ho]) (v := .string (ByteArray.empty.push (UInt8.ofNat n.toNat))) ?_) (R1.c (.str _)) hd hK
        rw [hge]
        have hl : (loadCells ⟨b, off, none⟩ 1).run P w = .ok #[.int .u8 n] w := by
          have := run_loadCells_list (P := P) w ⟨b, off, none⟩ [.int .u8 n] (fun j v hj => by
            cases j with
            | zero =>
              simp at hj; subst hj
              have hc1 : w.cell? ⟨b, off, none⟩ = some (.int .u8 n) := by simpa using hc0
              exact hc1
            | succ j => simp at hj)
          simpa using this
        simp only [convert, Sem.run_bind, underlying, run_program, Result.andThen_ok, hu, hue, g2, Sem.run_pure]
        simp [Conv.bytesToString, hl]
    obtain ⟨τ, τs, k, k', n, hts, ht, hk, hx, rfl⟩ := hp
    obtain ⟨i, d, g1, g2, g3, g4, g5, _⟩ := tyOf_some ht
    obtain ⟨is, ds, _, hu, _⟩ := tyOf_some hts
    rw [hk] at g5
    have hdd : d = .int k := by cases d <;> simp [kindOf] at g5; rw [g5]
    subst hdd
    have hxv := h.int hx
    exact wp_val h (r := .v (.one (.int k (k.wrap n)))) (v := .int k (k.wrap n)) (run_vals (s := convert src t (a.eval x)) (by simp only [execOp, ho]) (by
      rw [hxv]
      unfold convert
      simp only [Sem.run_bind, underlying, run_program, Result.andThen_ok, hu, g2, Sem.run_pure]
      cases ds <;> rfl)) (R1.c (.int _ _)) hd hK
  · rename_i t x f ho
    obtain ⟨τ, s, ht, hs, rfl⟩ := hp
    obtain ⟨u, hu, hr⟩ := run_fieldAddr_sh (P := P) (w := w) ht (h.ev x) hs
    exact wp_val h (r := .v (.one s)) (run_vals (s := Instr.fieldAt t (a.eval x) f) (by simp only [execOp, ho]) hu) hr hd hK
  · rename_i t x i ho
    obtain ⟨τ, k, n, m, s, ht, hi, hs, ⟨h0, h1⟩, rfl⟩ := hp
    obtain ⟨u, hu, hr⟩ := run_indexAddr_sh (P := P) (w := w) (k := k) ht (h.ev x) hs h0 h1
    have hiv := h.int hi
    exact wp_val h (r := .v (.one s)) (run_vals (s := Instr.indexAt t (a.eval x) (a.eval i)) (by simp only [execOp, ho]) (by rw [hiv]; exact hu)) hr hd hK
  · rename_i t x lo hi mx ho
    obtain ⟨τ, l, hh, m, n, s, ht, h1, h2, h3, hs, hc, rfl⟩ := hp
    obtain ⟨u, hu, hr⟩ := run_cut_sh h ht (h.ev x) hs hc (h.optInt h1) (h.optInt h2) (h.optInt h3)
    exact wp_val h (r := .v (.one s)) (run_vals (s := Instr.sliceAt t (a.eval x) (lo.map a.eval) (hi.map a.eval) (mx.map a.eval)) (by simp only [execOp, ho]) hu) hr hd hK
  · rename_i x i ho
    obtain ⟨l, y, hx, hl, rfl⟩ := hp
    have hv := h.ev x
    rw [hx] at hv
    obtain ⟨arr, ha, hsz, hget⟩ := hv
    obtain ⟨u, hu, hr⟩ := hget i y hl
    exact wp_val h (r := .v y) (v := u) (run_vals (s := Instr.extract (a.eval x) i) (by simp only [execOp, ho]) (by rw [ha]; simp [Instr.extract, hu])) hr hd hK
  · rename_i t x f ho
    obtain ⟨off, τ, l, y, hf, hx, hy, rfl⟩ := hp
    have hv := h.ev x
    rw [hx] at hv
    obtain ⟨u, hu, hr⟩ := run_field_sh (P := P) hf hv hy
    exact wp_val h (r := .v y) (run_vals (s := Instr.field t (a.eval x) f) (by simp only [execOp, ho]) hu) hr hd hK
  · rename_i t parts ho
    obtain ⟨τ, fs, cs, ht, hk, hz, hf, rfl⟩ := hp
    obtain ⟨u, hu, hr⟩ := run_build_sh h ht hk hz hf
    exact wp_val h (r := .v (.agg cs)) (run_vals (s := Instr.build t (parts.map fun (i, x) => (i, a.eval x))) (by simp only [execOp, ho]) hu) hr hd hK
  · rename_i t x i ho
    rcases hp with hp | hp
    case inr =>
      obtain ⟨l, k, n, y, hx, hi, hy, rfl⟩ := hp
      have hv := h.ev x
      rw [hx] at hv
      obtain ⟨u, hu, hr⟩ := run_item (P := P) (w := w) hy hv k
      exact wp_val h (r := .v y) (run_vals (s := Instr.index t (a.eval x) (a.eval i)) (by simp only [execOp, ho]) (by rw [h.int hi]; exact hu)) hr hd hK
    obtain ⟨τ, s, k, n, ht, hk, hx, hi, ⟨hn0, hn1⟩, rfl⟩ := hp
    obtain ⟨ti, d, g1, g2, g3, g4, g5, _⟩ := tyOf_some ht
    rw [hk] at g5
    have hdd : d = .string := by cases d <;> simp [kindOf] at g5; rfl
    subst hdd
    have hv := h.ev x
    rw [hx] at hv
    have hv := R1.c0 hv rfl
    generalize hge : a.eval x = V at hv
    cases hv
    have hsz : n.toNat < s.size := by omega
    have hb : s[n.toNat]? = some s[n.toNat] := by simp [hsz]
    have hby : byteAt s n = (s[n.toNat].toNat : Nat) := by simp only [byteAt, hb, Option.map_some, Option.getD_some]
    refine wp_val h (r := I .u8 (byteAt s n)) (run_vals (s := Instr.index t (a.eval x) (a.eval i)) (by simp only [execOp, ho]) (v := .int .u8 (byteAt s n)) ?_) (R1.c (.int _ _)) hd hK
    rw [hge, h.int hi, hby]
    simp [Instr.index, asIntOf, underlying, g2, hn0, hb]
  · rename_i x ho
    obtain ⟨s, hs, rfl⟩ := hp
    have hv := h.ev x
    unfold sPtr at hs
    split at hs
    · rename_i i off hx
      cases hs
      rw [hx] at hv
      generalize hge : a.eval x = V at hv
      have hv0 := hv
      cases hv with
      | c hv => cases hv
      | mp _ _ b cc hm => exact wp_val h (r := .v (.one (.mp i off))) (v := .pointer (some ⟨b, off, none⟩)) (by simp [execOp, ho, hge]) hv0 hd hK
    · rename_i fr cs hx
      cases hs
      rw [hx] at hv
      generalize hge : a.eval x = V at hv
      have hv0 := hv
      have hv := R1.c0 hv rfl
      cases hv with
      | rp _ _ b off f hok hc hr => exact wp_val h (r := .v (.one (.rp fr cs))) (v := .pointer (some ⟨b, off, none⟩)) (by simp [execOp, ho, hge]) hv0 hd hK
    · cases hs
  · rename_i fn first caps ho
    obtain ⟨f, ys, cs, rfl, rfl, hys, h1s, rfl⟩ := hp
    obtain ⟨hl, hargs⟩ := argsOf_spec (mu' := mu0) h hys
    have e := onesOf_eq h1s
    have hcl := argsOf_closed hys
    refine wp_val h (r := .v (.one (.fn f cs))) (v := .func (.func f) #[] (caps.map a.eval)) (by simp [execOp, ho, Instr.makeFunc]) (.c (.fn f cs _ ?_ (fun j s hj => ?_))) hd hK
    · rw [Array.size_map, ← Array.length_toList, hl, e, List.length_map]
    · obtain ⟨x, g1, g2⟩ := hargs j (.one s) (by rw [e, List.getElem?_map, hj]; rfl)
      rw [getD_args _ _ _ g1]
      exact R1.c0 g2 (hcl (.one s) (by rw [e]; exact List.mem_map_of_mem (List.mem_of_getElem? hj)))
  · rename_i c ho
    split at hp
    · rename_i f hc
      obtain ⟨ys, hys, hcall⟩ := hp
      obtain ⟨⟨fn, hf1, hf2, hf3⟩, hcall⟩ := hcall
      obtain ⟨hl, hargs⟩ := argsOf_spec (mu' := mu0) h hys
      have hcalls := hcall w (c.args.map a.eval) (okOf w0 ok0 σ mu w) (fun _ _ h => h.2.1) (by simpa using hl) (fun i x hi => by
        obtain ⟨y, g1, g2⟩ := hargs i x hi
        rw [getD_args _ _ _ g1]; exact g2)
      have hrun : (execOp a.eval o).run P w = .ok (.enter f (c.args.map a.eval)) w := by
        simp only [execOp, ho, resolve, hc, Act.eval, Deferred.ofValue, Sem.run_bind, Sem.run_pure, Result.andThen_ok, invoke, callFunc, run_program, hf1, hf2, hf3]
        simp
      unfold Oper.wp
      rw [hrun, Oper.upon_enter]
      refine hcalls.mono ?_
      rintro e w1 ⟨v, rfl, hv, hb⟩
      refine hK _ _ ⟨h.below.called hb, by rw [size_put, h.size], by rw [defers_put]; exact h.defers.step (.of_below hb), mu, (h.m.called h.below.size hb).put h.size o.dst hd v r (RT_widen h hv)⟩
    · rename_i t hc
      obtain ⟨f, cs, ys, hf, hys, hcall⟩ := hp
      obtain ⟨⟨fn, hf1, hf2, hf3⟩, hcall⟩ := hcall
      obtain ⟨hl, hargs⟩ := argsOf_spec (mu' := mu0) h hys
      have hfv := h.m.tmps t
      rw [hf] at hfv
      have hfv := R1.c0 hfv rfl
      generalize hge : a.tmps.getD t undef = V at hfv
      cases hfv with
      | fn _ _ arr hs hr =>
        have hlen : (c.args.map a.eval).size = ys.length := by rw [Array.size_map, ← Array.length_toList, hl]
        have hcalls := hcall w (c.args.map a.eval ++ arr) (okOf w0 ok0 σ mu w) (fun _ _ h => h.2.1) (by rw [Array.size_append, hlen, hs, List.length_append, List.length_map]) (fun i x hi => by
          by_cases hlt : i < ys.length
          · rw [List.getElem?_append_left hlt] at hi
            obtain ⟨y, g1, g2⟩ := hargs i x hi
            have : (c.args.map a.eval ++ arr).getD i undef = (c.args.map a.eval).getD i undef := by
              simp only [Array.getD_eq_getD_getElem?]; rw [Array.getElem?_append_left (by omega)]
            rw [this, getD_args _ _ _ g1]; exact g2
          · rw [List.getElem?_append_right (by omega), List.getElem?_map, Option.map_eq_some_iff] at hi
            obtain ⟨s, hs', rfl⟩ := hi
            have : (c.args.map a.eval ++ arr).getD i undef = arr.getD (i - ys.length) undef := by
              simp only [Array.getD_eq_getD_getElem?]; rw [Array.getElem?_append_right (by omega), hlen]
            rw [this]; exact .c (hr _ s hs'))
        have hrun : (execOp a.eval o).run P w = .ok (.enter f (c.args.map a.eval ++ arr)) w := by
          simp only [execOp, ho, resolve, hc, Act.eval, hge, Deferred.ofValue, Sem.run_bind, Sem.run_pure, Result.andThen_ok, invoke, callFunc, run_program, hf1, hf2, hf3]
          simp
        unfold Oper.wp
        rw [hrun, Oper.upon_enter]
        refine hcalls.mono ?_
        rintro e w1 ⟨v, rfl, hv, hb⟩
        refine hK _ _ ⟨h.below.called hb, by rw [size_put, h.size], by rw [defers_put]; exact h.defers.step (.of_below hb), mu, (h.m.called h.below.size hb).put h.size o.dst hd v r (RT_widen h hv)⟩
    · rename_i b hc
      obtain ⟨s, hs, rfl⟩ := hp
      have hres : ∀ v, (builtin b c.argTypes o.type (c.args.map fun | .const _ => true | _ => false) (c.args.map a.eval)).run P w = .ok (.value v) w → (execOp a.eval o).run P w = .ok (.value v) w := fun v hv => by
        simp only [execOp, ho, resolve, hc, Sem.run_bind, Sem.run_pure, Result.andThen_ok, invoke]
        exact hv
      unfold sBuiltin at hs
      split at hs
      · rename_i x t ts hargs htys
        have hca : c.args = #[x] := by apply Array.ext'; simpa using hargs
        have hct : c.argTypes[0]? = some t := by rw [← Array.getElem?_toList, htys]; rfl
        split at hs
        · rename_i e z hk
          rw [Option.map_eq_some_iff] at hk hs
          obtain ⟨τ, ht, hk⟩ := hk
          obtain ⟨n, hn, rfl⟩ := hs
          obtain ⟨ti, d, g1, g2, g3, g4, g5, _⟩ := tyOf_some ht
          rw [hk] at g5
          obtain ⟨rfl, _⟩ := slice_of g5
          obtain ⟨A, l, cp, hv, hl⟩ := run_len_sh (h.ev x) hn
          exact wp_val h (r := .v (.one (.int .i64 n))) (v := .int .i64 n) (hres _ (by simp [builtin, Builtin.len_, hca, hct, hv, underlying, g2, goInt, hl])) (R1.c (.int _ _)) hd hK
        · rename_i hk
          rw [Option.map_eq_some_iff] at hk hs
          obtain ⟨τ, ht, hk⟩ := hk
          obtain ⟨n, hn, rfl⟩ := hs
          obtain ⟨ti, d, g1, g2, g3, g4, g5, _⟩ := tyOf_some ht
          rw [hk] at g5
          have hdd : d = .string := by cases d <;> simp [kindOf] at g5; rfl
          subst hdd
          unfold sStrLen at hn
          split at hn
          · rename_i st hx
            cases hn
            have hv := h.ev x
            rw [hx] at hv
            have hv := R1.c0 hv rfl
            generalize hge : a.eval x = V at hv
            cases hv
            exact wp_val h (r := .v (.one (.int .i64 st.size))) (v := .int .i64 st.size) (hres _ (by simp [builtin, Builtin.len_, hca, hct, hge, underlying, g2, goInt])) (R1.c (.int _ _)) hd hK
          · cases hn
        · cases hs
      · rename_i x y hargs
        have hca : c.args = #[x, y] := by apply Array.ext'; simpa using hargs
        unfold sMinMax at hs
        split at hs
        · rename_i k m k' n hx hy
          split at hs
          · rename_i hkk
            subst hkk
            have hxv := h.int hx
            have hyv := h.int hy
            split at hs
            · cases hs
              exact wp_val h (r := .v (.one (.int k _))) (v := .int k (if n < m then n else m)) (hres _ (by simp [builtin, Builtin.min_, hca, hxv, hyv, Builtin.min2])) (R1.c (.int _ _)) hd hK
            · cases hs
              exact wp_val h (r := .v (.one (.int k _))) (v := .int k (if m < n then n else m)) (hres _ (by simp [builtin, Builtin.max_, hca, hxv, hyv, Builtin.max2])) (R1.c (.int _ _)) hd hK
            · cases hs
          · cases hs
        · cases hs
      · cases hs
    · cases hp
  · cases hp
end
end Go.Proofs.YtaljbebkooppiaaGreat.Sh

