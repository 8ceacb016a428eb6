/- A part of the proof: Sh25, Sh26, Sh27, Sh28, Sh29, Sh30 -/
import Derived.Test.YtaljbebkooppiaaGreatV7
set_option linter.unusedSimpArgs false
set_option linter.unusedVariables false
set_option linter.unusedSectionVars false
namespace Go.Proofs.YtaljbebkooppiaaGreat.Sh
open Go Go.RowKit
structure Turn (Z : Nat → Prop) (w w' : World) : Prop where
  os : w'.os = w.os
  tape : w'.tape = w.tape
  output : w'.output = w.output
  size : w.heap.size ≤ w'.heap.size
  blk : ∀ b : Nat, b < w.heap.size → ¬ Z b → w'.heap[b]? = w.heap[b]?
theorem Turn.refl (Z : Nat → Prop) (w : World) : Turn Z w w := ⟨rfl, rfl, rfl, Nat.le_refl _, fun _ _ _ => rfl⟩
section
variable {P : Program} {w w' : World} {w0 : W0} {ok0 : Bool → Nat → Prop} {N : Nat} {σ : SS} {a : Act} {mu : Nat → Option (Nat × Nat)}
structure Yields (P : Program) (v : Value) (args : List SV) (base : W0 → (Bool → Nat → Prop) → Prop) (C C1 C2 : Ctx) : Prop where
  st1 : ∀ w0 ok0, base w0 ok0 → Stable w0.Z C1
  st2 : ∀ w0 ok0, base w0 ok0 → Stable w0.Z C2
  go : ∀ (w0 : W0) (ok0 okW : Bool → Nat → Prop) (W : World) (vs : Array Value), base w0 ok0 → (∀ fr b, okW fr b → b < W.heap.size ∧ ¬ w0.Z b ∧ (ok0 fr b ∨ w0.heap.size ≤ b ∨ w0.X b)) → w0.heap.size ≤ W.heap.size → C W okW → vs.size = args.length →
    (∀ (i : Nat) (x : SV), args[i]? = some x → RV W mu0 okW (vs.getD i undef) x) →
    ∃ l, v = .func (.yield l) #[] #[] ∧ YieldAt Fence.wide 0 P l vs W fun e W' => Turn w0.Z W W' ∧
      ∀ okW' : Bool → Nat → Prop, (∀ fr b, okW fr b → okW' fr b) → (∀ fr b, W.heap.size ≤ b → b < W'.heap.size → okW' fr b) → (e = .returned (.bool true) ∧ C1 W' okW') ∨ (e = .returned (.bool false) ∧ C2 W' okW')
theorem fz1_x (σ : SS) (s : S1) : (σ.fz1 s).x = σ.x := by
  unfold SS.fz1
  split
  · split <;> rfl
  · split <;> rfl
  · rfl
theorem fzL_x (l : List S1) : ∀ σ : SS, (σ.fzL l).x = σ.x := by
  induction l with
  | nil => intro σ; rfl
  | cons s l ih => intro σ; exact (ih _).trans (fz1_x σ s)
theorem fzT_x (σ : SS) (x : ST) : (σ.fzT x).x = σ.x := by cases x <;> exact fzL_x _ _
theorem fzA_x' (l : List Operand) (σ1 : SS) : ∀ σ : SS, (l.foldl (fun s x => s.fzT (σ1.ev x)) σ).x = σ.x := by
  induction l with
  | nil => intro σ; rfl
  | cons x l ih => intro σ; exact (ih _).trans (fzT_x σ _)
theorem fzA_x (l : List Operand) (σ : SS) : (σ.fzA l).x = σ.x := fzA_x' l σ σ
theorem IM.turned (h : IM w0 ok0 N σ mu a w) (s : Turn w0.Z w w') {C : Ctx} (hst : Stable w0.Z C) (hC : C w' (okOf w0 ok0 σ mu w')) : IM w0 ok0 N (σ.wx { σ.x with ctx := C }) mu a w' := by
  have hnz : ∀ b, w0.heap.size ≤ b ∨ w0.X b → ¬ w0.Z b := fun b hb hz => by
    obtain ⟨z1, z2, _⟩ := h.m.ext.zed b hz
    rcases hb with hb | hb
    · omega
    · exact z2 hb
  have hsame : ∀ (b : Nat) (o : Go.Obj), w.heap[b]? = some o → ¬ w0.Z b → w'.heap[b]? = some o := fun b o ho hz => (s.blk b (Array.getElem?_eq_some_iff.1 ho).1 hz).trans ho
  have hok : ∀ fr b, okOf w0 ok0 σ mu w fr b → okOf w0 ok0 σ mu w' fr b := fun fr b ⟨h1, h2, h3⟩ => ⟨h1, Nat.lt_of_lt_of_le h2 s.size, h3⟩
  have hh : ∀ (fr : Bool) (b : Nat), okOf w0 ok0 σ mu w fr b → w'.heap[b]? = w.heap[b]? := fun fr b hb => s.blk b hb.2.1 (okOf.notZ h.m.ext.zed hb)
  refine ⟨⟨s.os.trans h.below.os, s.tape.trans h.below.tape, s.output.trans h.below.output, Nat.le_trans h.below.size s.size, fun k hk hx hz => (s.blk k (Nat.lt_of_lt_of_le hk h.below.size) hz).trans (h.below.block k hk hx hz)⟩, h.size,
    ⟨h.defers.1, fun d hd => by obtain ⟨r, h1, h2, h3⟩ := h.defers.2 d hd; exact ⟨r, h1, h2, hsame r _ h3 (hnz r (Or.inl h2))⟩⟩,
    fun t => RT.mono hok hh (fun _ _ h => h) (h.m.tmps t), fun o ob ho => ?_, h.m.inj, h.m.fresh, h.m.lent, ⟨fun p hp => ?_, h.m.ext.nodup, hC, hst, h.m.ext.base, h.m.ext.bst, h.m.ext.zed, fun l hl => ?_⟩⟩
  · obtain ⟨b, cur, g1, g2, g3, g4, g5⟩ := h.m.objs o ob ho
    refine ⟨b, cur, g1, g2, hsame b _ g3 (hnz b g2), g4, fun j s hj => ?_⟩
    obtain ⟨u, hu, hr⟩ := g5 j s hj
    exact ⟨u, hu, R1.mono hok hh (fun _ _ h => h) hr⟩
  · obtain ⟨g1, ents, clock, g2, g3⟩ := h.m.ext.maps p hp
    exact ⟨g1, ents, clock, hsame _ _ g2 (hnz _ (Or.inl g1)), g3⟩
  · obtain ⟨g1, r, g2⟩ := h.m.ext.rnd l hl
    exact ⟨g1, r, hsame _ _ g2 g1⟩
theorem roundIn_fw {ρ : Option Nat} {n l f : Nat} {tmps : Array Value} {assign body : Code} {R : Ending → World → Prop} (h : RoundIn Fence.wide n P l f tmps assign body w R) : RoundIn (Fw ρ) n P l f tmps assign body w R :=
  ⟨trivial, fun c cs _ => h.2 c cs (room_wide _)⟩
theorem spec_yield {d : Option Nat} {t : Nat} {as : Array Operand} {ts : Array Nat} {ty : Nat} {pos : String} {af : Array Edge} {g : Option (Nat × Bool)} {K : SS → Prop} {tk : Tok K} {v : Value} {args : List SV} {C1 C2 : Ctx}
    (hv : (σ.fzA as.toList).t t = .v (.one (.val v))) (hy : Yields P v args σ.x.base σ.x.ctx C1 C2) (ha : onO (argsOf (σ.fzA as.toList) as.toList) fun ys => subV ys args)
    (k1 : K (((σ.fzA as.toList).wx { σ.x with ctx := C1 }).put d (B true))) (k2 : K (((σ.fzA as.toList).wx { σ.x with ctx := C2 }).put d (B false))) : eS P σ ⟨d, .call ⟨.value (.tmp t), as, ts⟩, ty, pos, af, g⟩ K tk := by
  intro w0 ok0 N a w next Q hi hd hK
  have hx := fzA_x as.toList σ
  obtain ⟨ys, hys, hsub⟩ := onO_elim ha
  obtain ⟨mu, h⟩ := (Inv.fzA as.toList σ hi).im
  have h : IM w0 ok0 N (σ.fzA as.toList) mu a w := h
  generalize hσ : σ.fzA as.toList = σf at h hv hys k1 k2 hx
  have hvv : a.tmps.getD t undef = v := by
    have := h.m.tmps t
    rw [hv] at this
    have := R1.c0 this rfl
    generalize a.tmps.getD t undef = V at this
    cases this; rfl
  obtain ⟨hl, hargs⟩ := argsOf_spec (mu' := mu0) h hys
  obtain ⟨hsl, hs2⟩ := subV_spec hsub
  have hbase := h.m.ext.base
  have hctx := h.m.ext.ctx
  rw [hx] at hbase hctx
  obtain ⟨l, hvl, fn, tmps, assign, body, hrun, hround⟩ := hy.go w0 ok0 (okOf w0 ok0 σf mu w) w (as.map a.eval) hbase (fun fr b hb => ⟨hb.2.1, okOf.notZ h.m.ext.zed hb, hb.1⟩) h.below.size hctx (by rw [Array.size_map, ← Array.length_toList, hl, hsl]) (fun i x hi => by
    obtain ⟨y, hy1, hy2⟩ := hs2 i x hi
    obtain ⟨o, g1, g2⟩ := hargs i y hy1
    rw [getD_args _ _ _ g1]
    exact RV.sub g2 hy2)
  have hexec : (execOp a.eval ⟨d, .call ⟨.value (.tmp t), as, ts⟩, ty, pos, af, g⟩).run P w = .ok (.round l fn tmps assign body) w := by
    simp only [execOp, resolve, Act.eval, hvv, hvl, Deferred.ofValue, Sem.run_bind, Sem.run_pure, Result.andThen_ok, invoke]
    simpa using hrun
  refine ⟨fun _ _ => trivial, ?_⟩
  rw [show (Oper.semAt (Fw w0.rho).round a.eval ⟨d, .call ⟨.value (.tmp t), as, ts⟩, ty, pos, af, g⟩) = execOp a.eval ⟨d, .call ⟨.value (.tmp t), as, ts⟩, ty, pos, af, g⟩ from Oper.semAt_eq _ _ _ (fun c hc => by cases hc), hexec, Oper.uponIn_round]
  refine ⟨fun hh => (by cases hh), (roundIn_fw hround).mono ?_⟩
  rintro e W' ⟨hturn, hout⟩
  have hok1 : ∀ fr b, okOf w0 ok0 σf mu w fr b → okOf w0 ok0 σf mu W' fr b := fun fr b ⟨h1, h2, h3⟩ => ⟨h1, Nat.lt_of_lt_of_le h2 hturn.size, h3⟩
  have hok2 : ∀ fr b, w.heap.size ≤ b → b < W'.heap.size → okOf w0 ok0 σf mu W' fr b := fun fr b h1 h2 => ⟨Or.inr (Or.inl (Nat.le_trans h.below.size h1)), h2, fun o ob cc ho hm => by have := h.m.lt ho hm; omega⟩
  rcases hout (okOf w0 ok0 σf mu W') hok1 hok2 with ⟨rfl, hC⟩ | ⟨rfl, hC⟩
  · have h2 := h.turned hturn (hy.st1 w0 ok0 hbase) hC
    rw [hx] at h2
    exact hK _ _ _ k1 ⟨h2.below, by rw [size_put, h2.size], by rw [defers_put]; exact h2.defers, mu, h2.m.put h2.size d hd _ _ (R1.c (.bool _))⟩
  · have h2 := h.turned hturn (hy.st2 w0 ok0 hbase) hC
    rw [hx] at h2
    exact hK _ _ _ k2 ⟨h2.below, by rw [size_put, h2.size], by rw [defers_put]; exact h2.defers, mu, h2.m.put h2.size d hd _ _ (R1.c (.bool _))⟩
def baseOf (B : Nat → Prop) (ok : Bool → Nat → Prop) (n0 : Nat) : W0 → (Bool → Nat → Prop) → Prop := fun w0 ok0 => w0.Z = B ∧ n0 ≤ w0.heap.size ∧ (∀ fr b, ok0 fr b → ok fr b ∨ n0 ≤ b) ∧ (∀ b, w0.X b → n0 ≤ b)
theorem baseOf_stable (B : Nat → Prop) (ok : Bool → Nat → Prop) (n0 : Nat) : BStable (baseOf B ok n0) := fun w0 w1 ok0 ok1 ⟨h1, h2, h3, h4⟩ hz hs hk hx =>
  ⟨hz.trans h1, Nat.le_trans h2 hs, fun fr b hb => by
    rcases hk fr b hb with h | h | h
    · exact h3 fr b h
    · exact Or.inr (by omega)
    · exact Or.inr (h4 b h), fun b hb => by
    rcases hx b hb with h | h
    · omega
    · exact h4 b h⟩
structure IterS (P : Program) (f : Nat) (caps : List S1) (items : List (List SV)) : Prop where
  fn : isFn P f
  go : ∀ (v : Value) (J : List (List SV) → Ctx) (S : Ctx) (B : Nat → Prop) (w : World) (ok : Bool → Nat → Prop) (vals : Array Value), v.oneCell' = true → (∀ b, B b → b < w.heap.size) → (∀ fr b, ok fr b → b < w.heap.size ∧ ¬ B b) →
    (∀ pre args, pre ++ [args] <+: items → Yields P v args (baseOf B ok w.heap.size) (J pre) (J (pre ++ [args])) S) → Stable B (J []) → J [] w ok → vals.size = caps.length → (∀ (i : Nat) (s : S1), caps[i]? = some s → R0 w ok (vals.getD i undef) s) →
    Calls P f (#[v] ++ vals) w fun e w' => (∃ u, e = .returned u) ∧ Turn B w w' ∧ ∃ ok' : Bool → Nat → Prop, (∀ fr b, ok' fr b → b < w'.heap.size ∧ ¬ B b ∧ (ok fr b ∨ w.heap.size ≤ b)) ∧ (J items w' ok' ∨ S w' ok')
def IterEnd (C S : Ctx) (e : Exit) (σ : SS) : Prop := (e = .normal ∨ e = .ret) ∧ (σ.x.ctx = C ∨ σ.x.ctx = S)
@[simp] theorem IterEnd_normal (C S : Ctx) : IterEnd C S .normal σ = (σ.x.ctx = C ∨ σ.x.ctx = S) := by simp [IterEnd]
@[simp] theorem IterEnd_ret (C S : Ctx) : IterEnd C S .ret σ = (σ.x.ctx = C ∨ σ.x.ctx = S) := by simp [IterEnd]
theorem Kept.grow0 {Z : Nat → Prop} {n0 : Nat} {ok : Bool → Nat → Prop} (k : Kept n0 w w') (hz : ∀ b, Z b → b < n0) : Grow0 Z w w' ok ok :=
  ⟨k.os, k.tape, k.output, Nat.le_of_eq k.size.symm, fun _ _ h => h, fun _ _ _ a v _ hv => k.cell a v hv, fun b hb => k.old b (hz b hb)⟩
theorem iterS {f : Nat} {fn : Func} {c : Code} {caps : List S1} {items : List (List SV)} (hf : P.funcs[f]? = some fn) (hb : fn.body = some c) (hname : (fn.name == "runtime.NumGoroutine") = false) (hN : decide (caps.length + 1 ≤ fn.ntmps) = true) (hres : fn.results = #[]) (hc : codeOK fn.ntmps c = true)
    (h : ∀ (v : Value) (J : List (List SV) → Ctx) (S : Ctx) (base : W0 → (Bool → Nat → Prop) → Prop), (∀ pre args, pre ++ [args] <+: items → Yields P v args base (J pre) (J (pre ++ [args])) S) →
      eC P fn.ntmps c (IterEnd (J items) S) ((SS.of (argList (.one (.val v) :: caps.map SV.one) 0) [] 0).wx ⟨[], J [], base⟩)) : IterS P f caps items := by
  have hN' := of_decide_eq_true hN
  refine ⟨⟨fn, hf, hname, by rw [hb]; rfl⟩, fun v J S B w ok vals hv1 hB hok hy hst h0 hlen hcaps => ?_⟩
  refine calls_of_sh hf hb ?_
  have hsz : (#[v] ++ vals).size = caps.length + 1 := by rw [Array.size_append, hlen]; simp; omega
  let w0 : W0 := ⟨w, mu0, B, none⟩
  let σ0 : SS := (SS.of (argList (.one (.val v) :: caps.map SV.one) 0) [] 0).wx ⟨[], J [], baseOf B ok w.heap.size⟩
  have hokk : ∀ fr b, ok fr b → okOf w0 ok σ0 mu0 w fr b := fun fr b h => ⟨Or.inl h, (hok fr b h).1, fun o ob cc ho => by cases ho⟩
  have hnX : ∀ b, ¬ w0.X b := fun b ⟨_, _, h⟩ => by cases h
  have hinv : Inv w0 ok fn.ntmps σ0 { tmps := (#[v] ++ vals) ++ Array.replicate (fn.ntmps - (#[v] ++ vals).size) undef, defers := [] } w := by
    refine ⟨⟨rfl, rfl, rfl, Nat.le_refl _, fun _ _ _ _ => rfl⟩, by rw [Array.size_append, hsz]; simp; omega, DefOK.nil _ _, mu0, fun t => ?_, fun o ob ho => (by cases ho), fun o o' ob ob' b c c' h1 => (by cases h1), fun o _ => ⟨rfl, rfl⟩, fun o p h => h, ⟨fun p hp => (by cases hp), .nil, ?_, hst, ⟨rfl, Nat.le_refl _, fun fr b h => Or.inl h, fun b hb => absurd hb (hnX b)⟩, baseOf_stable _ _ _, fun b hb => ⟨hB b hb, hnX b, fun fr h => (hok fr b h).2 hb⟩, fun l hl => (by cases hl)⟩⟩
    · show RT w mu0 _ _ (lookT (argList (.one (.val v) :: caps.map SV.one) 0) t)
      rw [look_args, if_pos (Nat.zero_le _), Nat.sub_zero]
      cases hx : (SV.one (.val v) :: caps.map SV.one)[t]? with
      | none => exact RT.any _
      | some x =>
        have htl := (List.getElem?_eq_some_iff.1 hx).1
        simp only [List.length_cons, List.length_map] at htl
        have e : ((#[v] ++ vals) ++ Array.replicate (fn.ntmps - (#[v] ++ vals).size) undef).getD t undef = (#[v] ++ vals).getD t undef := by
          simp only [Array.getD_eq_getD_getElem?]
          rw [Array.getElem?_append_left (by omega)]
        rw [e]
        cases t with
        | zero =>
          simp at hx; subst hx
          have : (#[v] ++ vals).getD 0 undef = v := by simp only [Array.getD_eq_getD_getElem?]; rw [Array.getElem?_append_left (by simp)]; rfl
          rw [this]; exact R1.c (.val v hv1)
        | succ t =>
          simp only [List.getElem?_cons_succ, List.getElem?_map, Option.map_eq_some_iff] at hx
          obtain ⟨s, hs, rfl⟩ := hx
          have : (#[v] ++ vals).getD (t + 1) undef = vals.getD t undef := by
            simp only [Array.getD_eq_getD_getElem?]; rw [Array.getElem?_append_right (by simp)]; simp
          rw [this]
          exact R1.c (R0.mono hokk (fun _ _ _ => rfl) (hcaps t s hs))
    · exact hst _ _ _ _ h0 ⟨rfl, rfl, rfl, Nat.le_refl _, hokk, fun _ _ _ _ _ _ hv => hv, fun _ _ => rfl⟩
  refine wpIn_mono (eC_sound c _ _ hc (h v J S (baseOf B ok w.heap.size) hy) w0 ok _ w hinv) ?_
  rintro e a' w' ⟨σ, ⟨he, hend⟩, hi⟩
  obtain ⟨mu, him⟩ := hi.im
  have fin : LeavesInM Fence.wide 0 P fn a'.tmps (fun e w' => (∃ u, e = .returned u) ∧ Turn B w w' ∧ ∃ ok' : Bool → Nat → Prop, (∀ fr b, ok' fr b → b < w'.heap.size ∧ ¬ B b ∧ (ok fr b ∨ w.heap.size ≤ b)) ∧ (J items w' ok' ∨ S w' ok')) a'.defers .returning w' := by
    refine leaves_marks a'.defers w' him.defers fun w2 hk => ?_
    have hbel : Bel w0 w2 := hk.bel him.below
    have hctx : σ.x.ctx w2 (okOf w0 ok σ mu w') := him.m.ext.st _ _ _ _ him.m.ext.ctx (hk.grow0 (fun b hb => hB b hb))
    refine ⟨.tuple #[], by simp [results, hres, Sem.run_bind], ⟨_, rfl⟩, ⟨hbel.os, hbel.tape, hbel.output, hbel.size, fun b hb hz => hbel.block b hb (hnX b) hz⟩, okOf w0 ok σ mu w', fun fr b hb => ⟨by rw [hk.size]; exact hb.2.1, okOf.notZ him.m.ext.zed hb, ?_⟩, ?_⟩
    · rcases hb.1 with h | h | h
      · exact Or.inl h
      · exact Or.inr h
      · exact absurd h (hnX b)
    · rcases hend with h | h
      · rw [h] at hctx; exact Or.inl hctx
      · rw [h] at hctx; exact Or.inr hctx
  rcases he with rfl | rfl
  · exact fin
  · exact fin
end
end Go.Proofs.YtaljbebkooppiaaGreat.Sh

namespace Go.Proofs.YtaljbebkooppiaaGreat.Sh
open Go Go.RowKit
def putPs : List Nat → List SV → SS → SS
  | p :: ps, x :: xs, σ => putPs ps xs (σ.put (some p) (.v x))
  | _, _, σ => σ
@[simp] theorem putPs_nil (xs : List SV) (σ : SS) : putPs [] xs σ = σ := by cases xs <;> rfl
@[simp] theorem putPs_nil' (ps : List Nat) (σ : SS) : putPs ps [] σ = σ := by cases ps <;> rfl
@[simp] theorem putPs_cons (p : Nat) (ps : List Nat) (x : SV) (xs : List SV) (σ : SS) : putPs (p :: ps) (x :: xs) σ = putPs ps xs (σ.put (some p) (.v x)) := rfl
def clL (σ : SS) : List Nat → Prop
  | [] => True
  | o :: l => (onO (σ.objs o) fun ob => ob.cells.all S1.closed = true) ∧ clL σ l
@[simp] theorem clL_nil (σ : SS) : clL σ [] = True := rfl
@[simp] theorem clL_cons (σ : SS) (o : Nat) (l : List Nat) : clL σ (o :: l) = ((onO (σ.objs o) fun ob => ob.cells.all S1.closed = true) ∧ clL σ l) := rfl
theorem clL_spec {σ : SS} : ∀ {L : List Nat}, clL σ L → ∀ o ∈ L, ∃ ob, σ.objs o = some ob ∧ ∀ s ∈ ob.cells, s.closed = true
  | [], _, _, h => by cases h
  | o :: l, ⟨h1, h2⟩, o', ho => by
    rcases List.mem_cons.1 ho with rfl | ho
    · obtain ⟨ob, g1, g2⟩ := onO_elim h1
      exact ⟨ob, g1, fun s hs => List.all_eq_true.1 g2 s hs⟩
    · exact clL_spec h2 o' ho
def leL (σ nxt : SS) : List Nat → Prop
  | [] => True
  | o :: l => (onO (σ.objs o) fun ob => onO (nxt.objs o) fun ob' => ob.ty = ob'.ty ∧ subL ob.cells ob'.cells) ∧ leL σ nxt l
@[simp] theorem leL_nil (σ nxt : SS) : leL σ nxt [] = True := rfl
@[simp] theorem leL_cons (σ nxt : SS) (o : Nat) (l : List Nat) : leL σ nxt (o :: l) = ((onO (σ.objs o) fun ob => onO (nxt.objs o) fun ob' => ob.ty = ob'.ty ∧ subL ob.cells ob'.cells) ∧ leL σ nxt l) := rfl
theorem leL_spec {σ nxt : SS} : ∀ {L : List Nat}, leL σ nxt L → ∀ o ∈ L, ∃ ob ob', σ.objs o = some ob ∧ nxt.objs o = some ob' ∧ ob.ty = ob'.ty ∧ subL ob.cells ob'.cells
  | [], _, _, h => by cases h
  | o :: l, ⟨h1, h2⟩, o', ho => by
    rcases List.mem_cons.1 ho with rfl | ho
    · obtain ⟨ob, g1, g2⟩ := onO_elim h1
      obtain ⟨ob', g3, g4⟩ := onO_elim g2
      exact ⟨ob, ob', g1, g3, g4⟩
    · exact leL_spec h2 o' ho
def back (L : List Nat) (σ0 σ' : SS) : SS := ⟨σ0.t, fun o => if o ∈ L then σ'.objs o else none, σ0.n, ⟨[], σ'.x.ctx, σ0.x.base⟩⟩
@[simp] theorem back_t (L : List Nat) (σ0 σ' : SS) (i : Nat) : (back L σ0 σ').t i = σ0.t i := rfl
@[simp] theorem back_objs (L : List Nat) (σ0 σ' : SS) (o : Nat) : (back L σ0 σ').objs o = if o ∈ L then σ'.objs o else none := rfl
@[simp] theorem back_n (L : List Nat) (σ0 σ' : SS) : (back L σ0 σ').n = σ0.n := rfl
@[simp] theorem back_x (L : List Nat) (σ0 σ' : SS) : (back L σ0 σ').x = ⟨[], σ'.x.ctx, σ0.x.base⟩ := rfl
def roundQ (L : List Nat) (σ0 nxt : SS) (Q : Exit → SS → Prop) (_t : Tok nxt := ⟨⟩) (_t2 : Tok Q := ⟨⟩) : Exit → SS → Prop
  | .normal, σ' => leL σ' nxt L ∧ σ'.x.ctx = nxt.x.ctx
  | .ret, σ' => clL σ' L ∧ Q .ret (back L σ0 σ')
  | .exit id, σ' => clL σ' L ∧ Q (.exit id) (back L σ0 σ')
  | _, _ => False
@[simp] theorem roundQ_normal (L : List Nat) (σ0 nxt σ' : SS) (Q : Exit → SS → Prop) (t : Tok nxt) (t2 : Tok Q) : roundQ L σ0 nxt Q t t2 .normal σ' = (leL σ' nxt L ∧ σ'.x.ctx = nxt.x.ctx) := rfl
@[simp] theorem roundQ_ret (L : List Nat) (σ0 nxt σ' : SS) (Q : Exit → SS → Prop) (t : Tok nxt) (t2 : Tok Q) : roundQ L σ0 nxt Q t t2 .ret σ' = (clL σ' L ∧ Q .ret (back L σ0 σ')) := rfl
@[simp] theorem roundQ_exit (L : List Nat) (σ0 nxt σ' : SS) (Q : Exit → SS → Prop) (t : Tok nxt) (t2 : Tok Q) (id : Nat) : roundQ L σ0 nxt Q t t2 (.exit id) σ' = (clL σ' L ∧ Q (.exit id) (back L σ0 σ')) := rfl
def thenB (K : SS → Prop) : Exit → SS → Prop
  | .normal, σ => K σ
  | _, _ => False
@[simp] theorem thenB_normal (K : SS → Prop) (σ : SS) : thenB K .normal σ = K σ := rfl
section
variable {P : Program} {w w' : World} {w0 : W0} {ok0 : Bool → Nat → Prop} {N : Nat} {σ : SS} {a : Act} {mu : Nat → Option (Nat × Nat)}
theorem InvM.putPs (hs : a.tmps.size = N) : ∀ (ps : List Nat) (xs : List SV) (vs : List Value) {σ : SS} {a : Act}, InvM w0 ok0 σ mu a w → a.tmps.size = N → (∀ p ∈ ps, p < N) → vs.length = xs.length →
    (∀ (i : Nat) (x : SV), xs[i]? = some x → RV w mu (okOf w0 ok0 σ mu w) (vs.getD i undef) x) → InvM w0 ok0 (putPs ps xs σ) mu { a with tmps := (ps.zip vs).foldl (fun t (p : Nat × Value) => t.setIfInBounds p.1 p.2) a.tmps } w
  | [], xs, vs, σ, a, h, _, _, _, _ => by simpa using h
  | p :: ps, [], [], σ, a, h, _, _, _, _ => by simpa using h
  | p :: ps, [], v :: vs, σ, a, _, _, _, hl, _ => by simp at hl
  | p :: ps, x :: xs, [], σ, a, _, _, _, hl, _ => by simp at hl
  | p :: ps, x :: xs, v :: vs, σ, a, h, hsz, hp, hl, hv => by
    have h1 := h.put hsz (some p) (fun i e => by cases e; exact hp p (List.mem_cons_self ..)) v (.v x) (by show RV w mu (okOf w0 ok0 σ mu w) v x; simpa using hv 0 x rfl)
    have h2 := InvM.putPs hs ps xs vs h1 (by rw [size_put]; exact hsz) (fun q hq => hp q (List.mem_cons_of_mem _ hq)) (by simpa using hl) (fun i y hi => by
      have := hv (i + 1) y (by simpa using hi)
      show RV w mu (okOf w0 ok0 σ mu w) _ y
      simpa using this)
    simpa [Act.put] using h2
theorem IM.putRec (h : IM w0 ok0 N σ mu a w) {l : Nat} {o1 o2 o' : Go.Obj} (h0 : w0.heap[l]? = some o1) (h1 : w.heap[l]? = some o2) (hc : isCells o2 = false) (hm : isMap o2 = false) (hl : (∃ r, o2 = .loop r) ∧ ∃ r, o' = .loop r) (hz : ¬ w0.Z l) (hx : ¬ w0.X l) (hk : ∀ fr, ¬ ok0 fr l) :
    IM { w0 with toWorld := w0.toWorld.putObj l o' } ok0 N σ mu a (w.putObj l o') := by
  have hlt : l < w0.heap.size := (Array.getElem?_eq_some_iff.1 h0).1
  have hlt' : l < w.heap.size := (Array.getElem?_eq_some_iff.1 h1).1
  have hsz0 : (w0.toWorld.putObj l o').heap.size = w0.heap.size := by simp
  have hsz : (w.putObj l o').heap.size = w.heap.size := by simp
  have hoth : ∀ b : Nat, b ≠ l → (w.putObj l o').heap[b]? = w.heap[b]? := fun b hb => World.putObj_heap_other hb
  have hnl : ∀ (b : Nat) (o : Go.Obj), w.heap[b]? = some o → (∀ r, o ≠ .loop r) → (w.putObj l o').heap[b]? = some o := fun b o ho hne => (hoth b (by
    rintro rfl
    rw [h1] at ho; cases ho
    obtain ⟨r, hr⟩ := hl.1
    exact hne r hr)).trans ho
  have hX : ∀ b, ({ w0 with toWorld := w0.toWorld.putObj l o' } : W0).X b ↔ w0.X b := fun b => Iff.rfl
  have hokl : ∀ fr b, okOf w0 ok0 σ mu w fr b → b ≠ l := by
    rintro fr b ⟨g1, _, _⟩ rfl
    rcases g1 with g | g | g
    · exact hk fr g
    · omega
    · exact hx g
  have hok : ∀ fr b, okOf w0 ok0 σ mu w fr b → okOf { w0 with toWorld := w0.toWorld.putObj l o' } ok0 σ mu (w.putObj l o') fr b := fun fr b ⟨g1, g2, g3⟩ => ⟨by
    rcases g1 with g | g | g
    · exact Or.inl g
    · exact Or.inr (Or.inl (by rw [hsz0]; exact g))
    · exact Or.inr (Or.inr g), by rw [hsz]; exact g2, g3⟩
  have hh : ∀ (fr : Bool) (b : Nat), okOf w0 ok0 σ mu w fr b → (w.putObj l o').heap[b]? = w.heap[b]? := fun fr b hb => hoth b (hokl fr b hb)
  refine ⟨⟨h.below.os, h.below.tape, h.below.output, by rw [hsz, hsz0]; exact h.below.size, fun b hb hx' hz' => ?_⟩, h.size, ⟨h.defers.1, fun d hd => ?_⟩, fun t => RT.mono hok hh (fun _ _ h => h) (h.m.tmps t), fun o ob ho => ?_, h.m.inj, h.m.fresh, h.m.lent,
    ⟨fun p hp => ?_, h.m.ext.nodup, ?_, h.m.ext.st, h.m.ext.bst _ _ _ _ h.m.ext.base rfl (Nat.le_of_eq hsz0.symm) (fun _ _ h => Or.inl h) (fun b hb => Or.inr hb), h.m.ext.bst, fun b hb => ?_, fun l' hl' => ?_⟩⟩
  · by_cases e : b = l
    · subst e
      show (w.putObj b o').heap[b]? = (w0.toWorld.putObj b o').heap[b]?
      rw [World.putObj_heap_same hlt', World.putObj_heap_same hlt]
    · show (w.putObj l o').heap[b]? = (w0.toWorld.putObj l o').heap[b]?
      rw [hoth b e, World.putObj_heap_other e]
      exact h.below.block b (by rw [hsz0] at hb; exact hb) hx' hz'
  · obtain ⟨r, g1, g2, g3⟩ := h.defers.2 d hd
    exact ⟨r, g1, by rw [hsz0]; exact g2, hnl r _ g3 (fun _ => by simp)⟩
  · obtain ⟨b, cur, g1, g2, g3, g4, g5⟩ := h.m.objs o ob ho
    refine ⟨b, cur, g1, by rw [hsz0]; exact g2, hnl b _ g3 (fun _ => by simp), g4, fun j s hj => ?_⟩
    obtain ⟨u, hu, hr⟩ := g5 j s hj
    exact ⟨u, hu, R1.mono hok hh (fun _ _ h => h) hr⟩
  · obtain ⟨g1, ents, clock, g2, g3⟩ := h.m.ext.maps p hp
    exact ⟨by rw [hsz0]; exact g1, ents, clock, hnl _ _ g2 (fun _ => by simp), g3⟩
  · exact h.m.ext.st _ _ _ _ h.m.ext.ctx ⟨rfl, rfl, rfl, Nat.le_of_eq hsz.symm, hok, cellsKept hh, fun b hb => hoth b (by rintro rfl; exact hz hb)⟩
  · obtain ⟨g1, g2, g3⟩ := h.m.ext.zed b hb
    exact ⟨by rw [hsz0]; exact g1, g2, g3⟩
  · obtain ⟨g1, r, g2⟩ := h.m.ext.rnd l' hl'
    refine ⟨g1, ?_⟩
    by_cases e : l' = l
    · subst e
      obtain ⟨r', hr'⟩ := hl.2
      exact ⟨r', by rw [World.putObj_heap_same hlt', hr']⟩
    · exact ⟨r, (hoth l' e).trans g2⟩
structure Core (L : List Nat) (mu : Nat → Option (Nat × Nat)) (σ : SS) (W : World) (K : Bool → Nat → Prop) : Prop where
  objs : ∀ o ∈ L, ∃ ob, σ.objs o = some ob ∧ ∃ b cur, mu o = some (b, cur.size) ∧ W.heap[b]? = some (.cells cur ob.ty (0, 0)) ∧ ob.cells.length ≤ cur.size ∧ ∀ (j : Nat) (s : S1), ob.cells[j]? = some s → s.closed = true ∧ ∃ u, cur[j]? = some u ∧ R0 W K u s
  ctx : σ.x.ctx W K
theorem R0.grow {Z : Nat → Prop} {K K' : Bool → Nat → Prop} (g : Grow0 Z w w' K K') {v : Value} {s : S1} (h : R0 w K v s) : R0 w' K' v s := h.monoC g.gok g.heap
theorem RT.grow {Z : Nat → Prop} {K K' : Bool → Nat → Prop} (g : Grow0 Z w w' K K') {v : Value} {x : ST} (h : RT w mu K v x) : RT w' mu K' v x := RT.monoC g.gok g.heap (fun _ _ h => h) h
theorem Core.step {L : List Nat} {B Z : Nat → Prop} {K K' : Bool → Nat → Prop} (h : Core L mu σ w K) (g : Grow0 B w w' K K') (hB : ∀ o ∈ L, ∀ b cc, mu o = some (b, cc) → B b) (hZ : ∀ b, Z b → B b) (hst : Stable Z σ.x.ctx) : Core L mu σ w' K' := by
  refine ⟨fun o ho => ?_, hst _ _ _ _ h.ctx ⟨g.os, g.tape, g.output, g.size, g.gok, g.heap, fun b hb => g.z b (hZ b hb)⟩⟩
  obtain ⟨ob, h1, b, cur, h2, h3, h4, h5⟩ := h.objs o ho
  refine ⟨ob, h1, b, cur, h2, (g.z b (hB o ho b _ h2)).trans h3, h4, fun j s hj => ?_⟩
  obtain ⟨k1, u, k2, k3⟩ := h5 j s hj
  exact ⟨k1, u, k2, k3.grow g⟩
theorem run_enter {ρ : Option Nat} (hr : ∀ l : Nat, ρ = some l → ∃ r, w.heap[l]? = some (.loop r)) (fn : Nat) (tmps : Array Value) (ps : Array Tmp) (assign body : Code) :
    ∃ (l : Nat) (mark : List Deferred) (W1 : World) (dfr : Nat), (Instr.enterLoop fn tmps ps assign body ρ).run P w = .ok (l, mark) W1 ∧
      W1.heap[l]? = some (.loop { state := .ready, pending := none, fn, tmps, params := ps, assign, body, defers := dfr }) ∧ w.heap.size ≤ l ∧ Below w.heap.size w W1 ∧
      (mark = [] ∨ ∃ r, mark = [{ target := .collected r, args := #[] }] ∧ w.heap.size ≤ r ∧ r ≠ l ∧ W1.heap[r]? = some (.deferred (some []))) := by
  cases ρ with
  | none =>
    refine ⟨w.heap.size + 1, _, _, w.heap.size, run_enterLoop_outer fn tmps ps assign body, ?_, by omega, ((Below.refl _ w).alloc (Nat.le_refl _) _).alloc (by simp) _, Or.inr ⟨w.heap.size, rfl, Nat.le_refl _, by omega, ?_⟩⟩
    · have := World.alloc_heap_new (w.alloc (.deferred (some []))) (.loop { state := .ready, pending := none, fn, tmps, params := ps, assign, body, defers := w.heap.size })
      rwa [World.size_alloc] at this
    · exact (Below.heap_alloc _ _ _ (by simp)).trans (World.alloc_heap_new w _)
  | some l0 =>
    obtain ⟨r, hr⟩ := hr l0 rfl
    refine ⟨w.heap.size, [], w.alloc (.loop { state := .ready, pending := none, fn, tmps, params := ps, assign, body, defers := r.defers }), r.defers, ?_, World.alloc_heap_new w _, Nat.le_refl _, (Below.refl _ w).alloc (Nat.le_refl _) _, Or.inl rfl⟩
    unfold Instr.enterLoop
    simp only [Sem.run_bind, run_getLoop hr, Result.andThen_ok, Sem.run_pure, run_newObj_alloc]
end
end Go.Proofs.YtaljbebkooppiaaGreat.Sh

namespace Go.Proofs.YtaljbebkooppiaaGreat.Sh
open Go Go.RowKit
section
variable {P : Program} {w w' : World} {w0 : W0} {ok0 : Bool → Nat → Prop} {N : Nat} {σ : SS} {a : Act} {mu : Nat → Option (Nat × Nat)}
theorem prefix_get {α : Type} {pre : List α} {x : α} {l : List α} (h : pre ++ [x] <+: l) : ∃ hk : pre.length < l.length, l[pre.length] = x := by
  obtain ⟨t, rfl⟩ := h
  exact ⟨by simp, by simp⟩
theorem sw_range {g : Operand} {ps : Array Tmp} {assign body : Code} {Q : Exit → SS → Prop} {f : Nat} {caps : List S1} {items : List (List SV)} (L : List Nat) (st : Nat → SS)
    (hg : (st 0).ev g = .v (.one (.fn f caps))) (hit : IterS P f caps items) (hps : ∀ it ∈ items, it.length = ps.size) (hpN : ∀ p ∈ ps.toList, p < N) (h0 : Le σ (st 0))
    (ht : ∀ k, (st k).t = (st 0).t) (hn : ∀ k, (st k).n = (st 0).n) (hL : ∀ k o ob, (st k).objs o = some ob → o ∈ L) (hcl : ∀ k, clL (st k) L) (hmaps : ∀ k, (st k).x.maps = []) (hbase : ∀ k, (st k).x.base = (st 0).x.base)
    (hst : ∀ k w0 ok0, (st 0).x.base w0 ok0 → Stable w0.Z (st k).x.ctx)
    (round : ∀ (k : Nat) (h : k < items.length), sw P N assign (thenB (sw P N body (roundQ L (st 0) (st (k + 1)) Q))) (putPs ps.toList items[k] (st k)))
    (done : Q .normal (st items.length)) : sw P N (.rangeFunc g ps assign body) Q σ := by
  intro w0 ok0 a w hi
  obtain ⟨mu, h⟩ := (h0 _ _ _ _ _ hi).im
  generalize hσ0 : st 0 = σ0 at *
  have hbs : σ0.x.base w0 ok0 := h.m.ext.base
  have hstZ : ∀ k, Stable w0.Z (st k).x.ctx := fun k => hst k w0 ok0 hbs
  -- the function's value
  obtain ⟨arr, hgv, harr, hcaps⟩ : ∃ arr : Array Value, a.eval g = .func (.func f) #[] arr ∧ arr.size = caps.length ∧ ∀ (j : Nat) (s : S1), caps[j]? = some s → R0 w (okOf w0 ok0 σ0 mu w) (arr.getD j undef) s := by
    have := h.ev g
    rw [hg] at this
    have := R1.c0 this rfl
    generalize a.eval g = V at this
    cases this with
    | fn _ _ arr hs hr => exact ⟨arr, rfl, hs, hr⟩
  obtain ⟨⟨fn', hf1, hf2, hf3⟩, hgo⟩ := hit
  -- the objects that live on
  have hlive : ∀ o ∈ L, ∃ ob, σ0.objs o = some ob ∧ ∀ s ∈ ob.cells, s.closed = true := fun o ho => by
    have := hcl 0; rw [hσ0] at this; exact clL_spec this o ho
  have hblk : ∀ o ∈ L, ∃ ob b cur, σ0.objs o = some ob ∧ mu o = some (b, cur.size) ∧ (w0.heap.size ≤ b ∨ w0.X b) ∧ w.heap[b]? = some (.cells cur ob.ty (0, 0)) := fun o ho => by
    obtain ⟨ob, g1, _⟩ := hlive o ho
    obtain ⟨b, cur, k1, k2, k3, _⟩ := h.m.objs o ob g1
    exact ⟨ob, b, cur, g1, k1, k2, k3⟩
  refine wpIn_rangeFunc ?_
  intro fn hfn
  obtain ⟨l, mark, W1, dfr, he, hrec1, hl0, hbW, hmark⟩ := run_enter (P := P) (w := w) (fun l hl => (h.m.ext.rnd l hl).2) fn a.tmps ps assign body
  obtain ⟨rec, hrecd⟩ : ∃ rec : LoopState → Option Code → Loop, rec = fun s p => { state := s, pending := p, fn, tmps := a.tmps, params := ps, assign, body, defers := dfr } := ⟨_, rfl⟩
  have hrec1 : W1.heap[l]? = some (.loop (rec .ready none)) := by rw [hrecd]; exact hrec1
  have hl1 : l < W1.heap.size := (Array.getElem?_eq_some_iff.1 hrec1).1
  refine ⟨l, mark, W1, { target := .fn (.func f) arr, args := #[.func (.yield l) #[] #[]] }, W1, f, #[.func (.yield l) #[] #[]] ++ arr, W1, he, ?_, fun _ _ => trivial, ?_, fun hh => (by cases hh), ?_⟩
  · simp only [resolve, hgv]; simp [Deferred.ofValue, Act.eval]
  · simp only [invoke, callFunc, Sem.run_bind, run_program, Result.andThen_ok, hf1, hf2, hf3]; simp
  -- the blocks that the loop may turn
  let B : Nat → Prop := fun b => (∃ o ∈ L, ∃ cc, mu o = some (b, cc)) ∨ b = l ∨ w0.Z b
  have hBl : B l := Or.inr (Or.inl rfl)
  have hBo : ∀ o ∈ L, ∀ b cc, mu o = some (b, cc) → B b := fun o ho b cc hm => Or.inl ⟨o, ho, cc, hm⟩
  have hBZ : ∀ b, w0.Z b → B b := fun b hb => Or.inr (Or.inr hb)
  have hlZ : ¬ w0.Z l := fun hz => by have := (h.m.ext.zed l hz).1; have := h.below.size; omega
  have hown : ∀ o ∈ L, ∀ b cc, mu o = some (b, cc) → b < w.heap.size ∧ (w0.heap.size ≤ b ∨ w0.X b) ∧ ∃ cur ty, w.heap[b]? = some (.cells cur ty (0, 0)) := fun o ho b cc hm => by
    obtain ⟨ob, b', cur, g1, g2, g3, g4⟩ := hblk o ho
    rw [hm] at g2
    obtain ⟨rfl, _⟩ := Prod.mk.inj (Option.some.inj g2)
    exact ⟨(Array.getElem?_eq_some_iff.1 g4).1, g3, cur, ob.ty, g4⟩
  have hZX : ∀ b, (w0.heap.size ≤ b ∨ w0.X b) → ¬ w0.Z b := fun b hb hz => by
    obtain ⟨z1, z2, _⟩ := h.m.ext.zed b hz
    rcases hb with hb | hb
    · omega
    · exact z2 hb
  let ok : Bool → Nat → Prop := okOf w0 ok0 σ0 mu w
  have hokB : ∀ fr b, ok fr b → b < W1.heap.size ∧ ¬ B b := fun fr b hb => ⟨Nat.lt_of_lt_of_le hb.2.1 hbW.size, fun hB => by
    rcases hB with ⟨o, ho, cc, hm⟩ | rfl | hz
    · obtain ⟨ob, g1, _⟩ := hlive o ho
      exact hb.2.2 o ob cc g1 hm
    · have := hb.2.1; omega
    · exact okOf.notZ h.m.ext.zed hb hz⟩
  have hstB : ∀ {C : Ctx}, Stable w0.Z C → ∀ {W W' : World} {K K' : Bool → Nat → Prop}, C W K → Grow0 B W W' K K' → C W' K' := fun hs _ _ _ _ hC gr => hs _ _ _ _ hC ⟨gr.os, gr.tape, gr.output, gr.size, gr.gok, gr.heap, fun b hb => gr.z b (hBZ b hb)⟩
  -- between two rounds; when it has been left
  let J : List (List SV) → Ctx := fun pre W K => (∀ t, RT W mu K (a.tmps.getD t undef) (σ0.t t)) ∧ Core L mu (st pre.length) W K ∧ W.heap[l]? = some (.loop (rec .ready none))
  let S : Ctx := fun W K => ∃ c σx, ((c = .ret ∧ Q .ret (back L σ0 σx)) ∨ ∃ id, c = .exit id ∧ Q (.exit id) (back L σ0 σx)) ∧ Stable w0.Z σx.x.ctx ∧ (∀ t, RT W mu K (a.tmps.getD t undef) (σ0.t t)) ∧ Core L mu σx W K ∧ W.heap[l]? = some (.loop (rec .done (some c)))
  have hJst : ∀ pre, Stable B (J pre) := fun pre W W' K K' ⟨j1, j2, j3⟩ gr => ⟨fun t => (j1 t).grow gr, j2.step gr hBo hBZ (hstZ _), (gr.z l hBl).trans j3⟩
  have hSst : Stable B S := fun W W' K K' ⟨c, σx, s1, s2, s3, s4, s5⟩ gr => ⟨c, σx, s1, s2, fun t => (s3 t).grow gr, s4.step gr hBo hBZ s2, (gr.z l hBl).trans s5⟩
  have hW1same : ∀ b : Nat, b < w.heap.size → W1.heap[b]? = w.heap[b]? := fun b hb => hbW.block b hb
  have hgr1 : Grow0 w0.Z w W1 ok ok := ⟨hbW.os, hbW.tape, hbW.output, hbW.size, fun _ _ h => h, cellsKept (fun fr b hb => hW1same b hb.2.1), fun b hb => hW1same b (by have := (h.m.ext.zed b hb).1; have := h.below.size; omega)⟩
  have hJ0 : J [] W1 ok := by
    refine ⟨fun t => (h.m.tmps t).grow hgr1, ⟨fun o ho => ?_, ?_⟩, hrec1⟩
    · obtain ⟨ob, g1, g2⟩ := hlive o ho
      obtain ⟨b, cur, k1, k2, k3, k4, k5⟩ := h.m.objs o ob g1
      refine ⟨ob, by rw [show ([] : List (List SV)).length = 0 from rfl, hσ0]; exact g1, b, cur, k1, (hW1same b (Array.getElem?_eq_some_iff.1 k3).1).trans k3, k4, fun j s hj => ?_⟩
      obtain ⟨u, hu, hr⟩ := k5 j s hj
      have hc := g2 s (List.mem_of_getElem? hj)
      exact ⟨hc, u, hu, (hr.c0 hc).grow hgr1⟩
    · rw [show ([] : List (List SV)).length = 0 from rfl, hσ0]
      have := hstZ 0; rw [hσ0] at this
      exact this _ _ _ _ h.m.ext.ctx hgr1
  -- behind the function: what the loop holds is a state of its own again
  have finish : ∀ (W : World) (K : Bool → Nat → Prop) (σx σy : SS) (o' : Loop), Turn B W1 W → (∀ fr b, K fr b → b < W.heap.size ∧ ¬ B b ∧ (ok fr b ∨ W1.heap.size ≤ b)) → (∀ t, RT W mu K (a.tmps.getD t undef) (σ0.t t)) → Core L mu σx W K → Stable w0.Z σx.x.ctx → W.heap[l]? = some (.loop o') →
      σy.t = σ0.t → (∀ o ob, σy.objs o = some ob → o ∈ L ∧ σx.objs o = some ob) → σy.n = σ0.n → σy.x = ⟨[], σx.x.ctx, σ0.x.base⟩ →
      ∀ o'' : Loop, Inv w0 ok0 N σy { a with defers := mark ++ a.defers } (W.putObj l (.loop o'')) := by
    intro W K σx σy o' hturn hK hT hcore hsx hrec hy1 hy2 hy3 hy4 o''
    have hoth : ∀ b : Nat, b ≠ l → (W.putObj l (.loop o'')).heap[b]? = W.heap[b]? := fun b hb => World.putObj_heap_other hb
    have hlW : l < W.heap.size := (Array.getElem?_eq_some_iff.1 hrec).1
    have hsz : (W.putObj l (.loop o'')).heap.size = W.heap.size := by simp
    have hkeep : ∀ b : Nat, b < w.heap.size → ¬ B b → (W.putObj l (.loop o'')).heap[b]? = w.heap[b]? := fun b hb hB => (hoth b (by omega)).trans ((hturn.blk b (Nat.lt_of_lt_of_le hb hbW.size) hB).trans (hW1same b hb))
    have hok : ∀ fr b, K fr b → okOf w0 ok0 σy mu (W.putObj l (.loop o'')) fr b := fun fr b hb => by
      obtain ⟨k1, k2, k3⟩ := hK fr b hb
      refine ⟨?_, by rw [hsz]; exact k1, fun o ob cc ho hm => k2 (Or.inl ⟨o, (hy2 o ob ho).1, cc, hm⟩)⟩
      rcases k3 with k3 | k3
      · exact k3.1
      · exact Or.inr (Or.inl (by have := h.below.size; have := hbW.size; omega))
    have hh : ∀ (fr : Bool) (b : Nat), K fr b → (W.putObj l (.loop o'')).heap[b]? = W.heap[b]? := fun fr b hb => hoth b (fun e => (hK fr b hb).2.1 (by rw [e]; exact hBl))
    refine ⟨⟨hturn.os.trans (hbW.os.trans h.below.os), hturn.tape.trans (hbW.tape.trans h.below.tape), hturn.output.trans (hbW.output.trans h.below.output), by rw [hsz]; exact Nat.le_trans h.below.size (Nat.le_trans hbW.size hturn.size), fun b hb hx hz => ?_⟩, h.size, ⟨?_, fun d hd => ?_⟩, mu, fun t => ?_, fun o ob ho => ?_, fun o o' ob ob' b c c' h1 h2 h3 h4 => ?_, fun o ho => ?_, h.m.lent,
      ⟨fun p hp => (by rw [hy4] at hp; cases hp), by rw [hy4]; exact .nil, ?_, by rw [hy4]; exact hsx, by rw [hy4]; exact hbs, by rw [hy4]; exact h.m.ext.bst, h.m.ext.zed, fun l' hl' => ?_⟩⟩
    · refine (hkeep b (Nat.lt_of_lt_of_le hb h.below.size) (fun hB => ?_)).trans (h.below.block b hb hx hz)
      rcases hB with ⟨o, ho, cc, hm⟩ | rfl | hz'
      · rcases (hown o ho b cc hm).2.1 with h' | h'
        · omega
        · exact hx h'
      · have := h.below.size; omega
      · exact hz hz'
    · -- the marks are apart
      rcases hmark with rfl | ⟨r, rfl, hr, _, _⟩
      · exact h.defers.1
      · refine List.pairwise_cons.2 ⟨fun d hd => ?_, h.defers.1⟩
        obtain ⟨r', rfl, _, g3⟩ := h.defers.2 d hd
        have := (Array.getElem?_eq_some_iff.1 g3).1
        simp
        omega
    · have hnB : ∀ r : Nat, w0.heap.size ≤ r → r ≠ l → W1.heap[r]? = some (.deferred (some [])) → (W.putObj l (.loop o'')).heap[r]? = some (.deferred (some [])) := fun r hr hrl hd' => by
        refine (hoth r hrl).trans ((hturn.blk r (Array.getElem?_eq_some_iff.1 hd').1 (fun hB => ?_)).trans hd')
        rcases hB with ⟨o, ho, cc, hm⟩ | hB | hB
        · obtain ⟨k1, _, cur, ty, k3⟩ := hown o ho r cc hm
          rw [hW1same r k1, k3] at hd'; cases hd'
        · exact hrl hB
        · exact hZX r (Or.inl hr) hB
      rcases List.mem_append.1 hd with hd | hd
      · rcases hmark with rfl | ⟨r, rfl, hr, hrl, hd'⟩
        · cases hd
        · simp at hd; subst hd
          exact ⟨r, rfl, Nat.le_trans h.below.size hr, hnB r (Nat.le_trans h.below.size hr) hrl hd'⟩
      · obtain ⟨r, rfl, g2, g3⟩ := h.defers.2 d hd
        have hrw := (Array.getElem?_eq_some_iff.1 g3).1
        exact ⟨r, rfl, g2, hnB r g2 (by omega) ((hW1same r hrw).trans g3)⟩
    · rw [hy1]; exact RT.mono hok hh (fun _ _ h => h) (hT t)
    · obtain ⟨ho1, ho2⟩ := hy2 o ob ho
      obtain ⟨ob2, g1, b, cur, g2, g3, g4, g5⟩ := hcore.objs o ho1
      rw [ho2] at g1; cases g1
      refine ⟨b, cur, g2, (hown o ho1 b _ g2).2.1, (hoth b (by rintro rfl; have := (hown o ho1 b _ g2).1; omega)).trans g3, g4, fun j s hj => ?_⟩
      obtain ⟨_, u, hu, hr⟩ := g5 j s hj
      exact ⟨u, hu, .c (R0.mono hok hh hr)⟩
    · obtain ⟨x1, g1, _⟩ := hlive o (hy2 o ob h1).1
      obtain ⟨x2, g2, _⟩ := hlive o' (hy2 o' ob' h2).1
      exact h.m.inj o o' x1 x2 b c c' g1 g2 h3 h4
    · rw [hy3] at ho
      have hf := h.m.fresh o ho
      refine ⟨?_, hf.2⟩
      cases hoy : σy.objs o with
      | none => rfl
      | some ob =>
        obtain ⟨x1, g1, _⟩ := hlive o (hy2 o ob hoy).1
        rw [hf.1] at g1; cases g1
    · rw [hy4]
      exact hsx _ _ _ _ hcore.ctx ⟨rfl, rfl, rfl, Nat.le_of_eq hsz.symm, hok, cellsKept hh, fun b hb => hoth b (by rintro rfl; exact hlZ hb)⟩
    · obtain ⟨g1, r, g2⟩ := h.m.ext.rnd l' hl'
      have hl'w := (Array.getElem?_eq_some_iff.1 g2).1
      refine ⟨g1, r, (hkeep l' hl'w (fun hB => ?_)).trans g2⟩
      rcases hB with ⟨o, ho, cc, hm⟩ | hB | hB
      · obtain ⟨_, _, cur, ty, k3⟩ := hown o ho l' cc hm
        rw [g2] at k3; cases k3
      · omega
      · exact g1 hB
  refine callsIn_fw ((hgo (.func (.yield l) #[] #[]) J S B W1 ok arr rfl (fun b hB => ?_) hokB (fun pre args hpre => ?_) (hJst []) hJ0 harr (fun j s hj => (hcaps j s hj).grow hgr1)).mono ?_)
  · rcases hB with ⟨o, ho, cc, hm⟩ | rfl | hz
    · have := (hown o ho b cc hm).1; have := hbW.size; omega
    · exact hl1
    · have := (h.m.ext.zed b hz).1; have := h.below.size; have := hbW.size; omega
  · -- one round
    obtain ⟨hk, hargs⟩ := prefix_get hpre
    have hlen1 : (pre ++ [args]).length = pre.length + 1 := by simp
    refine ⟨fun w1 ok1 hb1 => by rw [hb1.1]; exact hJst _, fun w1 ok1 hb1 => by rw [hb1.1]; exact hSst, fun w1 ok1 okW W vs hb1 hokW hsW hJ hvl hvs => ⟨l, rfl, ?_⟩⟩
    obtain ⟨hT, hcore, hrecW⟩ := hJ
    obtain ⟨hbZ, hb2, hb3, hb4⟩ := hb1
    rw [hbZ] at hokW ⊢
    have hokW1 : ∀ fr b, okW fr b → b < W.heap.size ∧ ¬ B b ∧ (ok fr b ∨ W1.heap.size ≤ b) := fun fr b hb => by
      obtain ⟨k1, k2, k3⟩ := hokW fr b hb
      refine ⟨k1, k2, ?_⟩
      rcases k3 with k3 | k3 | k3
      · exact hb3 fr b k3
      · exact Or.inr (by omega)
      · exact Or.inr (hb4 b k3)
    have hW0 : w0.heap.size ≤ W.heap.size := by have := h.below.size; have := hbW.size; omega
    have hlW : l < W.heap.size := (Array.getElem?_eq_some_iff.1 hrecW).1
    have hpl : args.length = ps.size := hps args (by rw [← hargs]; exact List.getElem_mem hk)
    have hy := run_yield (P := P) (args := vs) hrecW (by rw [hrecd]; simp only; omega)
    rw [hrecd] at hy
    refine ⟨fn, _, assign, body, hy, roundIn_of_wpIn (F := Fence.wide) trivial ?_⟩
    -- the round's beginning
    let muR : Nat → Option (Nat × Nat) := fun o => if o ∈ L then mu o else none
    let wr : W0 := ⟨W, muR, w0.Z, some l⟩
    have hmuR : ∀ o p, muR o = some p → o ∈ L ∧ mu o = some p := fun o p hp => by
      have hp : (if o ∈ L then mu o else none) = some p := hp
      split at hp
      · exact ⟨‹_›, hp⟩
      · cases hp
    have hXr : ∀ b, wr.X b → ∃ o ∈ L, ∃ cc, mu o = some (b, cc) := fun b ⟨o, cc, hm⟩ => ⟨o, (hmuR o _ hm).1, cc, (hmuR o _ hm).2⟩
    have hXB : ∀ b, wr.X b → B b := fun b hb => Or.inl (hXr b hb)
    have hXown : ∀ b, wr.X b → (w0.heap.size ≤ b ∨ w0.X b) ∧ b ≠ l := fun b hb => by
      obtain ⟨o, ho, cc, hm⟩ := hXr b hb
      have := hown o ho b cc hm
      exact ⟨this.2.1, by omega⟩
    let σr : SS := st pre.length
    have hσrt : σr.t = σ0.t := ht _
    have hokr : ∀ fr b, okW fr b → okOf wr okW σr mu W fr b := fun fr b hb => ⟨Or.inl hb, (hokW1 fr b hb).1, fun o ob cc ho hm => (hokW1 fr b hb).2.1 (hBo o (hL _ o ob ho) b cc hm)⟩
    have hms : InvM wr okW σr mu { tmps := a.tmps, defers := [] } W := by
      refine ⟨fun t => ?_, fun o ob ho => ?_, fun o o' ob ob' b c c' h1 h2 h3 h4 => ?_, fun o ho => ?_, fun o p hp => (hmuR o p hp).2,
        ⟨fun p hp => (by rw [hmaps] at hp; cases hp), by rw [hmaps]; exact .nil, ?_, hstZ _, ?_, by rw [hbase]; exact h.m.ext.bst, fun b hz => ⟨?_, fun hx => hZX b (hXown b hx).1 hz, fun fr hb => (hokW1 fr b hb).2.1 (hBZ b hz)⟩, fun l' hl' => ?_⟩⟩
      · rw [hσrt]; exact RT.mono hokr (fun _ _ _ => rfl) (fun _ _ h => h) (hT t)
      · have hoL := hL _ o ob ho
        obtain ⟨ob2, g1, b, cur, g2, g3, g4, g5⟩ := hcore.objs o hoL
        rw [show (st pre.length).objs o = some ob from ho] at g1; cases g1
        refine ⟨b, cur, g2, Or.inr ⟨o, cur.size, ?_⟩, g3, g4, fun j s hj => ?_⟩
        · show (if o ∈ L then mu o else none) = _
          rw [if_pos hoL]; exact g2
        · obtain ⟨_, u, hu, hr⟩ := g5 j s hj
          exact ⟨u, hu, .c (R0.mono hokr (fun _ _ _ => rfl) hr)⟩
      · obtain ⟨x1, g1, _⟩ := hlive o (hL _ o ob h1)
        obtain ⟨x2, g2, _⟩ := hlive o' (hL _ o' ob' h2)
        exact h.m.inj o o' x1 x2 b c c' g1 g2 h3 h4
      · have hf := h.m.fresh o (by rw [← hn pre.length]; exact ho)
        refine ⟨?_, hf.2⟩
        cases hoy : σr.objs o with
        | none => rfl
        | some ob =>
          obtain ⟨x1, g1, _⟩ := hlive o (hL _ o ob hoy)
          rw [hf.1] at g1; cases g1
      · exact hstZ _ _ _ _ _ hcore.ctx ⟨rfl, rfl, rfl, Nat.le_refl _, hokr, fun _ _ _ _ _ _ hv => hv, fun _ _ => rfl⟩
      · rw [hbase]
        refine h.m.ext.bst w0 wr ok0 okW hbs rfl hW0 (fun fr b hb => ?_) (fun b hb => (hXown b hb).1)
        rcases (hokW1 fr b hb).2.2 with k | k
        · exact k.1
        · exact Or.inr (Or.inl (by have := h.below.size; have := hbW.size; omega))
      · have := (h.m.ext.zed b hz).1; show b < W.heap.size; omega
      · cases hl'
        exact ⟨hlZ, _, hrecW⟩
    have hm2 := InvM.putPs (a := { tmps := a.tmps, defers := [] }) (N := N) h.size ps.toList args vs.toList hms h.size hpN (by rw [Array.length_toList]; exact hvl) (fun i x hi => by
      have := hvs i x hi
      rw [show vs.toList.getD i undef = vs.getD i undef by simp [Array.getD_eq_getD_getElem?, List.getD_eq_getElem?_getD]]
      exact RV.mono hokr (fun _ _ _ => rfl) (fun o p hp => by cases hp) this)
    have hsz2 : ∀ (l : List (Nat × Value)) (t : Array Value), (l.foldl (fun t (p : Nat × Value) => t.setIfInBounds p.1 p.2) t).size = t.size := by
      intro l
      induction l with
      | nil => intro t; rfl
      | cons p l ih => intro t; rw [List.foldl_cons, ih]; simp
    have hfold : (ps.zip vs).foldl (fun tmps (x : Nat × Value) => match x with | (t, a) => tmps.setIfInBounds t a) a.tmps = (ps.toList.zip vs.toList).foldl (fun t (p : Nat × Value) => t.setIfInBounds p.1 p.2) a.tmps := by
      rw [← Array.foldl_toList, Array.toList_zip]
    have hinv : Inv wr okW N (putPs ps.toList args σr) { tmps := (ps.toList.zip vs.toList).foldl (fun t (p : Nat × Value) => t.setIfInBounds p.1 p.2) a.tmps, defers := [] } W :=
      ⟨⟨rfl, rfl, rfl, Nat.le_refl _, fun _ _ _ _ => rfl⟩, by rw [hsz2]; exact h.size, DefOK.nil _ _, mu, hm2⟩
    have hround := round pre.length hk
    rw [hargs] at hround
    have hwp := hround wr okW _ W hinv
    simp only at hfold ⊢
    rw [hfold]
    refine wpIn_mono hwp ?_
    rintro e a1 w1' ⟨σ1, hq1, hi1⟩
    cases e <;> first | exact hq1.elim | skip
    -- the record is busy
    obtain ⟨mu1, him1⟩ := hi1.im
    have hnX : ¬ wr.X l := fun hx => (hXown l hx).2 rfl
    have hnk : ∀ fr, ¬ okW fr l := fun fr hb => (hokW1 fr l hb).2.1 hBl
    have hrec1' : w1'.heap[l]? = some (.loop (rec .ready none)) := (him1.below.block l hlW hnX hlZ).trans hrecW
    refine ⟨_, run_beginRound hrec1' (by rw [hrecd]), ?_⟩
    have him2 := him1.putRec (o' := .loop { rec .ready none with state := .busy }) (show wr.heap[l]? = _ from hrecW) hrec1' rfl rfl ⟨⟨_, rfl⟩, ⟨_, rfl⟩⟩ hlZ hnX hnk
    refine wpIn_mono (hq1 _ okW a1 _ him2.inv) ?_
    -- the round's end
    have fin : ∀ (σ2 σx : SS) (a2 : Act) (w3 : World) (jump : Option Code), Inv { wr with toWorld := wr.toWorld.putObj l (.loop { rec .ready none with state := .busy }) } okW N σ2 a2 w3 → σx.x.ctx = σ2.x.ctx →
        (∀ o ∈ L, ∃ ob ob', σ2.objs o = some ob ∧ σx.objs o = some ob' ∧ ob.ty = ob'.ty ∧ subL ob.cells ob'.cells ∧ ∀ s ∈ ob'.cells, s.closed = true) →
        (Instr.endRound l jump).run P w3 = .ok (.bool jump.isNone) (w3.putObj l (.loop (rec (if jump.isNone then .ready else .done) jump))) ∧ Turn B W (w3.putObj l (.loop (rec (if jump.isNone then .ready else .done) jump))) ∧ Stable w0.Z σ2.x.ctx ∧
          ∀ okW' : Bool → Nat → Prop, (∀ fr b, okW fr b → okW' fr b) → (∀ fr b, W.heap.size ≤ b → b < (w3.putObj l (.loop (rec (if jump.isNone then .ready else .done) jump))).heap.size → okW' fr b) →
            (∀ t, RT (w3.putObj l (.loop (rec (if jump.isNone then .ready else .done) jump))) mu okW' (a.tmps.getD t undef) (σ0.t t)) ∧ Core L mu σx (w3.putObj l (.loop (rec (if jump.isNone then .ready else .done) jump))) okW' ∧
            (w3.putObj l (.loop (rec (if jump.isNone then .ready else .done) jump))).heap[l]? = some (.loop (rec (if jump.isNone then .ready else .done) jump)) := by
      intro σ2 σx a2 w3 jump hi3 hctx hobjs
      obtain ⟨mu3, him3⟩ := hi3.im
      have hsz0 : (wr.toWorld.putObj l (.loop { rec .ready none with state := .busy })).heap.size = W.heap.size := by simp [wr]
      have hrec3 : w3.heap[l]? = some (.loop { rec .ready none with state := .busy }) := (him3.below.block l (by rw [hsz0]; exact hlW) hnX hlZ).trans (World.putObj_heap_same hlW)
      have hl3 : l < w3.heap.size := (Array.getElem?_eq_some_iff.1 hrec3).1
      have hrun := run_endRound (P := P) jump hrec3
      have hreq : ({ ({ rec .ready none with state := .busy } : Loop) with state := if jump.isNone then .ready else .done, pending := jump } : Loop) = rec (if jump.isNone then .ready else .done) jump := by rw [hrecd]
      rw [hreq] at hrun
      refine ⟨hrun, ?_⟩
      generalize hr4 : (Go.Obj.loop (rec (if jump.isNone then .ready else .done) jump)) = r4 at *
      have hoth : ∀ b : Nat, b ≠ l → (w3.putObj l r4).heap[b]? = w3.heap[b]? := fun b hb => World.putObj_heap_other hb
      have hsz4 : (w3.putObj l r4).heap.size = w3.heap.size := by simp
      have hsame : ∀ b : Nat, b < W.heap.size → ¬ B b → (w3.putObj l r4).heap[b]? = W.heap[b]? := fun b hb hB => by
        have hbl : b ≠ l := fun e => hB (by rw [e]; exact hBl)
        refine (hoth b hbl).trans ((him3.below.block b (by rw [hsz0]; exact hb) (fun hx => hB (hXB b hx)) (fun hz => hB (hBZ b hz))).trans ?_)
        exact World.putObj_heap_other hbl
      have hsz3 : W.heap.size ≤ w3.heap.size := by have := him3.below.size; rw [hsz0] at this; exact this
      have hst2 : Stable w0.Z σ2.x.ctx := him3.m.ext.st
      refine ⟨⟨him3.below.os, him3.below.tape, him3.below.output, by rw [hsz4]; exact hsz3, hsame⟩, hst2, fun okW' hin hnew => ?_⟩
      have hlent : ∀ o ∈ L, ∀ p, mu o = some p → mu3 o = some p := fun o ho p hp => him3.m.lent o p (by show (if o ∈ L then mu o else none) = _; rw [if_pos ho]; exact hp)
      have hok3 : ∀ fr b, okOf { wr with toWorld := wr.toWorld.putObj l (.loop { rec .ready none with state := .busy }) } okW σ2 mu3 w3 fr b → okW' fr b := fun fr b ⟨k1, k2, k3⟩ => by
        rcases k1 with k1 | k1 | k1
        · exact hin fr b k1
        · exact hnew fr b (by rw [hsz0] at k1; exact k1) (by rw [hsz4]; exact k2)
        · obtain ⟨o, ho, cc, hm⟩ := hXr b k1
          obtain ⟨ob, _, g1, _⟩ := hobjs o ho
          exact absurd (hlent o ho _ hm) (k3 o ob cc g1)
      have hnl3 : ∀ fr b, okOf { wr with toWorld := wr.toWorld.putObj l (.loop { rec .ready none with state := .busy }) } okW σ2 mu3 w3 fr b → b ≠ l := by
        rintro fr b ⟨k1, _, _⟩ rfl
        rcases k1 with k1 | k1 | k1
        · exact hnk fr k1
        · rw [hsz0] at k1; omega
        · exact hnX k1
      have hh3 : ∀ (fr : Bool) (b : Nat), okOf { wr with toWorld := wr.toWorld.putObj l (.loop { rec .ready none with state := .busy }) } okW σ2 mu3 w3 fr b → (w3.putObj l r4).heap[b]? = w3.heap[b]? := fun fr b hb => hoth b (hnl3 fr b hb)
      refine ⟨fun t => RT.mono hin (fun fr b hb => hsame b (hokW1 fr b hb).1 (hokW1 fr b hb).2.1) (fun _ _ h => h) (hT t), ⟨fun o ho => ?_, ?_⟩, World.putObj_heap_same hl3⟩
      · obtain ⟨ob, ob', g1, g2, g3, g4, g5⟩ := hobjs o ho
        obtain ⟨b, cur, k1, k2, k3, k4, k5⟩ := him3.m.objs o ob g1
        obtain ⟨obC, _, bC, curC, c2, _⟩ := hcore.objs o ho
        have hm3 := hlent o ho _ c2
        rw [k1] at hm3
        obtain ⟨s1, s2⟩ := subL_spec g4
        have hbl : b ≠ l := by rintro rfl; rw [hrec3] at k3; cases k3
        refine ⟨ob', g2, b, cur, by rw [c2, ← hm3], by rw [← g3]; exact (hoth b hbl).trans k3, by rw [← s1]; exact k4, fun j s hj => ?_⟩
        obtain ⟨s', hs', hsub⟩ := s2 j s hj
        obtain ⟨u, hu, hr⟩ := k5 j s' hs'
        have hc := g5 s (List.mem_of_getElem? hj)
        exact ⟨hc, u, hu, R0.mono hok3 hh3 ((hr.sub hsub).c0 hc)⟩
      · rw [hctx]
        exact hst2 _ _ _ _ him3.m.ext.ctx ⟨rfl, rfl, rfl, Nat.le_of_eq hsz4.symm, hok3, cellsKept hh3, fun b hb => hoth b (by rintro rfl; exact hlZ hb)⟩
    rintro e a2 w3 ⟨σ2, hq2, hi3⟩
    cases e with
    | normal =>
      obtain ⟨hle, hctx⟩ := hq2
      have hcln := clL_spec (hcl (pre.length + 1))
      obtain ⟨h1, h2, h3, h4⟩ := fin σ2 (st (pre.length + 1)) a2 w3 none hi3 hctx.symm (fun o ho => by
        obtain ⟨ob, ob', g1, g2, g3, g4⟩ := leL_spec hle o ho
        obtain ⟨ob2, g5, g6⟩ := hcln o ho
        rw [g2] at g5; cases g5
        exact ⟨ob, ob', g1, g2, g3, g4, g6⟩)
      refine ⟨_, _, h1, h2, fun okW' hin hnew => Or.inl ⟨rfl, ?_⟩⟩
      obtain ⟨k1, k2, k3⟩ := h4 okW' hin hnew
      exact ⟨k1, by rw [hlen1]; exact k2, k3⟩
    | ret =>
      obtain ⟨hcl2, hq⟩ := hq2
      obtain ⟨h1, h2, h3, h4⟩ := fin σ2 σ2 a2 w3 (some .ret) hi3 rfl (fun o ho => by
        obtain ⟨ob, g1, g2⟩ := clL_spec hcl2 o ho
        exact ⟨ob, ob, g1, g1, rfl, subL_refl _, g2⟩)
      refine ⟨_, _, h1, h2, fun okW' hin hnew => Or.inr ⟨rfl, ?_⟩⟩
      obtain ⟨k1, k2, k3⟩ := h4 okW' hin hnew
      exact ⟨.ret, σ2, Or.inl ⟨rfl, hq⟩, h3, k1, k2, k3⟩
    | exit id =>
      obtain ⟨hcl2, hq⟩ := hq2
      obtain ⟨h1, h2, h3, h4⟩ := fin σ2 σ2 a2 w3 (some (.exit id)) hi3 rfl (fun o ho => by
        obtain ⟨ob, g1, g2⟩ := clL_spec hcl2 o ho
        exact ⟨ob, ob, g1, g1, rfl, subL_refl _, g2⟩)
      refine ⟨_, _, h1, h2, fun okW' hin hnew => Or.inr ⟨rfl, ?_⟩⟩
      obtain ⟨k1, k2, k3⟩ := h4 okW' hin hnew
      exact ⟨.exit id, σ2, Or.inr ⟨id, rfl, hq⟩, h3, k1, k2, k3⟩
    | goto => exact hq2.elim
    | panic => exact hq2.elim
    | outgrown => exact hq2.elim
  · rintro e W ⟨⟨u, rfl⟩, hturn, K, hK, hJS⟩
    rcases hJS with ⟨j1, j2, j3⟩ | ⟨c, σx, s1, s2, s3, s4, s5⟩
    · have hre := run_endLoop (P := P) j3 (by rw [hrecd]; simp)
      rw [show (rec .ready none).pending = none by rw [hrecd]] at hre
      refine ⟨none, _, hre, ⟨st items.length, done, ?_⟩⟩
      refine finish W K (st items.length) (st items.length) _ hturn hK j1 j2 (hstZ _) j3 (by rw [ht]) (fun o ob ho => ⟨hL _ _ _ ho, ho⟩) (by rw [hn]) ?_ _
      rw [← hbase items.length, ← hmaps items.length]
    · have hfin := finish W K σx (back L σ0 σx) _ hturn hK s3 s4 s2 s5 rfl (fun o ob ho => by
        simp only [back_objs] at ho
        split at ho
        · exact ⟨‹_›, ho⟩
        · cases ho) rfl rfl
      have hre := run_endLoop (P := P) s5 (by rw [hrecd]; simp)
      rw [show (rec .done (some c)).pending = some c by rw [hrecd]] at hre
      refine ⟨some c, _, hre, ?_⟩
      rcases s1 with ⟨rfl, hq⟩ | ⟨id, rfl, hq⟩
      · exact wpIn_ret ⟨_, hq, hfin _⟩
      · exact wpIn_exit ⟨_, hq, hfin _⟩
end
end Go.Proofs.YtaljbebkooppiaaGreat.Sh

namespace Go.Proofs.YtaljbebkooppiaaGreat.Sh
open Go Go.RowKit
section
variable {P : Program} {N : Nat} {σ : SS}
theorem sw_range_e {g : Operand} {ps : Array Tmp} {assign body : Code} {Q : Exit → SS → Prop} {f : Nat} {caps : List S1} {items : List (List SV)} (L : List Nat) (st : Nat → SS)
    (hit : IterS P f caps items) (hg : (st 0).ev g = .v (.one (.fn f caps))) (hc : (codeOK N assign && codeOK N body && ps.toList.all fun p => decide (p < N)) = true) (hps : ∀ it ∈ items, it.length = ps.size) (h0 : Le σ (st 0))
    (hsh : ∀ k, (st k).t = (st 0).t ∧ (st k).n = (st 0).n ∧ (∀ o ob, (st k).objs o = some ob → o ∈ L) ∧ clL (st k) L ∧ (st k).x.maps = [] ∧ (st k).x.base = (st 0).x.base)
    (hst : ∀ k w0 ok0, (st 0).x.base w0 ok0 → Stable w0.Z (st k).x.ctx)
    (round : ∀ (k : Nat) (h : k < items.length), eC P N assign (thenB (hold (eC P N body (roundQ L (st 0) (st (k + 1)) Q)))) (putPs ps.toList items[k] (st k)))
    (done : Q .normal (st items.length)) : holdP (sw P N (.rangeFunc g ps assign body) Q σ) := by
  simp only [Bool.and_eq_true] at hc
  refine sw_range L st hg hit hps (fun p hp => by have := List.all_eq_true.1 hc.2 p hp; simpa using this) h0 (fun k => (hsh k).1) (fun k => (hsh k).2.1) (fun k => (hsh k).2.2.1) (fun k => (hsh k).2.2.2.1) (fun k => (hsh k).2.2.2.2.1) (fun k => (hsh k).2.2.2.2.2) hst (fun k h => ?_) done
  refine sw_mono (eC_sound _ _ _ hc.1.1 (round k h)) (fun e σ' hq => ?_)
  cases e with
  | normal => exact eC_sound _ _ _ hc.1.2 hq
  | _ => exact hq
theorem stable_nil {Z : Nat → Prop} : Stable Z XS.nil.ctx := fun _ _ _ _ _ _ => trivial
@[simp] theorem nil_maps : XS.nil.maps = [] := rfl
end
end Go.Proofs.YtaljbebkooppiaaGreat.Sh

namespace Go.Proofs.YtaljbebkooppiaaGreat.Sh
open Go Go.RowKit
def splitSeq : Nat → Code → Option (Code × Code)
  | 0, .seq a b => some (a, b)
  | n + 1, .seq a b => (splitSeq n b).map fun p => (.seq a p.1, p.2)
  | _, _ => none
section
variable {P : Program} {N : Nat}
theorem sw_splice {Y : Type} (mid : Y → SS) {Q : Exit → SS → Prop} {d : Code} (hd : ∀ y, sw P N d Q (mid y)) : ∀ (n : Nat) (c x : Code) (σ : SS), splitSeq n c = some (x, d) → codeOK N x = true → eC P N x (cutQ mid Q) σ → sw P N c Q σ := by
  have key : ∀ e σ', cutQ mid Q ⟨⟩ ⟨⟩ e σ' → thenQ (sw P N d Q) Q e σ' := by
    intro e σ' h
    cases e with
    | normal => obtain ⟨y, hy⟩ := h; exact (fun w0 ok0 a w hi => hd y w0 ok0 a w (hy _ _ _ _ _ hi))
    | exit => exact h
    | goto => exact h
    | ret => exact h
    | panic => exact h
    | outgrown => exact h
  intro n
  induction n with
  | zero =>
    intro c x σ hs hc h
    cases c <;> simp only [splitSeq, Option.some.injEq, Prod.mk.injEq, reduceCtorEq] at hs
    obtain ⟨rfl, rfl⟩ := hs
    exact sw_seq (sw_mono (eC_sound _ _ _ hc h) key)
  | succ n ih =>
    intro c x σ hs hc h
    cases c <;> simp only [splitSeq, reduceCtorEq] at hs
    rename_i a b
    cases hb : splitSeq n b with
    | none => rw [hb] at hs; cases hs
    | some p =>
      rw [hb] at hs
      obtain ⟨x', d'⟩ := p
      simp only [Option.map_some, Option.some.injEq, Prod.mk.injEq] at hs
      obtain ⟨rfl, rfl⟩ := hs
      simp only [codeOK, Bool.and_eq_true] at hc
      have h : eC P N a (thenQ (hold (eC P N x' (cutQ mid Q))) (cutQ mid Q)) σ := h
      refine sw_seq (sw_mono (eC_sound _ _ _ hc.1 h) ?_)
      intro e σ' h'
      cases e with
      | normal => exact ih b x' σ' hb hc.2 h'
      | exit => exact h'
      | goto => exact h'
      | ret => exact h'
      | panic => exact h'
      | outgrown => exact h'
theorem calls_cut {Y : Type} (n : Nat) (mid : Y → SS) {f : Nat} {fn : Func} {c x d : Code} {args : List SV} {r : ST} (hf : P.funcs[f]? = some fn) (hb : fn.body = some c) (hname : (fn.name == "runtime.NumGoroutine") = false) (hN : decide (args.length ≤ fn.ntmps) = true)
    (hs : splitSeq n c = some (x, d)) (hc : codeOK fn.ntmps x = true) (hc2 : codeOK fn.ntmps d = true)
    (h : eC P fn.ntmps x (cutQ mid (Ret P fn.results.toList r)) (SS.of (argList args 0) [] 0))
    (h2 : ∀ y, eC P fn.ntmps d (Ret P fn.results.toList r) (mid y)) : CallsS P f args r :=
  calls_of_sw' (fun r' => r'.sub r) (fun _ _ _ _ _ h hs => RT.sub h hs) hf hb hname (of_decide_eq_true hN)
    (sw_mono (sw_splice mid (fun y => eC_sound d _ _ hc2 (h2 y)) n c x _ hs hc h) fun _ _ ⟨h1, h2⟩ => ⟨h1, onO_elim h2⟩)
end
end Go.Proofs.YtaljbebkooppiaaGreat.Sh

namespace Go.Proofs.YtaljbebkooppiaaGreat.Sh
open Go Go.RowKit
section
variable {P : Program} {w w' : World} {w0 : W0} {ok0 : Bool → Nat → Prop} {N : Nat} {σ : SS} {a : Act} {mu : Nat → Option (Nat × Nat)}
end
end Go.Proofs.YtaljbebkooppiaaGreat.Sh

