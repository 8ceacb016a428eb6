/- A part of the proof: Sh12, Sh13, Sh13s, Sh13x -/
import Derived.Test.YtaljbebkooppiaaGreatV3
import Derived.LoopNIn
import Derived.OrdersIn
import Derived.RangeFuncLeaves
import Derived.RangeFuncSeq
set_option linter.unusedSimpArgs false
set_option linter.unusedVariables false
set_option linter.unusedSectionVars false
namespace Go.Proofs.YtaljbebkooppiaaGreat.Sh
open Go Go.RowKit
section
variable {w0 : W0} {w w' : World} {ok0 : Bool → Nat → Prop} {N : Nat} {σ σ' : SS} {a : Act} {P : Program}
/-! ### What is handed away is written no more -/
def SS.fz1 (σ : SS) : S1 → SS
  | .ms o _ _ _ _ => match σ.objs o with | some ob => σ.freeze o ob.cells | none => σ
  | .mp o _ => match σ.objs o with | some ob => σ.freeze o ob.cells | none => σ
  | _ => σ
def SS.fzL (σ : SS) (l : List S1) : SS := l.foldl SS.fz1 σ
def SS.fzT (σ : SS) : ST → SS
  | .v x => σ.fzL x.cells
  | .tup l => σ.fzL (l.flatMap SV.cells)
def SS.fzA (σ : SS) (l : List Operand) : SS := l.foldl (fun s x => s.fzT (σ.ev x)) σ
theorem Inv.fz1 (h : Inv w0 ok0 N σ a w) (x : S1) : Inv w0 ok0 N (σ.fz1 x) a w := by
  unfold SS.fz1
  split
  · split
    · rename_i ob ho; exact h.freeze _ ob ho
    · exact h
  · split
    · rename_i ob ho; exact h.freeze _ ob ho
    · exact h
  · exact h
theorem Inv.fzL (l : List S1) : ∀ {σ : SS}, Inv w0 ok0 N σ a w → Inv w0 ok0 N (σ.fzL l) a w := by
  induction l with
  | nil => intro σ h; exact h
  | cons x l ih => intro σ h; exact ih (h.fz1 x)
theorem Inv.fzT (h : Inv w0 ok0 N σ a w) (x : ST) : Inv w0 ok0 N (σ.fzT x) a w := by
  cases x with
  | v x => exact h.fzL _
  | tup l => exact h.fzL _
theorem Inv.fzA (l : List Operand) (σ1 : SS) : ∀ {σ : SS}, Inv w0 ok0 N σ a w → Inv w0 ok0 N (l.foldl (fun s x => s.fzT (σ1.ev x)) σ) a w := by
  induction l with
  | nil => intro σ h; exact h
  | cons x l ih => intro σ h; exact ih (h.fzT _)
/-! ### Inside a round, or not -/
def Fw (ρ : Option Nat) : Fence := { Fence.wide with round := ρ }
theorem callsIn_fw {ρ : Option Nat} {n f : Nat} {args : Array Value} {R : Ending → World → Prop} (h : Calls P f args w R) : CallsIn (Fw ρ) n P f args w R :=
  ⟨trivial, fun cs _ => let ⟨e, w', fr, r, s, x⟩ := h cs; ⟨e, w', fr, r, (comesIn_wide (P := P)).2 s, x⟩⟩
theorem rowsIn_fw {ρ : Option Nat} {n : Nat} {row : String} {args : Array Value} {R : Value → World → Prop} (h : Rows P row args w R) : RowsIn (Fw ρ) n P row args w R :=
  fun c cs _ => let ⟨v, w', r, s⟩ := h c cs; ⟨v, w', r, (stepsIn_wide (P := P)).2 s⟩
def notDefer (o : Oper) : Bool := match o.op with | .defer _ => false | _ => true
theorem toIn {ρ : Option Nat} {o : Oper} {next : Act → World → Prop} {Q : Exit → Act → World → Prop} (hd : notDefer o = true) (h : o.wp P a w next Q) : o.wpIn (Fw ρ) 0 P a w next Q := by
  refine ⟨fun _ _ => trivial, ?_⟩
  have hs : o.semAt (Fw ρ).round a.eval = execOp a.eval o := by
    exact Oper.semAt_eq _ _ _ (fun c hc => by rw [notDefer, hc] at hd; cases hd)
  rw [hs]
  unfold Oper.wp at h
  generalize (execOp a.eval o).run P w = r at h
  cases r with
  | ok x w' =>
    cases x <;> simp only [Oper.upon] at h <;> simp only [Oper.uponIn] <;> first
      | exact h
      | exact h.elim
      | exact ⟨fun hh => (by cases hh), callsIn_fw h⟩
      | exact ⟨fun hh => (by cases hh), rowsIn_fw h⟩
  | halt x w' => cases x <;> simp only [Oper.upon] at h <;> simp only [Oper.uponIn] <;> first | exact h | exact h.elim
/-! ### A run of operations -/
def dstsOK (N : Nat) (ops : List Oper) : Bool := ops.all fun o => notDefer o && match o.dst with | some d => decide (d < N) | none => true
theorem dstsOK_cons {o : Oper} {l : List Oper} (h : dstsOK N (o :: l) = true) : ((∀ i, o.dst = some i → i < N) ∧ notDefer o = true) ∧ dstsOK N l = true := by
  simp only [dstsOK, List.all_cons, Bool.and_eq_true] at h
  refine ⟨⟨fun i hi => ?_, h.1.1⟩, h.2⟩
  have := h.1.2
  rw [hi] at this
  simpa using this
theorem guard_yes {ops : Array Oper} {j d : Nat} {b : Bool} {mu : Nat → Option (Nat × Nat)} (h : IM w0 ok0 N σ mu a w) (hd : (ops.toList[j]?).bind (·.dst) = some d) (e : σ.t d = B b) : yielded ops a.tmps j = some b := by
  have hv := h.m.tmps d
  rw [e] at hv
  have hv := R1.c0 hv rfl
  generalize hx : a.tmps.getD d undef = X at hv
  cases hv
  unfold yielded
  rw [Array.getElem?_toList] at hd
  rw [hd]
  simp only [Array.getD_eq_getD_getElem?] at hx
  cases hg : a.tmps[d]? with
  | none => rw [hg] at hx; simp [undef] at hx
  | some v => rw [hg] at hx; simp only [Option.getD_some] at hx; subst hx; simp [hg]
def ST.no : ST := .tup []
theorem RT.no {w : World} {mu : Nat → Option (Nat × Nat)} {ok : Bool → Nat → Prop} : RT w mu ok undef ST.no := ⟨#[], rfl, rfl, fun j x h => by simp at h⟩
theorem guard_no {ops : Array Oper} {j d : Nat} {mu : Nat → Option (Nat × Nat)} (h : IM w0 ok0 N σ mu a w) (hd : (ops.toList[j]?).bind (·.dst) = some d) (e : σ.t d = ST.no) : yielded ops a.tmps j = none := by
  have hv := h.m.tmps d
  rw [e] at hv
  obtain ⟨arr, h1, _⟩ := hv
  unfold yielded
  rw [Array.getElem?_toList] at hd
  rw [hd]
  simp only [Array.getD_eq_getD_getElem?] at h1
  cases hg : a.tmps[d]? with
  | none => simp [hg]
  | some v => rw [hg] at h1; simp only [Option.getD_some] at h1; subst h1; simp [hg]
/-! ### Code -/
def Lift (w0 : W0) (ok0 : Bool → Nat → Prop) (N : Nat) (Q : Exit → SS → Prop) : Exit → Act → World → Prop := fun e a w => ∃ σ, Q e σ ∧ Inv w0 ok0 N σ a w
def sw (P : Program) (N : Nat) (c : Code) (Q : Exit → SS → Prop) (σ : SS) : Prop := ∀ w0 ok0 a w, Inv w0 ok0 N σ a w → c.wpIn (Fw w0.rho) 0 P (Lift w0 ok0 N Q) a w
section
variable {Q : Exit → SS → Prop} {x y c : Code}
theorem sw_skip (h : Q .normal σ) : sw P N .skip Q σ := fun _ _ _ _ hi => wpIn_skip ⟨σ, h, hi⟩
theorem sw_label {l : Nat} (h : Q .normal σ) : sw P N (.label l) Q σ := fun _ _ _ _ hi => wpIn_label ⟨σ, h, hi⟩
theorem sw_ret (h : Q .ret σ) : sw P N .ret Q σ := fun _ _ _ _ hi => wpIn_ret ⟨σ, h, hi⟩
theorem sw_exit {id : Nat} (h : Q (.exit id) σ) : sw P N (.exit id) Q σ := fun _ _ _ _ hi => wpIn_exit ⟨σ, h, hi⟩
def thenQ (K : SS → Prop) (Q : Exit → SS → Prop) : Exit → SS → Prop
  | .normal, σ => K σ
  | e, σ => Q e σ
theorem sw_seq (h : sw P N x (thenQ (sw P N y Q) Q) σ) : sw P N (.seq x y) Q σ := by
  intro w0 ok0 a w hi
  refine wpIn_seq (wpIn_mono (h w0 ok0 a w hi) ?_)
  rintro e a' w' ⟨σ', h1, h2⟩
  cases e with
  | normal => exact h1 w0 ok0 a' w' h2
  | exit => exact ⟨σ', h1, h2⟩
  | goto => exact ⟨σ', h1, h2⟩
  | ret => exact ⟨σ', h1, h2⟩
  | panic => exact ⟨σ', h1, h2⟩
  | outgrown => exact ⟨σ', h1, h2⟩
theorem sw_cond {o : Operand} {b : Bool} (he : σ.ev o = B b) (ht : b = true → sw P N x Q σ) (hf : b = false → sw P N y Q σ) : sw P N (.cond o x y) Q σ := by
  intro w0 ok0 a w hi
  obtain ⟨mu, him⟩ := hi.im
  exact wpIn_cond_split (him.bool he) (fun e => ht e w0 ok0 a w hi) (fun e => hf e w0 ok0 a w hi)
def blockQ (id : Nat) (Q : Exit → SS → Prop) : Exit → SS → Prop
  | .exit i, σ => if i = id then Q .normal σ else Q (.exit i) σ
  | e, σ => Q e σ
theorem sw_block {id : Nat} (h : sw P N c (blockQ id Q) σ) : sw P N (.block id c) Q σ := by
  intro w0 ok0 a w hi
  refine wpIn_block (wpIn_mono (h w0 ok0 a w hi) ?_)
  rintro e a' w' ⟨σ', h1, h2⟩
  cases e with
  | exit i =>
    simp only [blockQ] at h1
    simp only [Exit.inBlock]
    split
    · rename_i e; rw [if_pos e] at h1; exact ⟨σ', h1, h2⟩
    · rename_i e; rw [if_neg e] at h1; exact ⟨σ', h1, h2⟩
  | normal => exact ⟨σ', h1, h2⟩
  | goto => exact ⟨σ', h1, h2⟩
  | ret => exact ⟨σ', h1, h2⟩
  | panic => exact ⟨σ', h1, h2⟩
  | outgrown => exact ⟨σ', h1, h2⟩
def Le (σ σ' : SS) : Prop := ∀ w0 ok0 N a w, Inv w0 ok0 N σ a w → Inv w0 ok0 N σ' a w
theorem Le.refl (σ : SS) : Le σ σ := fun _ _ _ _ _ h => h
theorem Le.trans {a b c : SS} (h : Le a b) (k : Le b c) : Le a c := fun _ _ _ _ _ hi => k _ _ _ _ _ (h _ _ _ _ _ hi)
theorem sw_le (h : Le σ σ') (k : sw P N c Q σ') : sw P N c Q σ := fun w0 ok0 a w hi => k w0 ok0 a w (h _ _ _ _ _ hi)
theorem sw_mono {Q' : Exit → SS → Prop} (h : sw P N c Q σ) (k : ∀ e σ', Q e σ' → Q' e σ') : sw P N c Q' σ := fun w0 ok0 a w hi => wpIn_mono (h w0 ok0 a w hi) (fun _ _ _ ⟨σ', h1, h2⟩ => ⟨σ', k _ _ h1, h2⟩)
theorem sw_loop {X : Type} (st : X → SS) (m : X → Nat) (x0 : X) (h0 : Le σ (st x0)) (round : ∀ x, sw P N c (thenQ (fun σ' => ∃ x', Le σ' (st x') ∧ m x' < m x) Q) (st x)) : sw P N (.loop c) Q σ := by
  intro w0 ok0 a w hi
  have key : ∀ (n : Nat) (x : X), m x < n → ∀ a w, Inv w0 ok0 N (st x) a w → Code.roundsIn (Fw w0.rho) 0 P c (Lift w0 ok0 N Q) n a w := by
    intro n
    induction n with
    | zero => intro x hx; omega
    | succ n ih =>
      intro x hx a w hi
      rw [roundsIn_succ]
      refine wpIn_mono (round x w0 ok0 a w hi) ?_
      rintro e a' w' ⟨σ', h1, h2⟩
      cases e with
      | normal =>
        obtain ⟨x', hle, hm⟩ := h1
        exact ih x' (by omega) a' w' (hle _ _ _ _ _ h2)
      | exit => exact ⟨σ', h1, h2⟩
      | goto => exact ⟨σ', h1, h2⟩
      | ret => exact ⟨σ', h1, h2⟩
      | panic => exact ⟨σ', h1, h2⟩
      | outgrown => exact ⟨σ', h1, h2⟩
  exact wpIn_loop_rounds (m x0 + 1) (key _ x0 (by omega) a w (h0 _ _ _ _ _ hi))
/-! ### States written out -/
def lookT : List (Nat × ST) → Nat → ST
  | [], _ => .any
  | (d, x) :: l, t => if t = d then x else lookT l t
def lookO : List (Nat × SObj) → Nat → Option SObj
  | [], _ => none
  | (d, x) :: l, o => if o = d then some x else lookO l o
def SS.of (l : List (Nat × ST)) (ol : List (Nat × SObj)) (n : Nat) : SS := ⟨lookT l, lookO ol, n, .nil⟩
def SS.wx (σ : SS) (x : XS) : SS := { σ with x := x }
theorem Ext.nil {w0 : W0} {ok0 : Bool → Nat → Prop} {σ : SS} {mu : Nat → Option (Nat × Nat)} {w : World} (h : Ext w0 ok0 σ mu w) {l : List (Nat × ST)} {ol : List (Nat × SObj)} {n : Nat} : Ext w0 ok0 (SS.of l ol n) mu w :=
  ⟨fun p hp => by simp [SS.of, XS.nil] at hp, .nil, trivial, fun _ _ _ _ _ _ => trivial, trivial, fun _ _ _ _ _ _ _ _ _ => trivial, h.zed, h.rnd⟩
theorem Le.of {l : List (Nat × ST)} {ol : List (Nat × SObj)} {n : Nat} (ht : ∀ p ∈ l, σ.t p.1 = p.2) (ho : ∀ p ∈ ol, σ.objs p.1 = some p.2) (hn : σ.n ≤ n) : Le σ (SS.of l ol n) := by
  intro w0 ok0 N a w ⟨hb, hs, hd, mu, hm⟩
  have lt : ∀ (l : List (Nat × ST)) (t : Nat), lookT l t = .any ∨ ∃ p ∈ l, p.1 = t ∧ lookT l t = p.2 := by
    intro l t
    induction l with
    | nil => exact Or.inl rfl
    | cons p l ih =>
      obtain ⟨d, x⟩ := p
      simp only [lookT]
      by_cases e : t = d
      · rw [if_pos e]; exact Or.inr ⟨(d, x), List.mem_cons_self .., e.symm, rfl⟩
      · rw [if_neg e]
        rcases ih with ih | ⟨p, h1, h2, h3⟩
        · exact Or.inl ih
        · exact Or.inr ⟨p, List.mem_cons_of_mem _ h1, h2, h3⟩
  have lo : ∀ (l : List (Nat × SObj)) (t : Nat) (ob : SObj), lookO l t = some ob → (t, ob) ∈ l := by
    intro l t ob
    induction l with
    | nil => intro h; cases h
    | cons p l ih =>
      obtain ⟨d, x⟩ := p
      simp only [lookO]
      intro h
      split at h
      · rename_i e; cases h; subst e; exact List.mem_cons_self ..
      · exact List.mem_cons_of_mem _ (ih h)
  have hobj : ∀ o ob, (SS.of l ol n).objs o = some ob → σ.objs o = some ob := fun o ob h => ho (o, ob) (lo ol o ob h)
  have hmo : ∀ fr b, okOf w0 ok0 σ mu w fr b → okOf w0 ok0 (SS.of l ol n) mu w fr b := fun fr b ⟨h1, h2, h3⟩ => ⟨h1, h2, fun o ob cc h => h3 o ob cc (hobj o ob h)⟩
  refine ⟨hb, hs, hd, mu, fun t => ?_, fun o ob h => ?_, fun o o' ob ob' b c c' h1 h2 => hm.inj o o' ob ob' b c c' (hobj _ _ h1) (hobj _ _ h2), fun o hno => ?_, hm.lent, hm.ext.nil⟩
  · rcases lt l t with h | ⟨p, h1, h2, h3⟩
    · show RT w mu _ _ (lookT l t)
      rw [h]; exact RT.any _
    · show RT w mu _ _ (lookT l t)
      rw [h3, ← ht p h1, h2]
      exact RT.mono hmo (fun _ _ _ => rfl) (fun _ _ h => h) (hm.tmps t)
  · obtain ⟨b, cur, g1, g2, g3, g4, g5⟩ := hm.objs o ob (hobj o ob h)
    refine ⟨b, cur, g1, g2, g3, g4, fun j s hj => ?_⟩
    obtain ⟨u, hu, hr⟩ := g5 j s hj
    exact ⟨u, hu, R1.mono hmo (fun _ _ _ => rfl) (fun _ _ h => h) hr⟩
  · have h1 := hm.fresh o (Nat.le_trans hn hno)
    refine ⟨?_, h1.2⟩
    cases hlo : (SS.of l ol n).objs o with
    | none => rfl
    | some ob => rw [hobj o ob hlo] at h1; cases h1.1
/-! ### Functions -/
def sRes (P : Program) (σ : SS) : List ResultVar → Option (List SV)
  | [] => some []
  | r :: l => match r, sRes P σ l with
    | .tmp t, some ys => match σ.t t with | .v y => if y.closed then some (y :: ys) else none | _ => none
    | .cell a t, some ys => match tyOf P t with
      | some τ => match sLoad σ τ (σ.t a) with | some y => if y.closed then some (y :: ys) else none | none => none
      | none => none
    | _, none => none
def sResult (P : Program) (σ : SS) (l : List ResultVar) : Option ST :=
  match sRes P σ l with
  | some [y] => some (.v y)
  | some ys => some (.tup ys)
  | none => none
def SS.fzR (P : Program) (σ : SS) (l : List ResultVar) : SS := l.foldl (fun s r => match r with
  | .tmp t => s.fzT (σ.t t)
  | .cell a t => match tyOf P t with
    | some τ => match sLoad σ τ (σ.t a) with | some y => s.fzL y.cells | none => s
    | none => s) σ
theorem Inv.fzR (l : List ResultVar) (σ1 : SS) : ∀ {σ : SS}, Inv w0 ok0 N σ a w → Inv w0 ok0 N (l.foldl (fun s r => match r with
  | .tmp t => s.fzT (σ1.t t)
  | .cell a t => match tyOf P t with
    | some τ => match sLoad σ1 τ (σ1.t a) with | some y => s.fzL y.cells | none => s
    | none => s) σ) a w := by
  induction l with
  | nil => intro σ h; exact h
  | cons r l ih =>
    intro σ h
    refine ih ?_
    cases r with
    | tmp t => exact h.fzT _
    | cell x t =>
      simp only
      split
      · split
        · exact h.fzL _
        · exact h
      · exact h
end
end
end Go.Proofs.YtaljbebkooppiaaGreat.Sh

namespace Go.Proofs.YtaljbebkooppiaaGreat.Sh
open Go Go.RowKit
section
variable {w0 : W0} {w w' : World} {ok0 : Bool → Nat → Prop} {N : Nat} {σ σ' : SS} {a : Act} {P : Program} {mu : Nat → Option (Nat × Nat)}
def resOne (tmps : Array Value) : ResultVar → Sem Value
  | .tmp t => pure (tmps.getD t undef)
  | .cell a t => do loadVar t (← asAddr (tmps.getD a undef))
theorem run_res (h : IM w0 ok0 N σ mu a w) : ∀ (l : List ResultVar) (ys : List SV), sRes P σ l = some ys → ∃ vs : List Value, (l.mapM (resOne a.tmps)).run P w = .ok vs w ∧ vs.length = ys.length ∧ ∀ (i : Nat) (y : SV), ys[i]? = some y → ∃ v, vs[i]? = some v ∧ RV w mu0 (okOf w0 ok0 σ mu w) v y
  | [], ys, e => by cases e; exact ⟨[], rfl, rfl, fun i y hi => by simp at hi⟩
  | r :: l, ys, e => by
    have fin : ∀ (y : SV) (zs : List SV) (v : Value), sRes P σ l = some zs → ys = y :: zs → (resOne a.tmps r).run P w = .ok v w → RV w mu0 (okOf w0 ok0 σ mu w) v y →
        ∃ vs : List Value, ((r :: l).mapM (resOne a.tmps)).run P w = .ok vs w ∧ vs.length = ys.length ∧ ∀ (i : Nat) (y : SV), ys[i]? = some y → ∃ v, vs[i]? = some v ∧ RV w mu0 (okOf w0 ok0 σ mu w) v y := by
      intro y zs v hz hys hr hv
      obtain ⟨vs, h1, h2, h3⟩ := run_res h l zs hz
      refine ⟨v :: vs, ?_, by rw [hys]; simp [h2], fun i y' hi => ?_⟩
      · simp only [List.mapM_cons, Sem.run_bind, hr, Result.andThen_ok, h1, Sem.run_pure]
      · subst hys
        cases i with
        | zero => simp at hi; subst hi; exact ⟨v, rfl, hv⟩
        | succ i => simp at hi; obtain ⟨v', g1, g2⟩ := h3 i y' hi; exact ⟨v', by simpa using g1, g2⟩
    cases r with
    | tmp t =>
      cases hz : sRes P σ l with
      | none => simp [sRes, hz] at e
      | some zs =>
        simp only [sRes, hz] at e
        split at e
        · rename_i y hy
          split at e
          · rename_i hc
            have := h.m.tmps t
            rw [hy] at this
            exact fin y zs _ hz (Option.some.inj e).symm rfl (RV.c0 this hc)
          · cases e
        · cases e
    | cell x t =>
      cases hz : sRes P σ l with
      | none => simp [sRes, hz] at e
      | some zs =>
        simp only [sRes, hz] at e
        split at e
        · rename_i τ ht
          split at e
          · rename_i y hy
            split at e
            · rename_i hc
              obtain ⟨u, hu, hr⟩ := run_load_sh h ht (h.m.tmps x) hy
              refine fin y zs u hz (Option.some.inj e).symm ?_ (RV.c0 hr hc)
              have hp : ∃ ad, a.tmps.getD x undef = .pointer (some ad) := by
                unfold sLoad at hy
                split at hy
                · rename_i cs hcs
                  obtain ⟨b, off, f, hv, _⟩ := h.at (h.m.tmps x) hcs
                  exact ⟨_, hv⟩
                · cases hy
              obtain ⟨ad, had⟩ := hp
              simp only [resOne, had, asAddr, Sem.run_bind, Sem.run_pure, Result.andThen_ok]
              rw [had] at hu
              simpa only [Instr.loadAt, Instr.sureAddr, Sem.run_bind, Sem.run_pure, Result.andThen_ok] using hu
            · cases e
          · cases e
        · cases e
theorem run_results (h : IM w0 ok0 N σ mu a w) {fn : Func} {r : ST} (hr : sResult P σ fn.results.toList = some r) : ∃ v, (results fn a.tmps).run P w = .ok v w ∧ RT w mu0 (okOf w0 ok0 σ mu w) v r := by
  unfold sResult at hr
  have hres : ∀ vs : List Value, (fn.results.toList.mapM (resOne a.tmps)).run P w = .ok vs w → (results fn a.tmps).run P w = .ok (if h : vs.toArray.size = 1 then vs.toArray[0] else .tuple vs.toArray) w := by
    intro vs hvs
    have : (fn.results.mapM (resOne a.tmps)).run P w = .ok vs.toArray w := by
      rw [Array.mapM_eq_mapM_toList]
      show (Sem.bind _ _).run P w = _
      rw [Sem.run_bind', hvs]
      rfl
    show (Sem.bind (fn.results.mapM (resOne a.tmps)) _).run P w = _
    rw [Sem.run_bind', this]
    rfl
  split at hr
  · rename_i y hy
    cases hr
    obtain ⟨vs, h1, h2, h3⟩ := run_res h _ _ hy
    obtain ⟨v, hv, hrv⟩ := h3 0 y rfl
    obtain ⟨v', rfl⟩ : ∃ v', vs = [v'] := List.length_eq_one_iff.1 h2
    simp at hv; subst hv
    exact ⟨v', hres _ h1, hrv⟩
  · rename_i ys hne hy
    cases hr
    obtain ⟨vs, h1, h2, h3⟩ := run_res h _ _ hy
    have hn1 : ¬ vs.toArray.size = 1 := by
      intro e
      simp only [List.size_toArray] at e
      obtain ⟨y, rfl⟩ := List.length_eq_one_iff.1 (h2.symm.trans e)
      exact hne y rfl
    refine ⟨.tuple vs.toArray, by rw [hres _ h1, dif_neg hn1], vs.toArray, rfl, by simpa using h2, fun j x hj => ?_⟩
    obtain ⟨v, hv, hr⟩ := h3 j x hj
    exact ⟨v, by simpa using hv, hr⟩
  · cases hr
def argList : List SV → Nat → List (Nat × ST)
  | [], _ => []
  | x :: l, k => (k, .v x) :: argList l (k + 1)
theorem look_args : ∀ (l : List SV) (k t : Nat), lookT (argList l k) t = if k ≤ t then (match l[t - k]? with | some x => .v x | none => .any) else .any
  | [], k, t => by simp [argList, lookT]
  | x :: l, k, t => by
    simp only [argList, lookT]
    by_cases e : t = k
    · subst e; simp
    · rw [if_neg e, look_args l (k + 1) t]
      by_cases h : k ≤ t
      · rw [if_pos h, if_pos (by omega)]
        have : t - k = (t - (k + 1)) + 1 := by omega
        rw [this]; simp
      · rw [if_neg h, if_neg (by omega)]
theorem sRes_wx (x : XS) : ∀ l, sRes P (σ.wx x) l = sRes P σ l
  | [] => rfl
  | r :: l => by simp only [sRes, sRes_wx x l]; rfl
theorem sResult_wx (x : XS) (l : List ResultVar) : sResult P (σ.wx x) l = sResult P σ l := by unfold sResult; rw [sRes_wx]
theorem Ext.new (w : World) (mu : Nat → Option (Nat × Nat)) (ok0 : Bool → Nat → Prop) (l : List (Nat × ST)) {ol : List (Nat × SObj)} {n : Nat} : Ext (.at w mu) ok0 (SS.of l ol n) mu w :=
  ⟨fun p hp => by simp [SS.of, XS.nil] at hp, .nil, trivial, fun _ _ _ _ _ _ => trivial, trivial, fun _ _ _ _ _ _ _ _ _ => trivial, fun _ h => h.elim, fun _ h => by cases h⟩
structure Kept (n0 : Nat) (w w' : World) : Prop where
  os : w'.os = w.os
  tape : w'.tape = w.tape
  output : w'.output = w.output
  size : w'.heap.size = w.heap.size
  cell : ∀ (a : Addr) (v : Value), w.cell? a = some v → w'.cell? a = some v
  obj : ∀ (b : Nat) (o : Go.Obj), w.heap[b]? = some o → (∀ x, o ≠ .deferred x) → w'.heap[b]? = some o
  old : ∀ b : Nat, b < n0 → w'.heap[b]? = w.heap[b]?
theorem Kept.refl (n0 : Nat) (w : World) : Kept n0 w w := ⟨rfl, rfl, rfl, rfl, fun _ _ h => h, fun _ _ h _ => h, fun _ _ => rfl⟩
theorem Kept.trans {n0 : Nat} {a b c : World} (h : Kept n0 a b) (k : Kept n0 b c) : Kept n0 a c :=
  ⟨k.os.trans h.os, k.tape.trans h.tape, k.output.trans h.output, k.size.trans h.size, fun p v hp => k.cell p v (h.cell p v hp), fun b o ho hc => k.obj b o (h.obj b o ho hc) hc, fun b hb => (k.old b hb).trans (h.old b hb)⟩
theorem Kept.bel {w0 : W0} {w w' : World} (k : Kept w0.heap.size w w') (h : Bel w0 w) : Bel w0 w' :=
  ⟨k.os.trans h.os, k.tape.trans h.tape, k.output.trans h.output, by rw [k.size]; exact h.size, fun b hb hx hz => (k.old b hb).trans (h.block b hb hx hz)⟩
theorem R0.kept {ok ok' : Bool → Nat → Prop} (hok : ∀ fr b, ok fr b → ok' fr b) (hh : ∀ (a : Addr) (v : Value), w.cell? a = some v → w'.cell? a = some v) : ∀ {v s}, R0 w ok v s → R0 w' ok' v s := by
  intro v s h
  induction h with
  | any v => exact .any v
  | int k n => exact .int k n
  | bool b => exact .bool b
  | str s => exact .str s
  | val v h => exact .val v h
  | nils => exact .nils
  | nilsl fr e => exact .nilsl fr e
  | emp fr e A cap => exact .emp fr e A cap
  | sl fr e rows b off cap f hcap hlen hb hrow hc hr ih => exact .sl fr e rows b off cap f hcap hlen (fun h => hok _ _ (hb h)) hrow (fun i row hi j s hj => hh _ _ (hc i row hi j s hj)) (fun i row hi j s hj => ih i row hi j s hj)
  | rp fr cs b off f hb hc hr ih => exact .rp fr cs b off f (hok _ _ hb) (fun j s hj => hh _ _ (hc j s hj)) (fun j s hj => ih j s hj)
  | fn f caps arr hs hr ih => exact .fn f caps arr hs (fun j s hj => ih j s hj)
theorem R1.kept {mu mu' : Nat → Option (Nat × Nat)} {ok ok' : Bool → Nat → Prop} (hok : ∀ fr b, ok fr b → ok' fr b) (hh : ∀ (a : Addr) (v : Value), w.cell? a = some v → w'.cell? a = some v) (hm : ∀ o p, mu o = some p → mu' o = some p) : ∀ {v s}, R1 w mu ok v s → R1 w' mu' ok' v s := by
  intro v s h
  cases h with
  | c h => exact .c (h.kept hok hh)
  | ms o off len e full b cc cap off' h1 h2 h3 h4 h5 h6 => exact .ms o off len e full b cc cap off' (hm _ _ h1) h2 h3 h4 h5 h6
  | mp o off b cc h1 => exact .mp o off b cc (hm _ _ h1)
theorem RV.kept {mu mu' : Nat → Option (Nat × Nat)} {ok ok' : Bool → Nat → Prop} (hok : ∀ fr b, ok fr b → ok' fr b) (hh : ∀ (a : Addr) (v : Value), w.cell? a = some v → w'.cell? a = some v) (hm : ∀ o p, mu o = some p → mu' o = some p) {v : Value} : ∀ {x : SV}, RV w mu ok v x → RV w' mu' ok' v x
  | .one _, h => R1.kept hok hh hm h
  | .agg _, ⟨arr, h1, h2, h3⟩ => ⟨arr, h1, h2, fun j s hj => by obtain ⟨u, hu, hr⟩ := h3 j s hj; exact ⟨u, hu, R1.kept hok hh hm hr⟩⟩
theorem RT.kept {mu mu' : Nat → Option (Nat × Nat)} {ok ok' : Bool → Nat → Prop} (hok : ∀ fr b, ok fr b → ok' fr b) (hh : ∀ (a : Addr) (v : Value), w.cell? a = some v → w'.cell? a = some v) (hm : ∀ o p, mu o = some p → mu' o = some p) {v : Value} : ∀ {x : ST}, RT w mu ok v x → RT w' mu' ok' v x
  | .v _, h => RV.kept hok hh hm h
  | .tup _, ⟨arr, h1, h2, h3⟩ => ⟨arr, h1, h2, fun j s hj => by obtain ⟨u, hu, hr⟩ := h3 j s hj; exact ⟨u, hu, RV.kept hok hh hm hr⟩⟩
theorem take_kept {r n0 : Nat} (hr : n0 ≤ r) (h : w.heap[r]? = some (.deferred (some []))) : ∃ w', (Instr.takeDeferred r).run P w = .ok [] w' ∧ Kept n0 w w' ∧ ∀ b : Nat, b ≠ r → w'.heap[b]? = w.heap[b]? := by
  refine ⟨_, run_takeDeferred h, ?_, fun b hb => World.putObj_heap_other hb⟩
  have hcell : ∀ (b : Nat) (o : Go.Obj), w.heap[b]? = some o → (∀ x, o ≠ .deferred x) → (w.putObj r (.deferred none)).heap[b]? = some o := fun b o ho hc => by
    refine (World.putObj_heap_other ?_).trans ho
    rintro rfl
    rw [h] at ho; cases ho; exact hc _ rfl
  refine ⟨rfl, rfl, rfl, by simp, fun a v hv => ?_, hcell, fun b hb => World.putObj_heap_other (by omega)⟩
  unfold World.cell? at hv ⊢
  cases ho : w.heap[a.block]? with
  | none => simp [ho] at hv
  | some o =>
    cases o with
    | cells c e f => rw [hcell _ _ ho (fun _ => by simp)]; simpa [ho] using hv
    | _ => simp [ho] at hv
theorem leaves_marks {fn : Func} {tmps : Array Value} {R : Ending → World → Prop} : ∀ (ds : List Deferred) (w : World), DefOK w0 ds w → (∀ w', Kept w0.heap.size w w' → ∃ v, (results fn tmps).run P w' = .ok v w' ∧ R (.returned v) w') →
    LeavesInM Fence.wide 0 P fn tmps R ds .returning w
  | [], w, _, h => h w (Kept.refl _ _)
  | d :: ds, w, hd, h => by
    obtain ⟨hp, hall⟩ := hd
    obtain ⟨r, rfl, h2, h3⟩ := hall d (List.mem_cons_self ..)
    obtain ⟨w', t1, t2, t3⟩ := take_kept (P := P) h2 h3
    refine ⟨by simp, Or.inl ⟨r, w', rfl, t1, leaves_marks ds w' ⟨(List.pairwise_cons.1 hp).2, fun d' hd' => ?_⟩ (fun w2 hk => h w2 (t2.trans hk))⟩⟩
    obtain ⟨r', rfl, k2, k3⟩ := hall d' (List.mem_cons_of_mem _ hd')
    have hne : r' ≠ r := fun e => (List.pairwise_cons.1 hp).1 _ hd' (by rw [e])
    exact ⟨r', rfl, k2, (t3 r' hne).trans k3⟩
theorem IM.kept (h : IM w0 ok0 N σ mu a w) (k : Kept w0.heap.size w w') : IM w0 ok0 N (σ.wx .nil) mu { a with defers := [] } w' := by
  have hok : ∀ fr b, okOf w0 ok0 σ mu w fr b → okOf w0 ok0 (σ.wx .nil) mu w' fr b := fun fr b ⟨h1, h2, h3⟩ => ⟨h1, by rw [k.size]; exact h2, h3⟩
  refine ⟨k.bel h.below, h.size, DefOK.nil _ _, fun t => RT.kept hok k.cell (fun _ _ h => h) (h.m.tmps t), fun o ob ho => ?_, h.m.inj, h.m.fresh, h.m.lent, ⟨fun p hp => by simp [SS.wx, XS.nil] at hp, .nil, trivial, fun _ _ _ _ _ _ => trivial, trivial, fun _ _ _ _ _ _ _ _ _ => trivial, h.m.ext.zed, fun l hl => ?_⟩⟩
  · obtain ⟨b, cur, g1, g2, g3, g4, g5⟩ := h.m.objs o ob ho
    refine ⟨b, cur, g1, g2, k.obj _ _ g3 (fun _ => by simp), g4, fun j s hj => ?_⟩
    obtain ⟨u, hu, hr⟩ := g5 j s hj
    exact ⟨u, hu, R1.kept hok k.cell (fun _ _ h => h) hr⟩
  · obtain ⟨h1, r, hr⟩ := h.m.ext.rnd l hl
    exact ⟨h1, r, k.obj _ _ hr (fun _ => by simp)⟩
theorem calls_of_sh {f : Nat} {fn : Func} {c : Code} {args : Array Value} {R : Ending → World → Prop} (hf : P.funcs[f]? = some fn) (hb : fn.body = some c)
    (h : c.wpIn (Fw none) 0 P (bodyPostM Fence.wide 0 P fn R) { tmps := args ++ Array.replicate (fn.ntmps - args.size) undef, defers := [] } w) : Calls P f args w R :=
  callsIn_wide.1 (callsIn_of_wp_marks (F := Fence.wide) (n := 0) hf hb trivial h)
theorem calls_of_sw' {f : Nat} {fn : Func} {c : Code} {args : List SV} {r : ST} (T : ST → Prop) (hT : ∀ w mu ok v r', RT w mu ok v r' → T r' → RT w mu ok v r) (hf : P.funcs[f]? = some fn) (hb : fn.body = some c) (hname : (fn.name == "runtime.NumGoroutine") = false) (hN : args.length ≤ fn.ntmps)
    (h : sw P fn.ntmps c (fun e σ => (e = .normal ∨ e = .ret) ∧ ∃ r', sResult P (SS.fzR P σ fn.results.toList) fn.results.toList = some r' ∧ T r') (SS.of (argList args 0) [] 0)) : CallsS P f args r := by
  refine ⟨⟨fn, hf, hname, by rw [hb]; rfl⟩, fun w vals ok hok hlen hargs => ?_⟩
  refine calls_of_sh hf hb ?_
  have hinv : Inv (.at w mu0) ok fn.ntmps (SS.of (argList args 0) [] 0) { tmps := vals ++ Array.replicate (fn.ntmps - vals.size) undef, defers := [] } w := by
    refine ⟨Bel.refl _ _, by simp; omega, DefOK.nil _ _, mu0, fun t => ?_, fun o ob ho => by simp [SS.of, lookO] at ho, fun o o' ob ob' b c c' h1 => by simp [SS.of, lookO] at h1, fun o _ => ⟨rfl, rfl⟩, fun o p h => h, Ext.new _ _ _ _⟩
    show RT w mu0 _ _ (lookT (argList args 0) t)
    rw [look_args, if_pos (Nat.zero_le _), Nat.sub_zero]
    cases hx : args[t]? with
    | none => exact RT.any _
    | some x =>
      have htl := (List.getElem?_eq_some_iff.1 hx).1
      have e : (vals ++ Array.replicate (fn.ntmps - vals.size) undef).getD t undef = vals.getD t undef := by
        simp only [Array.getD_eq_getD_getElem?]
        rw [Array.getElem?_append_left (by omega)]
      rw [e]
      exact RV.mono (fun fr b h => ⟨Or.inl h, hok fr b h, fun o ob cc h => by simp [SS.of, lookO] at h⟩) (fun _ _ _ => rfl) (fun _ _ h => h) (hargs t x hx)
  refine wpIn_mono (h (.at w mu0) ok _ w hinv) ?_
  rintro e a' w' ⟨σ, ⟨he, r', hr, hT'⟩, hi⟩
  have hi2 : Inv (.at w mu0) ok fn.ntmps (SS.fzR P σ fn.results.toList) a' w' := Inv.fzR _ σ hi
  obtain ⟨mu, him⟩ := hi2.im
  have fin : LeavesInM Fence.wide 0 P fn a'.tmps (fun e w' => ∃ v', e = .returned v' ∧ RT w' mu0 (fun fr b => (ok fr b ∨ w.heap.size ≤ b) ∧ b < w'.heap.size) v' r ∧ Below w.heap.size w w') a'.defers .returning w' :=
    leaves_marks a'.defers w' him.defers fun w2 hk => by
      have him2 := him.kept hk
      obtain ⟨v, hv, hrv⟩ := run_results (P := P) him2 (fn := fn) (by rw [sResult_wx]; exact hr)
      exact ⟨v, hv, v, rfl, RT.mono (fun fr b h => ⟨by rcases h.1 with h | h | h; exact Or.inl h; exact Or.inr h; exact (by obtain ⟨_, _, h⟩ := h; cases h), h.2.1⟩) (fun _ _ _ => rfl) (fun _ _ h => h) (hT _ _ _ _ _ hrv hT'), him2.below.below⟩
  rcases he with rfl | rfl
  · exact fin
  · exact fin
end
end Go.Proofs.YtaljbebkooppiaaGreat.Sh

namespace Go.Proofs.YtaljbebkooppiaaGreat.Sh
open Go Go.RowKit
def S1.sub (a b : S1) : Prop := a = b ∨ b = .any ∨ (a = .nils ∧ ∃ fr e, b = .sl fr e [])
theorem S1.sub_refl (a : S1) : a.sub a := Or.inl rfl
@[simp] theorem S1.sub_self (a : S1) : a.sub a = True := eq_true (Or.inl rfl)
@[simp] theorem S1.sub_any (a : S1) : a.sub .any = True := eq_true (Or.inr (Or.inl rfl))
@[simp] theorem S1.sub_nil (fr : Bool) (e : Nat) : S1.nils.sub (.sl fr e []) = True := eq_true (Or.inr (Or.inr ⟨rfl, _, _, rfl⟩))
@[simp] theorem S1.sub_nils (fr : Bool) (e : Nat) (l : List (List S1)) : S1.nils.sub (.sl fr e l) = (l = []) := by
  apply propext
  constructor
  · rintro (h | h | ⟨_, fr, e, h⟩)
    · cases h
    · cases h
    · cases h; rfl
  · rintro rfl; exact Or.inr (Or.inr ⟨rfl, _, _, rfl⟩)
@[simp] theorem S1.sub_int (k k' : IntKind) (a b : Int) : (S1.int k a).sub (.int k' b) = (k = k' ∧ a = b) := by
  apply propext
  constructor
  · rintro (h | h | ⟨h, _⟩)
    · cases h; exact ⟨rfl, rfl⟩
    · cases h
    · cases h
  · rintro ⟨rfl, rfl⟩; exact Or.inl rfl
@[simp] theorem S1.sub_bool (a b : Bool) : (S1.bool a).sub (.bool b) = (a = b) := by
  apply propext
  constructor
  · rintro (h | h | ⟨h, _⟩)
    · cases h; rfl
    · cases h
    · cases h
  · rintro rfl; exact Or.inl rfl
@[simp] theorem S1.sub_sl (fr fr' : Bool) (e e' : Nat) (l l' : List (List S1)) : (S1.sl fr e l).sub (.sl fr' e' l') = (fr = fr' ∧ e = e' ∧ l = l') := by
  apply propext
  constructor
  · rintro (h | h | ⟨h, _⟩)
    · cases h; exact ⟨rfl, rfl, rfl⟩
    · cases h
    · cases h
  · rintro ⟨rfl, rfl, rfl⟩; exact Or.inl rfl
@[simp] theorem S1.sub_mp (a b c d : Nat) : (S1.mp a b).sub (.mp c d) = (a = c ∧ b = d) := by
  apply propext
  constructor
  · rintro (h | h | ⟨h, _⟩)
    · cases h; exact ⟨rfl, rfl⟩
    · cases h
    · cases h
  · rintro ⟨rfl, rfl⟩; exact Or.inl rfl
@[simp] theorem S1.sub_ms (o off len e o' off' len' e' : Nat) (full full' : Bool) : (S1.ms o off len e full).sub (.ms o' off' len' e' full') = (o = o' ∧ off = off' ∧ len = len' ∧ e = e' ∧ full = full') := by
  apply propext
  constructor
  · rintro (h | h | ⟨h, _⟩)
    · cases h; exact ⟨rfl, rfl, rfl, rfl, rfl⟩
    · cases h
    · cases h
  · rintro ⟨rfl, rfl, rfl, rfl, rfl⟩; exact Or.inl rfl
def subL : List S1 → List S1 → Prop
  | [], [] => True
  | a :: l, b :: m => a.sub b ∧ subL l m
  | _, _ => False
theorem subL_refl : ∀ l, subL l l
  | [] => trivial
  | a :: l => ⟨S1.sub_refl a, subL_refl l⟩
@[simp] theorem subL_self (l : List S1) : subL l l = True := eq_true (subL_refl l)
@[simp] theorem subL_cons (a b : S1) (l m : List S1) : subL (a :: l) (b :: m) = (a.sub b ∧ subL l m) := rfl
def SV.sub : SV → SV → Prop
  | .one a, .one b => a.sub b
  | .agg l, .agg m => subL l m
  | _, .one .any => True
  | _, _ => False
@[simp] theorem SV.sub_self : ∀ (a : SV), a.sub a = True
  | .one a => S1.sub_self a
  | .agg l => subL_self l
@[simp] theorem SV.sub_one (a b : S1) : (SV.one a).sub (.one b) = a.sub b := rfl
@[simp] theorem SV.sub_agg (l m : List S1) : (SV.agg l).sub (.agg m) = subL l m := rfl
@[simp] theorem SV.sub_any : ∀ (a : SV), a.sub (.one .any) = True
  | .one a => S1.sub_any a
  | .agg l => rfl
def subV : List SV → List SV → Prop
  | [], [] => True
  | a :: l, b :: m => a.sub b ∧ subV l m
  | _, _ => False
@[simp] theorem subV_nil : subV [] [] = True := rfl
@[simp] theorem subV_cons (a b : SV) (l m : List SV) : subV (a :: l) (b :: m) = (a.sub b ∧ subV l m) := rfl
def ST.sub : ST → ST → Prop
  | .v a, .v b => a.sub b
  | .tup l, .tup m => subV l m
  | .tup _, .v b => b = .one .any
  | _, _ => False
@[simp] theorem ST.sub_v (a b : SV) : (ST.v a).sub (.v b) = a.sub b := rfl
@[simp] theorem ST.sub_tup (l m : List SV) : (ST.tup l).sub (.tup m) = subV l m := rfl
section
variable {w w' : World} {mu : Nat → Option (Nat × Nat)} {ok : Bool → Nat → Prop} {P : Program} {N : Nat} {σ : SS}
theorem R1.sub {v : Value} {s s' : S1} (h : R1 w mu ok v s) (hs : s.sub s') : R1 w mu ok v s' := by
  rcases hs with rfl | rfl | ⟨rfl, fr, e, rfl⟩
  · exact h
  · exact .c (.any _)
  · have := h.c0 rfl
    cases this
    exact .c (.nilsl _ _)
theorem subL_spec : ∀ {l m : List S1}, subL l m → l.length = m.length ∧ ∀ (j : Nat) (s : S1), m[j]? = some s → ∃ s', l[j]? = some s' ∧ s'.sub s
  | [], [], _ => ⟨rfl, fun j s h => by simp at h⟩
  | a :: l, b :: m, ⟨h1, h2⟩ => by
    obtain ⟨g1, g2⟩ := subL_spec h2
    refine ⟨by simp [g1], fun j s hj => ?_⟩
    cases j with
    | zero => simp at hj; subst hj; exact ⟨a, rfl, h1⟩
    | succ j => simpa using g2 j s (by simpa using hj)
theorem RV.sub {v : Value} : ∀ {x y : SV}, RV w mu ok v x → x.sub y → RV w mu ok v y
  | .one a, .one b, h, hs => R1.sub h hs
  | .agg l, .agg m, ⟨arr, h1, h2, h3⟩, hs => by
    obtain ⟨g1, g2⟩ := subL_spec hs
    refine ⟨arr, h1, by rw [h2, g1], fun j s hj => ?_⟩
    obtain ⟨s', hs', hsub⟩ := g2 j s hj
    obtain ⟨u, hu, hr⟩ := h3 j s' hs'
    exact ⟨u, hu, R1.sub hr hsub⟩
  | .agg l, .one b, h, hs => by
    cases b <;> first | exact R1.c (.any _) | exact hs.elim
  | .one a, .agg m, h, hs => hs.elim
theorem subV_spec : ∀ {l m : List SV}, subV l m → l.length = m.length ∧ ∀ (j : Nat) (s : SV), m[j]? = some s → ∃ s', l[j]? = some s' ∧ s'.sub s
  | [], [], _ => ⟨rfl, fun j s h => by simp at h⟩
  | a :: l, b :: m, ⟨h1, h2⟩ => by
    obtain ⟨g1, g2⟩ := subV_spec h2
    refine ⟨by simp [g1], fun j s hj => ?_⟩
    cases j with
    | zero => simp at hj; subst hj; exact ⟨a, rfl, h1⟩
    | succ j => simpa using g2 j s (by simpa using hj)
theorem RT.sub {v : Value} : ∀ {x y : ST}, RT w mu ok v x → x.sub y → RT w mu ok v y
  | .v a, .v b, h, hs => RV.sub h hs
  | .tup l, .tup m, ⟨arr, h1, h2, h3⟩, hs => by
    obtain ⟨g1, g2⟩ := subV_spec hs
    refine ⟨arr, h1, by rw [h2, g1], fun j s hj => ?_⟩
    obtain ⟨s', hs', hsub⟩ := g2 j s hj
    obtain ⟨u, hu, hr⟩ := h3 j s' hs'
    exact ⟨u, hu, RV.sub hr hsub⟩
  | .tup l, .v b, h, hs => by have : b = .one .any := hs; subst this; exact RT.any _
  | .v a, .tup m, h, hs => hs.elim
theorem CallsS.args {f : Nat} {args args' : List SV} {r : ST} (h : CallsS P f args r) (hs : subV args' args) : CallsS P f args' r := by
  obtain ⟨g1, g2⟩ := subV_spec hs
  refine ⟨h.1, fun w vals ok hok hl ha => h.2 w vals ok hok (by rw [hl, g1]) fun i x hx => ?_⟩
  obtain ⟨x', hx', hsub⟩ := g2 i x hx
  exact RV.sub (ha i x' hx') hsub
end
end Go.Proofs.YtaljbebkooppiaaGreat.Sh

namespace Go.Proofs.YtaljbebkooppiaaGreat.Sh
open Go Go.RowKit
/-! ### Other names for objects -/
def S1.ren (ρ : Nat → Nat) : S1 → S1
  | .ms o off len e full => .ms (ρ o) off len e full
  | .mp o off => .mp (ρ o) off
  | s => s
def SV.ren (ρ : Nat → Nat) : SV → SV
  | .one s => .one (s.ren ρ)
  | .agg l => .agg (l.map (S1.ren ρ))
def ST.ren (ρ : Nat → Nat) : ST → ST
  | .v x => .v (x.ren ρ)
  | .tup l => .tup (l.map (SV.ren ρ))
section
variable {w w' : World} {mu mu' : Nat → Option (Nat × Nat)} {ok ok' : Bool → Nat → Prop}
theorem R1.unren {ρ : Nat → Nat} (hm : ∀ o p, mu (ρ o) = some p → mu' o = some p) {v : Value} {s : S1} (h : R1 w mu ok v (s.ren ρ)) : R1 w mu' ok v s := by
  cases s with
  | ms o off len e full =>
    cases h with
    | c h => cases h
    | ms _ _ _ _ _ b cc cap off' h1 h2 h3 h4 h5 h6 => exact .ms o off len e full b cc cap off' (hm _ _ h1) h2 h3 h4 h5 h6
  | mp o off =>
    cases h with
    | c h => cases h
    | mp _ _ b cc h1 => exact .mp o off b cc (hm _ _ h1)
  | _ => exact .c (h.c0 rfl)
theorem R1.ren {ρ : Nat → Nat} (hm : ∀ o p, mu o = some p → mu' (ρ o) = some p) {v : Value} {s : S1} (h : R1 w mu ok v s) : R1 w mu' ok v (s.ren ρ) := by
  cases h with
  | ms o off len e full b cc cap off' h1 h2 h3 h4 h5 h6 => exact .ms (ρ o) off len e full b cc cap off' (hm _ _ h1) h2 h3 h4 h5 h6
  | mp o off b cc h1 => exact .mp (ρ o) off b cc (hm _ _ h1)
  | c h =>
    have : s.ren ρ = s := by cases h <;> rfl
    rw [this]; exact .c h
theorem RV.unren {ρ : Nat → Nat} (hm : ∀ o p, mu (ρ o) = some p → mu' o = some p) {v : Value} : ∀ {x : SV}, RV w mu ok v (x.ren ρ) → RV w mu' ok v x
  | .one _, h => R1.unren hm h
  | .agg l, ⟨arr, h1, h2, h3⟩ => ⟨arr, h1, by simpa using h2, fun j s hj => by
      obtain ⟨u, hu, hr⟩ := h3 j (s.ren ρ) (by simp [hj])
      exact ⟨u, hu, R1.unren hm hr⟩⟩
theorem RV.ren {ρ : Nat → Nat} (hm : ∀ o p, mu o = some p → mu' (ρ o) = some p) {v : Value} : ∀ {x : SV}, RV w mu ok v x → RV w mu' ok v (x.ren ρ)
  | .one _, h => R1.ren hm h
  | .agg l, ⟨arr, h1, h2, h3⟩ => ⟨arr, h1, by simpa using h2, fun j s hj => by
      simp only [List.getElem?_map, Option.map_eq_some_iff] at hj
      obtain ⟨s', hj, rfl⟩ := hj
      obtain ⟨u, hu, hr⟩ := h3 j s' hj
      exact ⟨u, hu, R1.ren hm hr⟩⟩
theorem RT.ren {ρ : Nat → Nat} (hm : ∀ o p, mu o = some p → mu' (ρ o) = some p) {v : Value} : ∀ {x : ST}, RT w mu ok v x → RT w mu' ok v (x.ren ρ)
  | .v _, h => RV.ren hm h
  | .tup l, ⟨arr, h1, h2, h3⟩ => ⟨arr, h1, by simpa using h2, fun j s hj => by
      simp only [List.getElem?_map, Option.map_eq_some_iff] at hj
      obtain ⟨s', hj, rfl⟩ := hj
      obtain ⟨u, hu, hr⟩ := h3 j s' hj
      exact ⟨u, hu, RV.ren hm hr⟩⟩
theorem RT.unren {ρ : Nat → Nat} (hm : ∀ o p, mu (ρ o) = some p → mu' o = some p) {v : Value} : ∀ {x : ST}, RT w mu ok v (x.ren ρ) → RT w mu' ok v x
  | .v _, h => RV.unren hm h
  | .tup l, ⟨arr, h1, h2, h3⟩ => ⟨arr, h1, by simpa using h2, fun j s hj => by
      obtain ⟨u, hu, hr⟩ := h3 j (s.ren ρ) (by simp [hj])
      exact ⟨u, hu, RV.unren hm hr⟩⟩
def ObjAt (w : World) (mu : Nat → Option (Nat × Nat)) (ok : Bool → Nat → Prop) (o : Nat) (ob : SObj) : Prop :=
  ∃ b cur, mu o = some (b, cur.size) ∧ w.heap[b]? = some (.cells cur ob.ty (0, 0)) ∧ ob.cells.length ≤ cur.size ∧ ∀ (j : Nat) (s : S1), ob.cells[j]? = some s → ∃ u, cur[j]? = some u ∧ R1 w mu ok u s
structure LentIn (w : World) (okk : Bool → Nat → Prop) (mu : Nat → Option (Nat × Nat)) (objs0 : List SObj) : Prop where
  ok : ∀ fr b, okk fr b → b < w.heap.size ∧ ∀ o cc, mu o ≠ some (b, cc)
  none : ∀ o, objs0.length ≤ o → mu o = none
  inj : ∀ o o' b c c', mu o = some (b, c) → mu o' = some (b, c') → o = o'
  objs : ∀ o ob, objs0[o]? = some ob → ObjAt w mu okk o ob
def okX (w : World) (ok : Bool → Nat → Prop) (mu : Nat → Option (Nat × Nat)) (w' : World) (mu' : Nat → Option (Nat × Nat)) (objs1 : List (Option SObj)) (fr : Bool) (b : Nat) : Prop :=
  (ok fr b ∨ w.heap.size ≤ b ∨ ∃ o cc, mu o = some (b, cc)) ∧ b < w'.heap.size ∧ ∀ o ob cc, objs1[o]? = some (some ob) → mu' o ≠ some (b, cc)
structure LentOut (w : World) (ok : Bool → Nat → Prop) (mu : Nat → Option (Nat × Nat)) (k : Nat) (w' : World) (mu' : Nat → Option (Nat × Nat)) (objs1 : List (Option SObj)) : Prop where
  same : ∀ o, o < k → mu' o = mu o
  none : ∀ o, objs1.length ≤ o → mu' o = none
  inj : ∀ o o' ob ob' b c c', objs1[o]? = some (some ob) → objs1[o']? = some (some ob') → mu' o = some (b, c) → mu' o' = some (b, c') → o = o'
  objs : ∀ o ob, objs1[o]? = some (some ob) → ObjAt w' mu' (okX w ok mu w' mu' objs1) o ob
  new : ∀ o ob b cc, objs1[o]? = some (some ob) → mu' o = some (b, cc) → w.heap.size ≤ b ∨ ∃ o' cc', mu o' = some (b, cc')
  bel : Bel (.at w mu) w'
def CallsX (P : Program) (f : Nat) (args : List SV) (objs0 : List SObj) (r : ST) (objs1 : List (Option SObj)) : Prop :=
  isFn P f ∧ objs0.length ≤ objs1.length ∧ ∀ (w : World) (vals : Array Value) (ok : Bool → Nat → Prop) (mu : Nat → Option (Nat × Nat)), LentIn w ok mu objs0 → vals.size = args.length →
    (∀ (i : Nat) (x : SV), args[i]? = some x → RV w mu ok (vals.getD i undef) x) →
    Calls P f vals w fun e w' => ∃ v mu', e = .returned v ∧ LentOut w ok mu objs0.length w' mu' objs1 ∧ RT w' mu' (okX w ok mu w' mu' objs1) v r
end
section
variable {w0 : W0} {w w' : World} {ok0 : Bool → Nat → Prop} {N : Nat} {σ : SS} {a : Act} {mu : Nat → Option (Nat × Nat)} {P : Program}
def argsX (σ : SS) : List Operand → Option (List SV)
  | [] => some []
  | x :: l => match σ.ev x, argsX σ l with
    | .v y, some ys => some (y :: ys)
    | _, _ => none
theorem argsX_spec (h : IM w0 ok0 N σ mu a w) : ∀ {l : List Operand} {ys : List SV}, argsX σ l = some ys → l.length = ys.length ∧ ∀ (i : Nat) (y : SV), ys[i]? = some y → ∃ x, l[i]? = some x ∧ RV w mu (okOf w0 ok0 σ mu w) (a.eval x) y
  | [], ys, e => by cases e; exact ⟨rfl, fun i y hi => by simp at hi⟩
  | x :: l, ys, e => by
    simp only [argsX] at e
    split at e
    · rename_i y zs hx hl
      cases e
      obtain ⟨i1, i2⟩ := argsX_spec h hl
      refine ⟨by simp [i1], fun i y' hi => ?_⟩
      cases i with
      | zero =>
        simp at hi; subst hi
        refine ⟨x, rfl, ?_⟩
        have := h.ev x
        rw [hx] at this
        exact this
      | succ i => simp at hi; obtain ⟨x', g1, g2⟩ := i2 i y' hi; exact ⟨x', by simpa using g1, g2⟩
    · cases e
def nm (L : List Nat) (n o : Nat) : Nat := match L[o]? with | some i => i | none => n + (o - L.length)
theorem nm_lent {L : List Nat} {n o : Nat} (h : o < L.length) : nm L n o = L[o] := by simp [nm, List.getElem?_eq_getElem h]
theorem nm_new {L : List Nat} {n o : Nat} (h : L.length ≤ o) : nm L n o = n + (o - L.length) := by simp [nm, List.getElem?_eq_none h]
def SObj.ren (ρ : Nat → Nat) (ob : SObj) : SObj := ⟨ob.ty, ob.cells.map (S1.ren ρ)⟩
def setX (ρ : Nat → Nat) : List Nat → List (Option SObj) → (Nat → Option SObj) → Nat → Option SObj
  | i :: L, x :: l, f => fun o => if o = i then x.map (SObj.ren ρ) else setX ρ L l f o
  | _, _, f => f
def newX (ρ : Nat → Nat) (l : List (Option SObj)) (i : Nat) : Option SObj := match l[i]? with
  | some (some ob) => some (ob.ren ρ)
  | _ => none
@[simp] theorem newX_nil (ρ : Nat → Nat) (i : Nat) : newX ρ [] i = none := rfl
@[simp] theorem newX_zero (ρ : Nat → Nat) (l : List (Option SObj)) (x : Option SObj) : newX ρ (x :: l) 0 = x.map (SObj.ren ρ) := by cases x <;> rfl
@[simp] theorem newX_succ (ρ : Nat → Nat) (l : List (Option SObj)) (x : Option SObj) (i : Nat) : newX ρ (x :: l) (i + 1) = newX ρ l i := rfl
def SS.afterX (σ : SS) (L : List Nat) (objs1 : List (Option SObj)) : SS :=
  { t := σ.t, objs := setX (nm L σ.n) L objs1 fun o => if σ.n ≤ o then newX (nm L σ.n) objs1 (L.length + (o - σ.n)) else σ.objs o, n := σ.n + (objs1.length - L.length), x := σ.x }
theorem setX_spec (ρ : Nat → Nat) (f : Nat → Option SObj) : ∀ (L : List Nat) (l : List (Option SObj)) (o : Nat), L.length ≤ l.length → L.Nodup → (∃ i : Nat, L[i]? = some o ∧ ∃ x : Option SObj, l[i]? = some x ∧ setX ρ L l f o = x.map (SObj.ren ρ)) ∨ (o ∉ L ∧ setX ρ L l f o = f o)
  | [], l, o, _, _ => Or.inr ⟨by simp, by simp [setX]⟩
  | i :: L, [], o, h, _ => by simp at h
  | i :: L, x :: l, o, h, hn => by
    simp only [setX]
    by_cases e : o = i
    · subst e; rw [if_pos rfl]; exact Or.inl ⟨0, rfl, x, rfl, rfl⟩
    · rw [if_neg e]
      rcases setX_spec ρ f L l o (by simpa using h) (List.nodup_cons.1 hn).2 with ⟨j, g1, y, g2, g3⟩ | ⟨g1, g2⟩
      · exact Or.inl ⟨j + 1, by simpa using g1, y, by simpa using g2, g3⟩
      · exact Or.inr ⟨by simp [e, g1], g2⟩
theorem afterX_objs {L : List Nat} {objs1 : List (Option SObj)} (hl : L.length ≤ objs1.length) (hn : L.Nodup) (hL : ∀ i ∈ L, i < σ.n) {o : Nat} {ob : SObj} (h : (σ.afterX L objs1).objs o = some ob) :
    (o ∉ L ∧ o < σ.n ∧ σ.objs o = some ob) ∨ ∃ i ob1, o = nm L σ.n i ∧ objs1[i]? = some (some ob1) ∧ ob = ob1.ren (nm L σ.n) := by
  simp only [SS.afterX] at h
  rcases setX_spec (nm L σ.n) (fun o => if σ.n ≤ o then newX (nm L σ.n) objs1 (L.length + (o - σ.n)) else σ.objs o) L objs1 o hl hn with ⟨i, g1, x, g2, g3⟩ | ⟨g1, g2⟩
  · rw [g3, Option.map_eq_some_iff] at h
    obtain ⟨ob1, rfl, rfl⟩ := h
    obtain ⟨hi, hg⟩ := List.getElem?_eq_some_iff.1 g1
    exact Or.inr ⟨i, ob1, by rw [nm_lent hi, hg], g2, rfl⟩
  · rw [g2] at h
    by_cases e : σ.n ≤ o
    · rw [if_pos e] at h
      unfold newX at h
      split at h
      · rename_i ob1 hx
        cases h
        exact Or.inr ⟨L.length + (o - σ.n), ob1, by rw [nm_new (by omega)]; omega, hx, rfl⟩
      · cases h
    · rw [if_neg e] at h
      exact Or.inl ⟨g1, by omega, h⟩
theorem InvM.lentIn (hm : InvM w0 ok0 σ mu a w) {L : List Nat} (hn : L.Nodup) {objs0 : List SObj} (hlen : L.length = objs0.length) (hobj : ∀ i ob, objs0[i]? = some ob → ∃ ob', σ.objs (nm L σ.n i) = some ob' ∧ ob'.ty = ob.ty ∧ subL ob'.cells (ob.cells.map (S1.ren (nm L σ.n)))) :
    LentIn w (okOf w0 ok0 σ mu w) (fun o => mu (nm L σ.n o)) objs0 := by
  have hlive : ∀ o p, mu (nm L σ.n o) = some p → o < L.length ∧ ∃ ob, σ.objs (nm L σ.n o) = some ob := by
    intro o p hp
    by_cases e : o < L.length
    · obtain ⟨ob', g, _⟩ := hobj o objs0[o] (List.getElem?_eq_getElem (by omega))
      exact ⟨e, ob', g⟩
    · rw [(hm.fresh (nm L σ.n o) (by rw [nm_new (by omega)]; omega)).2] at hp; cases hp
  refine ⟨fun fr b h => ⟨h.2.1, fun o cc ho => ?_⟩, fun o ho => ?_, fun o o' b c c' h1 h2 => ?_, fun o ob ho => ?_⟩
  · obtain ⟨_, ob, g⟩ := hlive o _ ho
    exact h.2.2 _ ob cc g ho
  · exact (hm.fresh (nm L σ.n o) (by rw [nm_new (by omega)]; omega)).2
  · obtain ⟨l1, ob, g⟩ := hlive o _ h1
    obtain ⟨l2, ob', g'⟩ := hlive o' _ h2
    have := hm.inj _ _ ob ob' b c c' g g' h1 h2
    rw [nm_lent l1, nm_lent l2] at this
    exact (List.getElem_inj hn).1 this
  · obtain ⟨ob', g1, g2, g3⟩ := hobj o ob ho
    obtain ⟨b, cur, k1, _, k3, k4, k5⟩ := hm.objs _ ob' g1
    obtain ⟨s1, s2⟩ := subL_spec g3
    refine ⟨b, cur, k1, by rw [← g2]; exact k3, by simpa [s1] using k4, fun j s hj => ?_⟩
    obtain ⟨s', hs', hsub⟩ := s2 j (s.ren (nm L σ.n)) (by simp [hj])
    obtain ⟨u, hu, hr⟩ := k5 j s' hs'
    exact ⟨u, hu, R1.unren (fun o p h => h) (R1.sub hr hsub)⟩
theorem InvM.afterX (hbel : Bel w0 w) (hs : a.tmps.size = N) (hdf : DefOK w0 a.defers w) (hm : InvM w0 ok0 σ mu a w) {L : List Nat} (hn : L.Nodup) {objs1 : List (Option SObj)} (hL : ∀ i ∈ L, ∃ ob, σ.objs i = some ob) (hlen : L.length ≤ objs1.length) {mu' : Nat → Option (Nat × Nat)}
    (ho : LentOut w (okOf w0 ok0 σ mu w) (fun o => mu (nm L σ.n o)) L.length w' mu' objs1) (d : Option Nat) (hd : ∀ i, d = some i → i < N) {v : Value} {r : ST} (hr : RT w' mu' (okX w (okOf w0 ok0 σ mu w) (fun o => mu (nm L σ.n o)) w' mu' objs1) v r) :
    Inv w0 ok0 N ((σ.afterX L objs1).put d (r.ren (nm L σ.n))) (a.put d v) w' := by
  have hLn : ∀ i ∈ L, i < σ.n := fun i hi => by
    obtain ⟨ob, g⟩ := hL i hi
    by_cases h : i < σ.n
    · exact h
    · rw [(hm.fresh i (by omega)).1] at g; cases g
  have hmem : ∀ o, o < L.length → nm L σ.n o ∈ L := fun o h => by rw [nm_lent h]; exact List.getElem_mem _
  -- names behind the call
  let mu2 : Nat → Option (Nat × Nat) := fun o => if o < σ.n then mu o else mu' (L.length + (o - σ.n))
  have hmu : ∀ o p, mu o = some p → mu2 o = some p := fun o p hp => by
    have : o < σ.n := by
      by_cases h : o < σ.n
      · exact h
      · rw [(hm.fresh o (by omega)).2] at hp; cases hp
    show (if o < σ.n then mu o else _) = _
    rw [if_pos this]; exact hp
  have hren : ∀ o p, mu' o = some p → mu2 (nm L σ.n o) = some p := fun o p hp => by
    by_cases e : o < L.length
    · have h1 := hLn _ (hmem o e)
      show (if nm L σ.n o < σ.n then mu (nm L σ.n o) else _) = _
      rw [if_pos h1]
      rw [ho.same o e] at hp; exact hp
    · have h1 : nm L σ.n o = σ.n + (o - L.length) := nm_new (by omega)
      show (if nm L σ.n o < σ.n then mu (nm L σ.n o) else mu' (L.length + (nm L σ.n o - σ.n))) = _
      rw [if_neg (by omega), h1, show L.length + (σ.n + (o - L.length) - σ.n) = o by omega]; exact hp
  have hback : ∀ i p, mu2 (nm L σ.n i) = some p → mu' i = some p := fun o p hp => by
    by_cases e : o < L.length
    · have h1 := hLn _ (hmem o e)
      have hp : (if nm L σ.n o < σ.n then mu (nm L σ.n o) else mu' (L.length + (nm L σ.n o - σ.n))) = some p := hp
      rw [if_pos h1] at hp
      rw [ho.same o e]; exact hp
    · have h1 : nm L σ.n o = σ.n + (o - L.length) := nm_new (by omega)
      have hp : (if nm L σ.n o < σ.n then mu (nm L σ.n o) else mu' (L.length + (nm L σ.n o - σ.n))) = some p := hp
      rw [if_neg (by omega), h1, show L.length + (σ.n + (o - L.length) - σ.n) = o by omega] at hp; exact hp
  have hold : ∀ o, o < σ.n → mu2 o = mu o := fun o h => if_pos h
  -- a block that is lent is one of an object of the caller's
  have hlb : ∀ o b cc, mu (nm L σ.n o) = some (b, cc) → ∃ ob, σ.objs (nm L σ.n o) = some ob ∧ nm L σ.n o ∈ L := fun o b cc hp => by
    by_cases e : o < L.length
    · obtain ⟨ob, g⟩ := hL _ (hmem o e); exact ⟨ob, g, hmem o e⟩
    · rw [(hm.fresh (nm L σ.n o) (by rw [nm_new (by omega)]; omega)).2] at hp; cases hp
  have hheap : ∀ b, b < w.heap.size → (∀ o cc, mu (nm L σ.n o) ≠ some (b, cc)) → w'.heap[b]? = w.heap[b]? := fun b hb hx => ho.bel.block b hb (fun ⟨o, cc, h⟩ => hx o cc h) (fun h => h)
  have hokh : ∀ fr b, okOf w0 ok0 σ mu w fr b → w'.heap[b]? = w.heap[b]? := fun fr b h => hheap b h.2.1 (fun o cc hp => by
    obtain ⟨ob, g, _⟩ := hlb o b cc hp
    exact h.2.2 _ ob cc g hp)
  have hX : ∀ o b cc, mu (nm L σ.n o) = some (b, cc) → w0.heap.size ≤ b ∨ w0.X b := fun o b cc hp => by
    obtain ⟨ob, g, _⟩ := hlb o b cc hp
    obtain ⟨b', cur, k1, k2, _⟩ := hm.objs _ ob g
    rw [hp] at k1
    obtain ⟨rfl, _⟩ := Prod.mk.inj (Option.some.inj k1)
    exact k2
  -- what may be read for ever
  have hnl : ∀ o ob b cc, (σ.afterX L objs1).objs o = some ob → mu2 o = some (b, cc) → (o ∉ L ∧ σ.objs o = some ob ∧ mu o = some (b, cc)) ∨ ∃ i ob1, objs1[i]? = some (some ob1) ∧ mu' i = some (b, cc) := by
    intro o ob b cc h1 h2
    rcases afterX_objs hlen hn hLn h1 with ⟨g1, g2, g3⟩ | ⟨i, ob1, rfl, g2, _⟩
    · exact Or.inl ⟨g1, g3, by rw [← hold o g2]; exact h2⟩
    · exact Or.inr ⟨i, ob1, g2, hback i _ h2⟩
  have hok1 : ∀ fr b, okX w (okOf w0 ok0 σ mu w) (fun o => mu (nm L σ.n o)) w' mu' objs1 fr b → okOf w0 ok0 (σ.afterX L objs1) mu2 w' fr b := by
    intro fr b ⟨h1, h2, h3⟩
    refine ⟨?_, h2, fun o ob cc g1 g2 => ?_⟩
    · rcases h1 with h | h | ⟨o, cc, h⟩
      · exact h.1
      · exact Or.inr (Or.inl (Nat.le_trans hbel.size h))
      · exact Or.inr (hX o b cc h)
    · rcases hnl o ob b cc g1 g2 with ⟨k1, k2, k3⟩ | ⟨i, ob1, k1, k2⟩
      · rcases h1 with h | h | ⟨o', cc', h⟩
        · exact h.2.2 o ob cc k2 k3
        · have := hm.lt k2 k3; omega
        · obtain ⟨ob', l1, l2⟩ := hlb o' b cc' h
          have := hm.inj o _ ob ob' b cc cc' k2 l1 k3 h
          rw [this] at k1; exact k1 l2
      · exact h3 i ob1 cc k1 k2
  have hok2 : ∀ fr b, okOf w0 ok0 σ mu w fr b → okOf w0 ok0 (σ.afterX L objs1) mu2 w' fr b := by
    intro fr b h
    refine ⟨h.1, Nat.lt_of_lt_of_le h.2.1 ho.bel.size, fun o ob cc g1 g2 => ?_⟩
    rcases hnl o ob b cc g1 g2 with ⟨_, k2, k3⟩ | ⟨i, ob1, k1, k2⟩
    · exact h.2.2 o ob cc k2 k3
    · rcases ho.new i ob1 b cc k1 k2 with k | ⟨o', cc', k⟩
      · have := h.2.1; omega
      · obtain ⟨ob', l1, _⟩ := hlb o' b cc' k
        exact h.2.2 _ ob' cc' l1 k
  have hbel2 : Bel w0 w' := ⟨ho.bel.os.trans hbel.os, ho.bel.tape.trans hbel.tape, ho.bel.output.trans hbel.output, Nat.le_trans hbel.size ho.bel.size, fun k hk hx hz =>
    (hheap k (Nat.lt_of_lt_of_le hk hbel.size) (fun o cc hp => by rcases hX o k cc hp with h | h; omega; exact hx h)).trans (hbel.block k hk hx hz)⟩
  have hstep : HS (fun b => ∃ o cc, mu (nm L σ.n o) = some (b, cc)) w w' := ⟨ho.bel.os, ho.bel.tape, ho.bel.output, ho.bel.size, fun b hb hy => hheap b hb (fun o cc h => hy ⟨o, cc, h⟩), fun b o h1 h2 => by
    refine (hheap b (Array.getElem?_eq_some_iff.1 h1).1 (fun o' cc hp => ?_)).trans h1
    obtain ⟨ob, g, _⟩ := hlb o' b cc hp
    obtain ⟨b', cur, k1, _, k3, _⟩ := hm.objs _ ob g
    rw [hp] at k1
    obtain ⟨rfl, _⟩ := Prod.mk.inj (Option.some.inj k1)
    rw [h1] at k3; cases k3; cases h2⟩
  refine ⟨hbel2, by rw [size_put, hs], by rw [defers_put]; exact hdf.step hstep, mu2, InvM.put (N := N) ⟨?_, ?_, ?_, ?_, fun o p h => hmu o p (hm.lent o p h), hm.ext.step (σ' := σ.afterX L objs1) rfl hstep hok2 hokh hmu hbel.size (fun b ⟨o, cc, h⟩ => hX o b cc h)⟩ hs d hd v _ (RT.mono hok1 (fun _ _ _ => rfl) (fun _ _ h => h) (RT.ren hren hr))⟩
  · intro t; exact RT.mono hok2 hokh hmu (hm.tmps t)
  · intro o ob h
    rcases afterX_objs hlen hn hLn h with ⟨g1, g2, g3⟩ | ⟨i, ob1, rfl, g2, rfl⟩
    · obtain ⟨b, cur, k1, k2, k3, k4, k5⟩ := hm.objs o ob g3
      refine ⟨b, cur, hmu o _ k1, k2, (hheap b (Array.getElem?_eq_some_iff.1 k3).1 (fun o' cc hp => ?_)).trans k3, k4, fun j s hj => ?_⟩
      · obtain ⟨ob', l1, l2⟩ := hlb o' b cc hp
        have := hm.inj o _ ob ob' b cur.size cc g3 l1 k1 hp
        rw [this] at g1; exact g1 l2
      · obtain ⟨u, hu, hr⟩ := k5 j s hj
        exact ⟨u, hu, R1.mono hok2 hokh hmu hr⟩
    · obtain ⟨b, cur, k1, k3, k4, k5⟩ := ho.objs i ob1 g2
      refine ⟨b, cur, hren i _ k1, ?_, k3, by simpa [SObj.ren] using k4, fun j s hj => ?_⟩
      · rcases ho.new i ob1 b cur.size g2 k1 with k | ⟨o', cc', k⟩
        · exact Or.inl (Nat.le_trans hbel.size k)
        · exact hX o' b cc' k
      · simp only [SObj.ren, List.getElem?_map, Option.map_eq_some_iff] at hj
        obtain ⟨s', hj, rfl⟩ := hj
        obtain ⟨u, hu, hr⟩ := k5 j s' hj
        exact ⟨u, hu, R1.mono hok1 (fun _ _ _ => rfl) (fun _ _ h => h) (R1.ren hren hr)⟩
  · intro o o' ob ob' b c c' h1 h2 h3 h4
    have aux : ∀ o o' ob ob' c c' i ob1, (o ∉ L ∧ o < σ.n ∧ σ.objs o = some ob) → mu2 o = some (b, c) → o' = nm L σ.n i → objs1[i]? = some (some ob1) → ob' = ob1.ren (nm L σ.n) → mu2 o' = some (b, c') → False := by
      rintro o o' ob ob' c c' i ob1 ⟨g1, g2, g3⟩ q rfl k2 _ q'
      rw [hold o g2] at q
      rcases ho.new i ob1 b c' k2 (hback i _ q') with k | ⟨o'', cc', k⟩
      · have := hm.lt g3 q; omega
      · obtain ⟨ob'', l1, l2⟩ := hlb o'' b cc' k
        have := hm.inj o _ ob ob'' b c cc' g3 l1 q k
        rw [this] at g1; exact g1 l2
    rcases afterX_objs hlen hn hLn h1 with g | ⟨i, ob1, g1, g2, g3⟩ <;> rcases afterX_objs hlen hn hLn h2 with k | ⟨i', ob1', k1, k2, k3⟩
    · rw [hold o g.2.1] at h3; rw [hold o' k.2.1] at h4
      exact hm.inj o o' ob ob' b c c' g.2.2 k.2.2 h3 h4
    · exact (aux o o' ob ob' c c' i' ob1' g h3 k1 k2 k3 h4).elim
    · exact (aux o' o ob' ob c' c i ob1 k h4 g1 g2 g3 h3).elim
    · subst g1 k1
      rw [ho.inj i i' ob1 ob1' b c c' g2 k2 (hback i _ h3) (hback i' _ h4)]
  · intro o hno
    have hno' : σ.n + (objs1.length - L.length) ≤ o := hno
    refine ⟨?_, ?_⟩
    · cases he : (σ.afterX L objs1).objs o with
      | none => rfl
      | some ob =>
        rcases afterX_objs hlen hn hLn he with ⟨_, g2, _⟩ | ⟨i, ob1, rfl, g2, _⟩
        · omega
        · have := (List.getElem?_eq_some_iff.1 g2).1
          by_cases e : i < L.length
          · have := hLn _ (hmem i e); omega
          · rw [nm_new (by omega)] at hno'; omega
    · show (if o < σ.n then mu o else mu' (L.length + (o - σ.n))) = none
      rw [if_neg (by omega)]
      exact ho.none _ (by omega)
theorem lent_wp {o : Oper} {c : Call} {f : Nat} {zs ys : List SV} {L : List Nat} {objs0 : List SObj} {r : ST} {objs1 : List (Option SObj)} {next : Act → World → Prop} {Q : Exit → Act → World → Prop} (h : Inv w0 ok0 N σ a w) (ho : o.op = .call c) (hc : c.callee = .value (.func f)) (hys : argsX σ c.args.toList = some zs) (hcall : CallsX P f ys objs0 r objs1)
    (hsub : subV zs (ys.map (SV.ren (nm L σ.n)))) (hn : L.Nodup) (hlen : L.length = objs0.length) (hobj : ∀ i ob, objs0[i]? = some ob → ∃ ob', σ.objs (nm L σ.n i) = some ob' ∧ ob'.ty = ob.ty ∧ subL ob'.cells (ob.cells.map (S1.ren (nm L σ.n))))
    (hd : ∀ i, o.dst = some i → i < N) (hK : ∀ a' w', Inv w0 ok0 N ((σ.afterX L objs1).put o.dst (r.ren (nm L σ.n))) a' w' → next a' w') : o.wp P a w next Q := by
  obtain ⟨hb0, hs, hdf, mu, hm⟩ := h
  have him : IM w0 ok0 N σ mu a w := ⟨hb0, hs, hdf, hm⟩
  obtain ⟨⟨fn, hf1, hf2, hf3⟩, hlen1, hcall⟩ := hcall
  obtain ⟨hl, hargs⟩ := argsX_spec him hys
  obtain ⟨s1, s2⟩ := subV_spec hsub
  have hcalls := hcall w (c.args.map a.eval) (okOf w0 ok0 σ mu w) (fun o => mu (nm L σ.n o)) (hm.lentIn hn hlen hobj) (by rw [List.length_map] at s1; simp at hl; simp; omega) (fun i x hi => by
    obtain ⟨z, k1, k2⟩ := s2 i (x.ren (nm L σ.n)) (by simp [hi])
    obtain ⟨y, g1, g2⟩ := hargs i z k1
    rw [getD_args _ _ _ g1]; exact RV.unren (fun _ _ h => h) (RV.sub g2 k2))
  have hrun : (execOp a.eval o).run P w = .ok (.enter f (c.args.map a.eval)) w := by
    simp only [execOp, ho, resolve, hc, Act.eval, Deferred.ofValue, Sem.run_bind, Sem.run_pure, Result.andThen_ok, invoke, callFunc, run_program, hf1, hf2, hf3]
    simp
  unfold Oper.wp
  rw [hrun, Oper.upon_enter]
  refine hcalls.mono ?_
  rintro E w1 ⟨v, mu', rfl, g1, g2⟩
  refine hK _ _ (hm.afterX hb0 hs hdf hn (fun i hi => ?_) (by omega) (by rw [hlen]; exact g1) o.dst hd g2)
  obtain ⟨j, hj, rfl⟩ := List.getElem_of_mem hi
  obtain ⟨ob', k1, _⟩ := hobj j objs0[j] (List.getElem?_eq_getElem (by omega))
  rw [nm_lent hj] at k1
  exact ⟨ob', k1⟩
end
end Go.Proofs.YtaljbebkooppiaaGreat.Sh

