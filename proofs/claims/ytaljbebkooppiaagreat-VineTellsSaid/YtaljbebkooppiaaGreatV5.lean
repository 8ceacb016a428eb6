/- A part of the proof: Sh14, Sh15 -/
import Derived.Test.YtaljbebkooppiaaGreatV4
set_option linter.unusedSimpArgs false
set_option linter.unusedVariables false
set_option linter.unusedSectionVars false
namespace Go.Proofs.YtaljbebkooppiaaGreat.Sh
open Go Go.RowKit
section
variable {N : Nat} {σ σ' : SS} {P : Program}
/-! ### Cases of which simp computes the first part alone -/
structure Tok {α : Type} (a : α) : Type where
def onO {α : Type} (o : Option α) (K : α → Prop) (_t : Tok K := ⟨⟩) : Prop := match o with | some a => K a | none => False
@[simp] theorem onO_some {α : Type} (a : α) (K : α → Prop) (t : Tok K) : onO (some a) K t = K a := rfl
theorem onO_elim {α : Type} {o : Option α} {K : α → Prop} {t : Tok K} (h : onO o K t) : ∃ a, o = some a ∧ K a := by
  cases o with
  | none => exact h.elim
  | some a => exact ⟨a, rfl, h⟩
def onI (x : ST) (K : IntKind → Int → Prop) (_t : Tok K := ⟨⟩) : Prop := match x with | .v (.one (.int k n)) => K k n | _ => False
@[simp] theorem onI_int (k : IntKind) (n : Int) (K : IntKind → Int → Prop) (t : Tok K) : onI (.v (.one (.int k n))) K t = K k n := rfl
theorem onI_elim {x : ST} {K : IntKind → Int → Prop} {t : Tok K} (h : onI x K t) : ∃ k n, x = .v (.one (.int k n)) ∧ K k n := by
  unfold onI at h
  split at h
  · exact ⟨_, _, rfl, h⟩
  · exact h.elim
def onB (x : ST) (K : Bool → Prop) (_t : Tok K := ⟨⟩) : Prop := match x with | .v (.one (.bool b)) => K b | _ => False
@[simp] theorem onB_bool (b : Bool) (K : Bool → Prop) (t : Tok K) : onB (.v (.one (.bool b))) K t = K b := rfl
theorem onB_elim {x : ST} {K : Bool → Prop} {t : Tok K} (h : onB x K t) : ∃ b, x = .v (.one (.bool b)) ∧ K b := by
  unfold onB at h
  split at h
  · exact ⟨_, rfl, h⟩
  · exact h.elim
def onG (x : ST) (K : Bool → Prop) (L : Prop) (_t : Tok K := ⟨⟩) (_t2 : Tok L := ⟨⟩) : Prop := match x with | .v (.one (.bool b)) => K b | .tup [] => L | _ => False
@[simp] theorem onG_bool (b : Bool) (K : Bool → Prop) (L : Prop) (t : Tok K) (t2 : Tok L) : onG (.v (.one (.bool b))) K L t t2 = K b := rfl
@[simp] theorem onG_no (K : Bool → Prop) (L : Prop) (t : Tok K) (t2 : Tok L) : onG ST.no K L t t2 = L := rfl
theorem onG_elim {x : ST} {K : Bool → Prop} {L : Prop} {t : Tok K} {t2 : Tok L} (h : onG x K L t t2) : (∃ b, x = B b ∧ K b) ∨ (x = ST.no ∧ L) := by
  unfold onG at h
  split at h
  · exact Or.inl ⟨_, rfl, h⟩
  · exact Or.inr ⟨rfl, h⟩
  · exact h.elim
def onV (x : ST) (K : SV → Prop) (_t : Tok K := ⟨⟩) : Prop := match x with | .v y => K y | _ => False
@[simp] theorem onV_v (y : SV) (K : SV → Prop) (t : Tok K) : onV (.v y) K t = K y := rfl
theorem onV_elim {x : ST} {K : SV → Prop} {t : Tok K} (h : onV x K t) : ∃ y, x = .v y ∧ K y := by
  unfold onV at h
  split at h
  · exact ⟨_, rfl, h⟩
  · exact h.elim
def onM (x : ST) (K : Nat → Nat → Prop) (_t : Tok K := ⟨⟩) : Prop := match x with | .v (.one (.mp i off)) => K i off | _ => False
@[simp] theorem onM_mp (i off : Nat) (K : Nat → Nat → Prop) (t : Tok K) : onM (.v (.one (.mp i off))) K t = K i off := rfl
theorem onM_elim {x : ST} {K : Nat → Nat → Prop} {t : Tok K} (h : onM x K t) : ∃ i off, x = .v (.one (.mp i off)) ∧ K i off := by
  unfold onM at h
  split at h
  · exact ⟨_, _, rfl, h⟩
  · exact h.elim
def onS (x : ST) (K : ByteArray → Prop) (_t : Tok K := ⟨⟩) : Prop := match x with | .v (.one (.str s)) => K s | _ => False
@[simp] theorem onS_str (s : ByteArray) (K : ByteArray → Prop) (t : Tok K) : onS (.v (.one (.str s))) K t = K s := rfl
theorem onS_elim {x : ST} {K : ByteArray → Prop} {t : Tok K} (h : onS x K t) : ∃ s, x = .v (.one (.str s)) ∧ K s := by
  unfold onS at h
  split at h
  · exact ⟨_, rfl, h⟩
  · exact h.elim
def onA (x : ST) (K : List S1 → Prop) (_t : Tok K := ⟨⟩) : Prop := match x with | .v (.agg l) => K l | _ => False
@[simp] theorem onA_agg (l : List S1) (K : List S1 → Prop) (t : Tok K) : onA (.v (.agg l)) K t = K l := rfl
theorem onA_elim {x : ST} {K : List S1 → Prop} {t : Tok K} (h : onA x K t) : ∃ l, x = .v (.agg l) ∧ K l := by
  unfold onA at h
  split at h
  · exact ⟨_, rfl, h⟩
  · exact h.elim
def onT (x : ST) (K : List SV → Prop) (_t : Tok K := ⟨⟩) : Prop := match x with | .tup l => K l | _ => False
@[simp] theorem onT_tup (l : List SV) (K : List SV → Prop) (t : Tok K) : onT (.tup l) K t = K l := rfl
theorem onT_elim {x : ST} {K : List SV → Prop} {t : Tok K} (h : onT x K t) : ∃ l, x = .tup l ∧ K l := by
  unfold onT at h
  split at h
  · exact ⟨_, rfl, h⟩
  · exact h.elim
def onFn (x : ST) (K : Nat → List S1 → Prop) (L : Prop) (_t : Tok K := ⟨⟩) (_t2 : Tok L := ⟨⟩) : Prop := match x with | .v (.one (.fn f cs)) => K f cs | .v (.one (.val _)) => L | _ => False
@[simp] theorem onFn_fn (f : Nat) (cs : List S1) (K : Nat → List S1 → Prop) (L : Prop) (t : Tok K) (t2 : Tok L) : onFn (.v (.one (.fn f cs))) K L t t2 = K f cs := rfl
@[simp] theorem onFn_val (v : Value) (K : Nat → List S1 → Prop) (L : Prop) (t : Tok K) (t2 : Tok L) : onFn (.v (.one (.val v))) K L t t2 = L := rfl
theorem onFn_elim {x : ST} {K : Nat → List S1 → Prop} {L : Prop} {t : Tok K} {t2 : Tok L} (h : onFn x K L t t2) : (∃ f cs, x = .v (.one (.fn f cs)) ∧ K f cs) ∨ L := by
  unfold onFn at h
  split at h
  · exact Or.inl ⟨_, _, rfl, h⟩
  · exact Or.inr h
  · exact h.elim
def onCv (x : ST) (K : Int → Prop) (L : Int → Prop) (_t : Tok K := ⟨⟩) (_t2 : Tok L := ⟨⟩) : Prop := match x with | .v (.one (.int _ n)) => K n | .v (.one (.sl _ 1 [[.int .u8 n]])) => L n | _ => False
@[simp] theorem onCv_int (k : IntKind) (n : Int) (K L : Int → Prop) (t : Tok K) (t2 : Tok L) : onCv (.v (.one (.int k n))) K L t t2 = K n := rfl
@[simp] theorem onCv_sl (fr : Bool) (n : Int) (K L : Int → Prop) (t : Tok K) (t2 : Tok L) : onCv (.v (.one (.sl fr 1 [[.int .u8 n]]))) K L t t2 = L n := rfl
theorem onCv_elim {x : ST} {K L : Int → Prop} {t : Tok K} {t2 : Tok L} (h : onCv x K L t t2) : (∃ k n, x = I k n ∧ K n) ∨ ∃ fr n, x = .v (.one (.sl fr 1 [[.int .u8 n]])) ∧ L n := by
  unfold onCv at h
  split at h
  · exact Or.inl ⟨_, _, rfl, h⟩
  · exact Or.inr ⟨_, _, rfl, h⟩
  · exact h.elim
def onSA (x : ST) (K : ByteArray → Prop) (L : List S1 → Prop) (_t : Tok K := ⟨⟩) (_t2 : Tok L := ⟨⟩) : Prop := match x with | .v (.one (.str s)) => K s | .v (.agg l) => L l | _ => False
@[simp] theorem onSA_str (s : ByteArray) (K : ByteArray → Prop) (L : List S1 → Prop) (t : Tok K) (t2 : Tok L) : onSA (.v (.one (.str s))) K L t t2 = K s := rfl
@[simp] theorem onSA_agg (l : List S1) (K : ByteArray → Prop) (L : List S1 → Prop) (t : Tok K) (t2 : Tok L) : onSA (.v (.agg l)) K L t t2 = L l := rfl
theorem onSA_elim {x : ST} {K : ByteArray → Prop} {L : List S1 → Prop} {t : Tok K} {t2 : Tok L} (h : onSA x K L t t2) : (∃ s, x = .v (.one (.str s)) ∧ K s) ∨ ∃ l, x = .v (.agg l) ∧ L l := by
  unfold onSA at h
  split at h
  · exact Or.inl ⟨_, rfl, h⟩
  · exact Or.inr ⟨_, rfl, h⟩
  · exact h.elim
def br (b : Bool) (X Y : Prop) (_t : Tok X := ⟨⟩) (_t2 : Tok Y := ⟨⟩) : Prop := (b = true → X) ∧ (b = false → Y)
@[simp] theorem br_true (X Y : Prop) (t : Tok X) (t2 : Tok Y) : br true X Y t t2 = X := by simp [br]
@[simp] theorem br_false (X Y : Prop) (t : Tok X) (t2 : Tok Y) : br false X Y t t2 = Y := by simp [br]
@[simp] theorem br_decide (p : Prop) [Decidable p] (X Y : Prop) (t : Tok X) (t2 : Tok Y) : br (decide p) X Y t t2 = ((p → X) ∧ (¬ p → Y)) := by simp [br]
@[simp] theorem br_not (b : Bool) (X Y : Prop) (t : Tok X) (t2 : Tok Y) : br (!b) X Y t t2 = br b Y X := by cases b <;> simp [br]
@[simp] theorem br_beq (a b : Int) (X Y : Prop) (t : Tok X) (t2 : Tok Y) : br (a == b) X Y t t2 = ((a = b → X) ∧ (a ≠ b → Y)) := by simp [br]
@[simp] theorem br_bne (a b : Int) (X Y : Prop) (t : Tok X) (t2 : Tok Y) : br (a != b) X Y t t2 = ((a = b → Y) ∧ (a ≠ b → X)) := by simp [br, and_comm]
def TyI.isStr (τ : TyI) : Bool := match τ.kind with | .str => true | _ => false
theorem isStr_eq {τ : TyI} (h : τ.isStr = true) : τ.kind = .str := by unfold TyI.isStr at h; split at h <;> simp_all
def TyI.asInt (τ : TyI) : Option IntKind := match τ.kind with | .int k => some k | _ => none
def TyI.asStruct (τ : TyI) : Option (List (Nat × Nat)) := match τ.kind with | .struct fs => some fs | .arr n _ z => if z = 0 then none else some (arrParts n z) | _ => none
def TyI.asSlice (τ : TyI) : Option (Nat × Nat) := match τ.kind with | .slice e z => some (e, z) | _ => none
theorem asInt_eq {τ : TyI} {k : IntKind} (h : τ.asInt = some k) : τ.kind = .int k := by unfold TyI.asInt at h; split at h <;> simp_all
theorem asStruct_eq {τ : TyI} {fs : List (Nat × Nat)} (h : τ.asStruct = some fs) : isParts τ.kind fs := by
  unfold TyI.asStruct at h
  split at h
  · rename_i hk; injection h with h; subst h; exact .inl hk
  · rename_i n e z hk
    split at h
    · cases h
    · rename_i hz; injection h with h; exact .inr ⟨n, e, z, hk, hz, h.symm⟩
  · cases h
theorem asSlice_eq {τ : TyI} {p : Nat × Nat} (h : τ.asSlice = some p) : τ.kind = .slice p.1 p.2 := by
  unfold TyI.asSlice at h
  split at h
  · rename_i hk; cases h; exact hk
  · cases h
def onMs (x : ST) (K : Nat → Nat → Nat → Nat → Bool → Prop) (_t : Tok K := ⟨⟩) : Prop := match x with | .v (.one (.ms o off len e full)) => K o off len e full | _ => False
@[simp] theorem onMs_ms (o off len e : Nat) (full : Bool) (K : Nat → Nat → Nat → Nat → Bool → Prop) (t : Tok K) : onMs (.v (.one (.ms o off len e full))) K t = K o off len e full := rfl
theorem onMs_elim {x : ST} {K : Nat → Nat → Nat → Nat → Bool → Prop} {t : Tok K} (h : onMs x K t) : ∃ o off len e full, x = .v (.one (.ms o off len e full)) ∧ K o off len e full := by
  unfold onMs at h
  split at h
  · exact ⟨_, _, _, _, _, rfl, h⟩
  · exact h.elim
def onAdd (x y : ST) (K : S1 → Prop) (_t : Tok K := ⟨⟩) : Prop := match x with
  | .v (.one (.int k a)) => onI y fun k' b => k = k' ∧ K (.int k (k.wrap (a + b)))
  | .v (.one (.str s)) => onS y fun s' => s.size + s'.size ≤ 140737488355328 ∧ K (.str (s ++ s'))
  | _ => False
@[simp] theorem onAdd_int (k : IntKind) (a : Int) (y : ST) (K : S1 → Prop) (t : Tok K) : onAdd (.v (.one (.int k a))) y K t = onI y fun k' b => k = k' ∧ K (.int k (k.wrap (a + b))) := rfl
@[simp] theorem onAdd_str (s : ByteArray) (y : ST) (K : S1 → Prop) (t : Tok K) : onAdd (.v (.one (.str s))) y K t = onS y fun s' => s.size + s'.size ≤ 140737488355328 ∧ K (.str (s ++ s')) := rfl
def sEq2 (P : Program) (t : Nat) (x y : ST) : Option Bool :=
  match x, y with
  | .v (.one (.int k a)), .v (.one (.int k' b)) => if k = k' then some (a == b) else none
  | .v (.one (.str a)), .v (.one (.str b)) => some (a.toList == b.toList)
  | x, y => sEqP P t x y
def eBin (P : Program) (t : Nat) (op : BinOp) (x y : ST) (K : S1 → Prop) : Prop :=
  match op with
  | .shl => onI x fun k a => onI y fun _ b => 0 ≤ b ∧ K (.int k (k.wrap (a * 2 ^ (min b.toNat k.bits))))
  | .shr => onI x fun k a => onI y fun _ b => 0 ≤ b ∧ K (.int k (a.fdiv (2 ^ (min b.toNat k.bits))))
  | .quo => onI x fun k a => onI y fun k' b => k = k' ∧ b ≠ 0 ∧ K (.int k (k.wrap (a.tdiv b)))
  | .rem => onI x fun k a => onI y fun k' b => k = k' ∧ b ≠ 0 ∧ K (.int k (a.tmod b))
  | .add => onAdd x y K
  | .sub => onI x fun k a => onI y fun k' b => k = k' ∧ K (.int k (k.wrap (a - b)))
  | .mul => onI x fun k a => onI y fun k' b => k = k' ∧ K (.int k (k.wrap (a * b)))
  | .lss => onI x fun k a => onI y fun k' b => k = k' ∧ K (.bool (decide (a < b)))
  | .leq => onI x fun k a => onI y fun k' b => k = k' ∧ K (.bool (decide (a ≤ b)))
  | .gtr => onI x fun k a => onI y fun k' b => k = k' ∧ K (.bool (decide (b < a)))
  | .geq => onI x fun k a => onI y fun k' b => k = k' ∧ K (.bool (decide (b ≤ a)))
  | .and => onI x fun k a => onI y fun k' b => k = k' ∧ K (.int k (bitsOf .and k a b))
  | .or => onI x fun k a => onI y fun k' b => k = k' ∧ K (.int k (bitsOf .or k a b))
  | .xor => onI x fun k a => onI y fun k' b => k = k' ∧ K (.int k (bitsOf .xor k a b))
  | .eql => onO (sEq2 P t x y) fun p => K (.bool p)
  | .neq => onO (sEq2 P t x y) fun p => K (.bool (!p))
  | .andNot => onI x fun k a => onI y fun k' b => k = k' ∧ K (.int k (bitsOf .andNot k a b))
theorem eBin_sound {t : Nat} {op : BinOp} {x y : ST} {K : S1 → Prop} (h : eBin P t op x y K) :
    ∃ r s, ((∃ s, sBin op x y = some s ∧ r = .v (.one s)) ∨ (∃ p, sEqP P t x y = some p ∧ ((op = .eql ∧ r = B p) ∨ (op = .neq ∧ r = B (!p))))) ∧ r = .v (.one s) ∧ K s := by
  have left : ∀ s, sBin op x y = some s → K s → ∃ r s, ((∃ s, sBin op x y = some s ∧ r = .v (.one s)) ∨ (∃ p, sEqP P t x y = some p ∧ ((op = .eql ∧ r = B p) ∨ (op = .neq ∧ r = B (!p))))) ∧ r = .v (.one s) ∧ K s :=
    fun s h1 h2 => ⟨_, s, Or.inl ⟨s, h1, rfl⟩, rfl, h2⟩
  unfold eBin at h
  split at h
  case h_15 =>
    obtain ⟨p, hp, h⟩ := onO_elim h
    unfold sEq2 at hp
    split at hp
    · split at hp
      · rename_i hk; subst hk; cases hp; exact left _ (by simp [sBin, sInt]) h
      · cases hp
    · cases hp; exact left _ (by simp [sBin]) h
    · exact ⟨B p, .bool p, Or.inr ⟨p, hp, Or.inl ⟨rfl, rfl⟩⟩, rfl, h⟩
  case h_16 =>
    obtain ⟨p, hp, h⟩ := onO_elim h
    unfold sEq2 at hp
    split at hp
    · split at hp
      · rename_i hk; subst hk; cases hp; exact left _ (by simp [sBin, sInt, bne]) h
      · cases hp
    · cases hp; exact left _ (by simp [sBin]) h
    · exact ⟨B (!p), .bool (!p), Or.inr ⟨p, hp, Or.inr ⟨rfl, rfl⟩⟩, rfl, h⟩
  case h_5 =>
    unfold onAdd at h
    split at h
    · obtain ⟨k', v, rfl, rfl, h2⟩ := onI_elim h
      exact left _ (by simp only [sBin, if_true, sInt]) h2
    · obtain ⟨s', rfl, h1, h2⟩ := onS_elim h
      exact left _ (by simp only [sBin, if_pos h1]) h2
    · exact h.elim
  all_goals
    obtain ⟨k, u, rfl, g⟩ := onI_elim h
    obtain ⟨k', v, rfl, g2⟩ := onI_elim g
    clear h g
    first
      | (obtain ⟨h1, h2⟩ := g2; exact left _ (by simp [sBin]; omega) h2)
      | (obtain ⟨rfl, h1, h2⟩ := g2; exact left _ (by simp only [sBin, if_true, sInt, if_neg h1]) h2)
      | (obtain ⟨rfl, h2⟩ := g2; exact left _ (by simp only [sBin, if_true, sInt]) h2)
      | (obtain ⟨rfl, h2⟩ := g2; exact left _ (by simp only [sBin, if_true, sInt]; rfl) h2)
def eCall (P : Program) (f : Nat) (ys : List SV) (K : ST → Prop) (alt : Prop) (_t : Tok K := ⟨⟩) (_t2 : Tok alt := ⟨⟩) : Prop := (∃ r, CallsS P f ys r ∧ K r) ∨ alt
theorem eCall.by {P : Program} {f : Nat} {ys : List SV} {K : ST → Prop} {alt : Prop} {r : ST} {t : Tok K} {t2 : Tok alt} (h : CallsS P f ys r) (k : K r) : eCall P f ys K alt t t2 := Or.inl ⟨r, h, k⟩
def eS (P : Program) (σ : SS) (o : Oper) (K : SS → Prop) (_t : Tok K := ⟨⟩) : Prop :=
  ∀ (w0 : W0) (ok0 : Bool → Nat → Prop) (N : Nat) (a : Act) (w : World) (next : Act → World → Prop) (Q : Exit → Act → World → Prop), Inv w0 ok0 N σ a w → (∀ i, o.dst = some i → i < N) → (∀ σ' a' w', K σ' → Inv w0 ok0 N σ' a' w' → next a' w') → o.wpIn (Fw w0.rho) 0 P a w next Q
def isDyn (o : Oper) : Bool := match o.op with
  | .call c => match c.callee with
    | .value (.tmp _) => true
    | _ => false
  | _ => false
def leX (σ : SS) (ρ : Nat → Nat) : List SObj → Nat → Prop
  | [], _ => True
  | ob :: l, i => (∃ ob', σ.objs (ρ i) = some ob' ∧ ob'.ty = ob.ty ∧ subL ob'.cells (ob.cells.map (S1.ren ρ))) ∧ leX σ ρ l (i + 1)
@[simp] theorem leX_nil (ρ : Nat → Nat) (i : Nat) : leX σ ρ [] i = True := rfl
@[simp] theorem leX_cons (ρ : Nat → Nat) (ob : SObj) (l : List SObj) (i : Nat) : leX σ ρ (ob :: l) i = ((∃ ob', σ.objs (ρ i) = some ob' ∧ ob'.ty = ob.ty ∧ subL ob'.cells (ob.cells.map (S1.ren ρ))) ∧ leX σ ρ l (i + 1)) := rfl
theorem leX_spec {ρ : Nat → Nat} : ∀ {l : List SObj} {k : Nat}, leX σ ρ l k → ∀ (i : Nat) (ob : SObj), l[i]? = some ob → ∃ ob', σ.objs (ρ (k + i)) = some ob' ∧ ob'.ty = ob.ty ∧ subL ob'.cells (ob.cells.map (S1.ren ρ))
  | [], _, _, i, ob, h => by simp at h
  | ob0 :: l, k, ⟨hx, hy⟩, i, ob, h => by
    cases i with
    | zero => simp at h; subst h; exact hx
    | succ i => rw [show k + (i + 1) = k + 1 + i by omega]; exact leX_spec hy i ob (by simpa using h)
def eX (P : Program) (σ : SS) (f : Nat) (as : List Operand) (d : Option Nat) (K : SS → Prop) : Prop :=
  ∃ (L : List Nat) (ys : List SV) (objs0 : List SObj) (r : ST) (objs1 : List (Option SObj)), CallsX P f ys objs0 r objs1 ∧ onO (argsX σ as) (fun zs => subV zs (ys.map (SV.ren (nm L σ.n)))) ∧ (L.Nodup ∧ L.length = objs0.length) ∧
    leX σ (nm L σ.n) objs0 0 ∧ K ((σ.afterX L objs1).put d (r.ren (nm L σ.n)))
theorem eCall.lend {P : Program} {f : Nat} {ys0 : List SV} {K0 : ST → Prop} {as : List Operand} {d : Option Nat} {K : SS → Prop} {t : Tok K0} {t2 : Tok (true = true ∧ eX P σ f as d K)} (L : List Nat) {ys : List SV} {objs0 : List SObj} {r : ST} {objs1 : List (Option SObj)}
    (h : CallsX P f ys objs0 r objs1) (h1 : onO (argsX σ as) (fun zs => subV zs (ys.map (SV.ren (nm L σ.n))))) (h2 : L.Nodup ∧ L.length = objs0.length) (h3 : leX σ (nm L σ.n) objs0 0) (k : K ((σ.afterX L objs1).put d (r.ren (nm L σ.n)))) : eCall P f ys0 K0 (true = true ∧ eX P σ f as d K) t t2 :=
  Or.inr ⟨rfl, L, ys, objs0, r, objs1, h, h1, h2, h3, k⟩
def eAppend (P : Program) (σ : SS) (c : Call) (K : SObj → Option Nat → S1 → Prop) : Prop :=
  match c.args.toList, c.argTypes.toList with
  | [s, y], [t, t'] => t = t' ∧ onO (tyOf P t) fun τ => onO τ.asSlice fun p => onO (tyOf P p.1) fun τe => (τe.zero.length = p.2 ∧ p.2 ≠ 0 ∧ τe.size = p.2) ∧
      onO (σ.base p.2 p.1 (σ.ev s)) fun q => onO (σ.cellsOf (σ.ev y)) fun u => (u.2.1 = p.2 ∧ u.2.2.length = u.1 * p.2 ∧ (u.1 ≠ 0 ∨ q.2.1.isSome = true) ∧ u.2.2.all S1.known = true) ∧ ((q.1 + u.1) * τe.bytes ≤ 140737488355328 ∧ q.1 + u.1 ≤ 140737488355328) ∧
        K ⟨p.1, q.2.2 ++ u.2.2⟩ q.2.1 (.ms σ.n 0 (q.1 + u.1) p.2 true)
  | _, _ => False
def eCopy (P : Program) (σ : SS) (c : Call) (K : SS → Nat → Prop) : Prop :=
  match c.args.toList, c.argTypes.toList with
  | [d, y], [t, _] => onO (tyOf P t) fun τ => onO τ.asSlice fun p => p.2 ≠ 0 ∧ onMs (σ.ev d) fun i off len z _ => z = p.2 ∧ onO (σ.objs i) fun ob => onO (σ.cellsOf (σ.ev y)) fun u =>
      (min u.1 len ≠ 0 → u.2.1 = p.2 ∧ u.2.2.length = u.1 * p.2 ∧ off + min u.1 len * p.2 ≤ ob.cells.length ∧ u.2.2.all S1.known = true) ∧
        K (σ.setObj i { ob with cells := putL ob.cells off (u.2.2.take (min u.1 len * p.2)) }) (min u.1 len)
  | _, _ => False
def isNil0 : List Operand → Bool
  | [.const (.slice none 0 0), _] => true
  | _ => false
theorem isNil0_eq {l : List Operand} (h : isNil0 l = true) : ∃ y, l = [.const (.slice none 0 0), y] := by
  unfold isNil0 at h
  split at h
  · exact ⟨_, rfl⟩
  · cases h
def isAN (o : Oper) : Bool := match o.op with
  | .call c => match c.callee with
    | .builtin .append => isNil0 c.args.toList
    | _ => false
  | .buildSlice .. => true
  | _ => false
def onSl (x : ST) (K : Nat → List (List S1) → Prop) (_t : Tok K := ⟨⟩) : Prop := match x with | .v (.one (.sl _ z rows)) => K z rows | _ => False
@[simp] theorem onSl_sl (fr : Bool) (z : Nat) (rows : List (List S1)) (K : Nat → List (List S1) → Prop) (t : Tok K) : onSl (.v (.one (.sl fr z rows))) K t = K z rows := rfl
theorem onSl_elim {x : ST} {K : Nat → List (List S1) → Prop} {t : Tok K} (h : onSl x K t) : ∃ fr z rows, x = .v (.one (.sl fr z rows)) ∧ K z rows := by
  unfold onSl at h
  split at h
  · exact ⟨_, _, _, rfl, h⟩
  · exact h.elim
def eNilApp (P : Program) (σ : SS) (c : Call) (K : ST → Prop) : Prop :=
  match c.args.toList, c.argTypes.toList with
  | [_, y], [t, t'] => t = t' ∧ onO (tyOf P t) fun τ => onO τ.asSlice fun p => onO (tyOf P p.1) fun τe => (τe.zero.length = p.2 ∧ p.2 ≠ 0 ∧ τe.size = p.2) ∧
      onSl (σ.ev y) fun z rows => (z = p.2 ∧ ∀ row ∈ rows, row.length = z ∧ row.all S1.known = true ∧ row.all S1.closed = true) ∧ (rows.length * τe.bytes ≤ 140737488355328 ∧ rows.length ≤ 140737488355328) ∧
        K (.v (.one (.sl true z rows)))
  | _, _ => False
/-! ### What an operation does -/
inductive Dl where
  | pure (r : ST)
  | set (i : Nat) (ob : SObj) (r : ST)
  | new (ob : SObj) (bo : Option Nat) (x : S1)
def SS.app (σ : SS) (d : Option Nat) : Dl → SS
  | .pure r => σ.put d r
  | .set i ob r => (σ.setObj i ob).put d r
  | .new ob bo x => ((σ.kill bo).new ob).put d (.v (.one x))
def cls (o : Oper) : Nat :=
  match o.op with
  | .load .. => 1
  | .slice .. => 1
  | .box .. => 2
  | .alloc .. => 2
  | .makeSlice .. => 2
  | .buildSlice .. => 2
  | .store .. => 3
  | .call c => match c.callee with
    | .builtin .append => 3
    | .builtin .copy => 3
    | _ => 0
  | _ => 0
def dcls (o : Oper) : Nat := match isAN o with | true => 0 | false => cls o
theorem isAN_call {o : Oper} (h : isAN o = true) : (∃ c y, o.op = .call c ∧ c.callee = .builtin .append ∧ c.args.toList = [.const (.slice none 0 0), y]) ∨ ∃ t len ps, o.op = .buildSlice t len ps := by
  unfold isAN at h
  split at h
  · rename_i c ho
    split at h
    · rename_i hc
      obtain ⟨y, hy⟩ := isNil0_eq h
      exact Or.inl ⟨c, y, ho, hc, hy⟩
    · cases h
  · rename_i t len ps ho; exact Or.inr ⟨t, len, ps, ho⟩
  · cases h
def dStore (P : Program) (σ : SS) (o : Oper) (i : Nat) (ob' : SObj) : Prop :=
  match o.op with
  | .store t x y => ∃ τ off ob z, tyOf P t = some τ ∧ σ.ev x = .v (.one (.mp i off)) ∧ σ.objs i = some ob ∧ σ.ev y = .v z ∧ (z.known = true ∧ z.cells.all S1.known = true) ∧ (z.cells.length = τ.size ∧ off + τ.size ≤ ob.cells.length) ∧
      ob' = { ob with cells := putL ob.cells off z.cells }
  | _ => False
def dCopy (P : Program) (σ : SS) (o : Oper) (i : Nat) (ob' : SObj) (n : Nat) : Prop :=
  match o.op with
  | .call c => c.callee = .builtin .copy ∧ ∃ d y t t2 τ te z off len full ob m e news, c.args = #[d, y] ∧ c.argTypes = #[t, t2] ∧ tyOf P t = some τ ∧ τ.kind = .slice te z ∧ z ≠ 0 ∧
      σ.ev d = .v (.one (.ms i off len z full)) ∧ σ.objs i = some ob ∧ σ.cellsOf (σ.ev y) = some (m, e, news) ∧ (n = min m len) ∧ (n ≠ 0 → e = z ∧ news.length = m * z ∧ off + n * z ≤ ob.cells.length ∧ news.all S1.known = true) ∧
      ob' = { ob with cells := putL ob.cells off (news.take (n * z)) }
  | _ => False
def Does (P : Program) (σ : SS) (o : Oper) : Dl → Prop
  | .pure r => cls o ≤ 1 ∧ sPure P σ o r
  | .set i ob r => cls o = 3 ∧ ((dStore P σ o i ob ∧ r = .any) ∨ ∃ n, dCopy P σ o i ob n ∧ r = I .i64 n)
  | .new ob bo x => (cls o = 2 ∧ bo = none ∧ sAlloc P σ o ob x) ∨ (cls o = 3 ∧ sAppend P σ o ob bo x)
def DoesN (P : Program) (σ : SS) (o : Oper) (δ : Dl) : Prop := (isAN o = false ∧ Does P σ o δ) ∨ (isAN o = true ∧ ∃ r, δ = .pure r ∧ (sAppNil P σ o r ∨ sBuildSl P σ o r))
theorem Does.wp {w0 : W0} {w : World} {ok0 : Bool → Nat → Prop} {a : Act} {o : Oper} {δ : Dl} {next : Act → World → Prop} {Q : Exit → Act → World → Prop} (h : Inv w0 ok0 N σ a w) (hp : Does P σ o δ)
    (hd : ∀ i, o.dst = some i → i < N) (hK : ∀ a' w', Inv w0 ok0 N (σ.app o.dst δ) a' w' → next a' w') : o.wp P a w next Q := by
  cases δ with
  | pure r => exact pure_wp h hp.2 hd hK
  | set i ob r =>
    rcases hp.2 with ⟨h1, rfl⟩ | ⟨n, h1, rfl⟩
    · refine store_wp h ?_ hd hK
      unfold dStore at h1
      unfold sStore
      split at h1
      · rename_i ho
        obtain ⟨τ, off, ob0, z, g1, g2, g3, g4, g5, g6, rfl⟩ := h1
        simp only [ho]
        exact ⟨τ, i, off, ob0, z, g1, g2, g3, g4, g5, g6, rfl⟩
      · exact h1.elim
    · refine copy_wp h ?_ hd hK
      unfold dCopy at h1
      unfold sCopy
      split at h1
      · rename_i ho
        obtain ⟨g0, d, y, t, t2, τ, te, z, off, len, full, ob0, m, e, news, g1, g2, g3, g4, g5, g6, g7, g8, g9, g10, rfl⟩ := h1
        simp only [ho]
        exact ⟨g0, d, y, t, t2, τ, te, z, i, off, len, full, ob0, m, e, news, g1, g2, g3, g4, g5, g6, g7, g8, g9, g10, rfl⟩
      · exact h1.elim
  | new ob bo x =>
    rcases hp with ⟨_, rfl, h1⟩ | ⟨_, h1⟩
    · exact alloc_wp h h1 hd hK
    · exact append_wp h h1 hd hK
theorem DoesN.wp {w0 : W0} {w : World} {ok0 : Bool → Nat → Prop} {a : Act} {o : Oper} {δ : Dl} {next : Act → World → Prop} {Q : Exit → Act → World → Prop} (h : Inv w0 ok0 N σ a w) (hp : DoesN P σ o δ)
    (hd : ∀ i, o.dst = some i → i < N) (hK : ∀ a' w', Inv w0 ok0 N (σ.app o.dst δ) a' w' → next a' w') : o.wp P a w next Q := by
  rcases hp with ⟨_, hp⟩ | ⟨_, r, rfl, hp⟩
  · exact hp.wp h hd hK
  · rcases hp with hp | hp
    · exact appNil_wp h hp hd hK
    · exact buildSl_wp h hp hd hK
/-! ### An operation, computed -/
def SS.fzB (fz : Bool) (σ : SS) (l : List Operand) : SS := match fz with | true => σ.fzA l | false => σ
def fzOf (o : Oper) : List Operand :=
  match o.op with
  | .buildSlice _ _ ps => ps.toList.map (·.2)
  | .makeFunc _ _ caps => caps.toList
  | .call c => match c.callee with
    | .value (.func _) => c.args.toList
    | .value (.tmp _) => c.args.toList
    | _ => []
  | _ => []
theorem SS.fzB_nil (fz : Bool) (σ : SS) : σ.fzB fz [] = σ := by cases fz <;> rfl
theorem Inv.fzB {w0 : W0} {w : World} {ok0 : Bool → Nat → Prop} {a : Act} {fz : Bool} {l : List Operand} (h : Inv w0 ok0 N σ a w) : Inv w0 ok0 N (σ.fzB fz l) a w := by
  cases fz with
  | true => exact Inv.fzA l σ h
  | false => exact h
def eOp (P : Program) (fz : Bool) (St : Prop) (σ : SS) (o : Oper) (K : SS → Prop) : Prop :=
  match o.op with
  | .move x => K (σ.put o.dst (σ.ev x))
  | .assign x => K (σ.put o.dst (σ.ev x))
  | .pick c x y => onB (σ.ev c) fun t => K (σ.put o.dst (if t = true then σ.ev x else σ.ev y))
  | .load t x => onO (tyOf P t) fun τ => onO (sLoad σ τ (σ.ev x)) fun y => K (σ.put o.dst (.v y))
  | .binOp op t x y _ => eBin P t op (σ.ev x) (σ.ev y) fun s => K (σ.put o.dst (.v (.one s)))
  | .unOp op _ x => onO (sUn op (σ.ev x)) fun s => K (σ.put o.dst (.v (.one s)))
  | .convert src t x => onO (tyOf P src) fun τs => onO (tyOf P t) fun τ => onCv (σ.ev x) (fun n => onO τ.asInt fun k => K (σ.put o.dst (I k (k.wrap n)))) (fun n => onO τs.asSlice fun p => onO (tyOf P p.1) fun τe => (p.2 = 1 ∧ τe.asInt = some .u8 ∧ τ.isStr = true) ∧ K (σ.put o.dst (.v (.one (.str (ByteArray.empty.push (UInt8.ofNat n.toNat)))))))
  | .fieldAddr t x f => onO (tyOf P t) fun τ => onO (sFieldAddr τ f (σ.ev x)) fun s => K (σ.put o.dst (.v (.one s)))
  | .indexAddr t x i => onO (tyOf P t) fun τ => onI (σ.ev i) fun _ n => onO (sIndexAddr τ n (σ.ev x)) fun p => (0 ≤ n ∧ n < (p.1 : Nat)) ∧ K (σ.put o.dst (.v (.one p.2)))
  | .slice t x lo hi mx => onO (tyOf P t) fun τ => onO (optInt σ lo) fun l => onO (optInt σ hi) fun h => onO (optInt σ mx) fun m => onO (sCut σ τ l h m (σ.ev x)) fun p => cutOK p.1 l h m ∧ K (σ.put o.dst (.v (.one p.2)))
  | .extract x i => onT (σ.ev x) fun l => onO l[i]? fun y => K (σ.put o.dst (.v y))
  | .field t x f => onO (fldOf P t f) fun p => onA (σ.ev x) fun l => onO (sPart p.2 p.1 l) fun y => K (σ.put o.dst (.v y))
  | .build t parts => onO (tyOf P t) fun τ => onO τ.asStruct fun fs => (τ.zero.isEmpty = false ∧ (fs.all fun p => p.2 != 0) = true) ∧ onO (fillS fs σ (τ.zero.map ofVal1) parts.toList) fun cs => K (σ.put o.dst (.v (.agg cs)))
  | .index t x i => onO (tyOf P t) fun τ => onSA (σ.ev x) (fun s => onI (σ.ev i) fun _ n => (τ.isStr = true ∧ 0 ≤ n ∧ n < (s.size : Nat)) ∧ K (σ.put o.dst (I .u8 (byteAt s n)))) (fun l => onI (σ.ev i) fun _ n => onO (sItem P t n l) fun y => K (σ.put o.dst (.v y)))
  | .nilCheck x => onO (sPtr (σ.ev x)) fun s => K (σ.put o.dst (.v (.one s)))
  | .store t x y => onO (tyOf P t) fun τ => onM (σ.ev x) fun i off => onO (σ.objs i) fun ob => onV (σ.ev y) fun z => (z.known = true ∧ z.cells.all S1.known = true) ∧ (z.cells.length = τ.size ∧ off + τ.size ≤ ob.cells.length) ∧
      K ((σ.setObj i { ob with cells := putL ob.cells off z.cells }).put o.dst .any)
  | .box t y => onV (σ.ev y) fun z => z.known = true ∧ K ((σ.new ⟨t, z.cells⟩).put o.dst (.v (.one (.mp σ.n 0))))
  | .alloc t => onO (tyOf P t) fun τ => τ.zero.isEmpty = false ∧ K ((σ.new ⟨t, τ.zero.map ofVal1⟩).put o.dst (.v (.one (.mp σ.n 0))))
  | .makeSlice t l c => onO (tyOf P t) fun τ => onO τ.asSlice fun p => onO (tyOf P p.1) fun τe => onI (σ.ev l) fun k n => onI (σ.ev c) fun k' m => (k = .i64 ∧ k' = .i64 ∧ n ≤ m) ∧ (τe.zero.length = p.2 ∧ p.2 ≠ 0) ∧ (0 ≤ n ∧ τe.bytes * m ≤ 281474976710656 ∧ m ≤ 281474976710656) ∧
      K ((σ.new ⟨p.1, (List.replicate n.toNat (τe.zero.map ofVal1)).flatten⟩).put o.dst (.v (.one (.ms σ.n 0 n.toNat p.2 true))))
  | .buildSlice t len ps => match fz with
    | true => onO (tyOf P t) fun τ => onO τ.asSlice fun p => onO (tyOf P p.1) fun τe => τe.zero.isEmpty = false ∧ (p.2 ≠ 0 ∧ len * p.2 ≤ 2 ^ 24) ∧ onO (fillS (slots p.2 len) (σ.fzB true (ps.toList.map (·.2))) (List.replicate (len * p.2) .any) ps.toList) fun cs =>
      K (((σ.fzB true (ps.toList.map (·.2))).new ⟨p.1, cs⟩).put o.dst (.v (.one (.ms (σ.fzB true (ps.toList.map (·.2))).n 0 len p.2 true))))
    | false => onO (tyOf P t) fun τ => onO τ.asSlice fun p => onO (tyOf P p.1) fun τe => τe.zero.isEmpty = false ∧ (p.2 ≠ 0 ∧ len * p.2 ≤ 2 ^ 24) ∧ onO (fillS (slots p.2 len) σ (List.replicate (len * p.2) .any) ps.toList) fun cs =>
      cs.all S1.closed = true ∧ K (σ.put o.dst (.v (.one (.sl true p.2 (rowsOf cs 0 p.2 len)))))
  | .makeFunc (.func f) first caps => first.size = 0 ∧ onO (argsOf (σ.fzB fz caps.toList) caps.toList) fun ys => onO (onesOf ys) fun cs => K ((σ.fzB fz caps.toList).put o.dst (.v (.one (.fn f cs))))
  | .makeMap _ _ => fz = true ∧ eS P σ o K
  | .lookup _ _ _ _ => fz = true ∧ eS P σ o K
  | .mapUpdate _ _ _ _ => fz = true ∧ eS P σ o K
  | .call c => match c.callee with
    | .value (.func f) => onO (argsOf (σ.fzB fz c.args.toList) c.args.toList) fun ys => eCall P f ys (fun r => K ((σ.fzB fz c.args.toList).put o.dst r)) (fz = true ∧ eX P σ f c.args.toList o.dst K)
    | .value (.tmp t) => onFn ((σ.fzB fz c.args.toList).t t) (fun f cs => onO (argsOf (σ.fzB fz c.args.toList) c.args.toList) fun ys => eCall P f (ys ++ cs.map SV.one) (fun r => K ((σ.fzB fz c.args.toList).put o.dst r)) False) (St ∧ eS P σ o K)
    | .builtin .append => match !fz && isNil0 c.args.toList with
      | true => eNilApp P σ c fun r => K (σ.put o.dst r)
      | false => eAppend P σ c fun ob bo x => K (((σ.kill bo).new ob).put o.dst (.v (.one x)))
    | .builtin .copy => eCopy P σ c fun σ' n => K (σ'.put o.dst (I .i64 n))
    | .builtin b => onO (sBuiltin P σ b c.args.toList c.argTypes.toList) fun s => K (σ.put o.dst (.v (.one s)))
    | _ => False
  | _ => False
def isX (P : Program) (σ : SS) (o : Oper) (K : SS → Prop) : Prop := ∃ c f, o.op = .call c ∧ c.callee = .value (.func f) ∧ eX P σ f c.args.toList o.dst K
theorem isX_wp {w0 : W0} {w : World} {ok0 : Bool → Nat → Prop} {a : Act} {o : Oper} {K : SS → Prop} {next : Act → World → Prop} {Q : Exit → Act → World → Prop} (h : Inv w0 ok0 N σ a w) (hx : isX P σ o K)
    (hd : ∀ i, o.dst = some i → i < N) (hK : ∀ σ' a' w', K σ' → Inv w0 ok0 N σ' a' w' → next a' w') : o.wp P a w next Q := by
  obtain ⟨c, f, ho, hc, L, ys, objs0, r, objs1, h0, h1, h2, h3, h4⟩ := hx
  obtain ⟨zs, hz, hsub⟩ := onO_elim h1
  exact lent_wp h ho hc hz h0 hsub h2.1 h2.2 (fun i ob hi => by have := leX_spec h3 i ob hi; rwa [Nat.zero_add] at this) hd (fun a' w' hi => hK _ a' w' h4 hi)
theorem eOp_nil {St : Prop} {o : Oper} {K : SS → Prop} (h : eOp P false St σ o K) (ha : isAN o = true) : ∃ r, (sAppNil P σ o r ∨ sBuildSl P σ o r) ∧ K (σ.put o.dst r) := by
  rcases isAN_call ha with ⟨c, y, ho, hc, hy⟩ | ⟨t, len, ps, ho⟩
  case inr =>
    unfold eOp at h
    simp only [ho] at h
    obtain ⟨τ, ht, h⟩ := onO_elim h
    obtain ⟨⟨te, z⟩, hk, h⟩ := onO_elim h
    obtain ⟨τe, hte, h1, h2, h⟩ := onO_elim h
    obtain ⟨cs, hcs, h3, h⟩ := onO_elim h
    exact ⟨_, Or.inr (by simp only [sBuildSl, ho]; exact ⟨τ, te, z, τe, cs, ht, asSlice_eq hk, hte, h1, h2, hcs, h3, rfl⟩), h⟩
  unfold eOp at h
  simp only [ho, hc, hy, isNil0, Bool.not_false, Bool.and_self] at h
  unfold eNilApp at h
  split at h
  · rename_i x y' t t' hargs htys
    rw [hy] at hargs
    injection hargs with e1 e2
    injection e2 with e2 e3
    subst e1; subst e2
    obtain ⟨rfl, h⟩ := h
    obtain ⟨τ, ht, h⟩ := onO_elim h
    obtain ⟨⟨te, z⟩, hk, h⟩ := onO_elim h
    obtain ⟨τe, hte, h1, h⟩ := onO_elim h
    obtain ⟨fr, z', rows, hev, ⟨rfl, h2⟩, h3, h⟩ := onSl_elim h
    refine ⟨_, Or.inl ?_, h⟩
    simp only [sAppNil, ho]
    exact ⟨hc, y, t, τ, te, _, τe, fr, rows, by apply Array.ext'; simpa using hy, by apply Array.ext'; simpa using htys, ht, asSlice_eq hk, hte, h1, hev, h2, h3, rfl⟩
  · exact h.elim
theorem eOp_does' {fz : Bool} {St : Prop} {o : Oper} {K : SS → Prop} (h : eOp P fz St σ o K) (hnn : (!fz && isAN o) = false) : (∃ δ, Does P (σ.fzB fz (fzOf o)) o δ ∧ K ((σ.fzB fz (fzOf o)).app o.dst δ)) ∨ (fz = true ∧ isX P σ o K) ∨ ((fz = true ∨ (isDyn o = true ∧ St)) ∧ eS P σ o K) := by
  have pure : ∀ r, cls o ≤ 1 → fzOf o = [] → sPure P σ o r → K (σ.put o.dst r) → (∃ δ, Does P (σ.fzB fz (fzOf o)) o δ ∧ K ((σ.fzB fz (fzOf o)).app o.dst δ)) ∨ (fz = true ∧ isX P σ o K) ∨ ((fz = true ∨ (isDyn o = true ∧ St)) ∧ eS P σ o K) :=
    fun r h0 hz h1 h2 => by rw [hz, SS.fzB_nil]; exact Or.inl ⟨.pure r, ⟨h0, h1⟩, h2⟩
  have alloc : ∀ ob x, cls o = 2 → fzOf o = [] → sAlloc P σ o ob x → K ((σ.new ob).put o.dst (.v (.one x))) → (∃ δ, Does P (σ.fzB fz (fzOf o)) o δ ∧ K ((σ.fzB fz (fzOf o)).app o.dst δ)) ∨ (fz = true ∧ isX P σ o K) ∨ ((fz = true ∨ (isDyn o = true ∧ St)) ∧ eS P σ o K) :=
    fun ob x h0 hz h1 h2 => by rw [hz, SS.fzB_nil]; exact Or.inl ⟨.new ob none x, Or.inl ⟨h0, rfl, h1⟩, h2⟩
  unfold eOp at h
  split at h
  · rename_i ho; exact pure _ (by simp [cls, *]) (by simp [fzOf, *]) (by simp only [sPure, ho]) h
  · rename_i ho; exact pure _ (by simp [cls, *]) (by simp [fzOf, *]) (by simp only [sPure, ho]) h
  · rename_i c x y ho
    obtain ⟨t, hc, h⟩ := onB_elim h
    exact pure _ (by simp [cls, *]) (by simp [fzOf, *]) (by simp only [sPure, ho]; exact ⟨t, hc, rfl⟩) h
  · rename_i t x ho
    obtain ⟨τ, ht, h⟩ := onO_elim h
    obtain ⟨y, hy, h⟩ := onO_elim h
    exact pure _ (by simp [cls, *]) (by simp [fzOf, *]) (by simp only [sPure, ho]; exact ⟨τ, y, ht, hy, rfl⟩) h
  · rename_i op t x y ty ho
    obtain ⟨r, s, h1, rfl, h2⟩ := eBin_sound h
    exact pure _ (by simp [cls, *]) (by simp [fzOf, *]) (by simp only [sPure, ho]; exact h1) h2
  · rename_i op t x ho
    obtain ⟨s, hs, h⟩ := onO_elim h
    exact pure _ (by simp [cls, *]) (by simp [fzOf, *]) (by simp only [sPure, ho]; exact ⟨s, hs, rfl⟩) h
  · rename_i src t x ho
    obtain ⟨τs, hts, h⟩ := onO_elim h
    obtain ⟨τ, ht, h⟩ := onO_elim h
    rcases onCv_elim h with ⟨k, n, hx, h⟩ | ⟨fr, n, hx, h⟩
    · obtain ⟨k', hk, h⟩ := onO_elim h
      exact pure _ (by simp [cls, *]) (by simp [fzOf, *]) (by simp only [sPure, ho]; exact Or.inl ⟨τ, τs, k', k, n, hts, ht, asInt_eq hk, hx, rfl⟩) h
    · obtain ⟨⟨e, z⟩, hk, h⟩ := onO_elim h
      obtain ⟨τe, hte, ⟨hz, h8, hst⟩, hh⟩ := onO_elim h
      have hk2 := asSlice_eq hk
      dsimp only at hz hk2 hte
      subst hz
      exact pure _ (by simp [cls, *]) (by simp [fzOf, *]) (by simp only [sPure, ho]; exact Or.inr ⟨τ, τs, τe, e, fr, n, hts, hk2, hte, asInt_eq h8, ht, isStr_eq hst, hx, rfl⟩) hh
  · rename_i t x f ho
    obtain ⟨τ, ht, h⟩ := onO_elim h
    obtain ⟨s, hs, h⟩ := onO_elim h
    exact pure _ (by simp [cls, *]) (by simp [fzOf, *]) (by simp only [sPure, ho]; exact ⟨τ, s, ht, hs, rfl⟩) h
  · rename_i t x i ho
    obtain ⟨τ, ht, h⟩ := onO_elim h
    obtain ⟨k, n, hi, h⟩ := onI_elim h
    obtain ⟨⟨m, s⟩, hs, h⟩ := onO_elim h
    exact pure _ (by simp [cls, *]) (by simp [fzOf, *]) (by simp only [sPure, ho]; exact ⟨τ, k, n, m, s, ht, hi, hs, h.1, rfl⟩) h.2
  · rename_i t x lo hi mx ho
    obtain ⟨τ, ht, h⟩ := onO_elim h
    obtain ⟨l, h1, h⟩ := onO_elim h
    obtain ⟨hh, h2, h⟩ := onO_elim h
    obtain ⟨m, h3, h⟩ := onO_elim h
    obtain ⟨⟨n, s⟩, hs, h⟩ := onO_elim h
    exact pure _ (by simp [cls, *]) (by simp [fzOf, *]) (by simp only [sPure, ho]; exact ⟨τ, l, hh, m, n, s, ht, h1, h2, h3, hs, h.1, rfl⟩) h.2
  · rename_i x i ho
    obtain ⟨l, hx, h⟩ := onT_elim h
    obtain ⟨y, hy, h⟩ := onO_elim h
    exact pure _ (by simp [cls, *]) (by simp [fzOf, *]) (by simp only [sPure, ho]; exact ⟨l, y, hx, hy, rfl⟩) h
  · rename_i t x f ho
    obtain ⟨⟨off, τ⟩, hf, h⟩ := onO_elim h
    obtain ⟨l, hx, h⟩ := onA_elim h
    obtain ⟨y, hy, h⟩ := onO_elim h
    exact pure _ (by simp [cls, *]) (by simp [fzOf, *]) (by simp only [sPure, ho]; exact ⟨off, τ, l, y, hf, hx, hy, rfl⟩) h
  · rename_i t parts ho
    obtain ⟨τ, ht, h⟩ := onO_elim h
    obtain ⟨fs, hk, h1, h⟩ := onO_elim h
    obtain ⟨cs, hcs, h⟩ := onO_elim h
    exact pure _ (by simp [cls, *]) (by simp [fzOf, *]) (by simp only [sPure, ho]; exact ⟨τ, fs, cs, ht, asStruct_eq hk, h1, hcs, rfl⟩) h
  · rename_i t x i ho
    obtain ⟨τ, ht, h⟩ := onO_elim h
    rcases onSA_elim h with ⟨s, hx, h⟩ | ⟨l, hx, h⟩
    · obtain ⟨k, n, hi, ⟨h1, h2⟩, h⟩ := onI_elim h
      exact pure _ (by simp [cls, *]) (by simp [fzOf, *]) (by simp only [sPure, ho]; exact Or.inl ⟨τ, s, k, n, ht, isStr_eq h1, hx, hi, h2, rfl⟩) h
    · obtain ⟨k, n, hi, h⟩ := onI_elim h
      obtain ⟨y, hy, h⟩ := onO_elim h
      exact pure _ (by simp [cls, *]) (by simp [fzOf, *]) (by simp only [sPure, ho]; exact Or.inr ⟨l, k, n, y, hx, hi, hy, rfl⟩) h
  · rename_i x ho
    obtain ⟨s, hs, h⟩ := onO_elim h
    exact pure _ (by simp [cls, *]) (by simp [fzOf, *]) (by simp only [sPure, ho]; exact ⟨s, hs, rfl⟩) h
  · rename_i t x y ho
    obtain ⟨τ, ht, h⟩ := onO_elim h
    obtain ⟨i, off, hx, h⟩ := onM_elim h
    obtain ⟨ob, hob, h⟩ := onO_elim h
    obtain ⟨z, hy, h1, h2, h3⟩ := onV_elim h
    have hz : fzOf o = [] := by simp [fzOf, ho]
    rw [hz, SS.fzB_nil]
    exact Or.inl ⟨.set i _ .any, ⟨by simp [cls, ho], Or.inl ⟨by simp only [dStore, ho]; exact ⟨τ, off, ob, z, ht, hx, hob, hy, h1, h2, rfl⟩, rfl⟩⟩, h3⟩
  · rename_i t y ho
    obtain ⟨z, hz, h⟩ := onV_elim h
    exact alloc _ _ (by simp [cls, *]) (by simp [fzOf, *]) (by simp only [sAlloc, ho]; exact ⟨z, hz, h.1, by simp⟩) h.2
  · rename_i t ho
    obtain ⟨τ, ht, h⟩ := onO_elim h
    exact alloc _ _ (by simp [cls, *]) (by simp [fzOf, *]) (by simp only [sAlloc, ho]; exact ⟨τ, ht, h.1, by simp⟩) h.2
  · rename_i t l c ho
    obtain ⟨τ, ht, h⟩ := onO_elim h
    obtain ⟨⟨te, z⟩, hk, h⟩ := onO_elim h
    obtain ⟨τe, hte, h⟩ := onO_elim h
    obtain ⟨k, n, hl, h⟩ := onI_elim h
    obtain ⟨k', m, hc, ⟨rfl, rfl, hnm⟩, h1, h2, h3⟩ := onI_elim h
    exact alloc _ _ (by simp [cls, *]) (by simp [fzOf, *]) (by simp only [sAlloc, ho]; exact ⟨τ, te, z, τe, n, _, ht, asSlice_eq hk, hte, h1, hl, hc, hnm, h2, rfl, rfl⟩) h3
  · rename_i t len ps ho
    have hfz : fz = true := by simpa [isAN, ho] using hnn
    subst hfz
    dsimp only at h
    obtain ⟨τ, ht, h⟩ := onO_elim h
    obtain ⟨⟨te, z⟩, hk, h⟩ := onO_elim h
    obtain ⟨τe, hte, h1, h2, h⟩ := onO_elim h
    obtain ⟨cs, hcs, h3⟩ := onO_elim h
    have hz : fzOf o = ps.toList.map (·.2) := by simp [fzOf, ho]
    rw [hz]
    exact Or.inl ⟨.new _ none _, Or.inl ⟨by simp [cls, ho], rfl, by simp only [sAlloc, ho]; exact ⟨τ, te, z, τe, cs, ht, asSlice_eq hk, hte, h1, h2, hcs, rfl, rfl⟩⟩, h3⟩
  · rename_i f first caps ho
    obtain ⟨hfi, h⟩ := h
    obtain ⟨ys, hys, h⟩ := onO_elim h
    obtain ⟨cs, hcs, h⟩ := onO_elim h
    have hz : fzOf o = caps.toList := by simp [fzOf, ho]
    rw [hz]
    exact Or.inl ⟨.pure _, ⟨by simp [cls, ho], by simp only [sPure, ho]; exact ⟨f, ys, cs, rfl, Array.eq_empty_of_size_eq_zero hfi, hys, hcs, rfl⟩⟩, h⟩
  · exact Or.inr (Or.inr ⟨Or.inl h.1, h.2⟩)
  · exact Or.inr (Or.inr ⟨Or.inl h.1, h.2⟩)
  · exact Or.inr (Or.inr ⟨Or.inl h.1, h.2⟩)
  · rename_i c ho
    split at h
    · rename_i f hc
      obtain ⟨ys, hys, h⟩ := onO_elim h
      rcases h with ⟨r, h1, h2⟩ | ⟨hfz, hx⟩
      case inr => exact Or.inr (Or.inl ⟨hfz, c, f, ho, hc, hx⟩)
      have hz : fzOf o = c.args.toList := by simp [fzOf, ho, hc]
      rw [hz]
      exact Or.inl ⟨.pure r, ⟨by simp [cls, ho, hc], by simp only [sPure, ho, hc]; exact ⟨ys, hys, h1⟩⟩, h2⟩
    · rename_i t hc
      have hz : fzOf o = c.args.toList := by simp [fzOf, ho, hc]
      rcases onFn_elim h with ⟨f, cs, hf, h⟩ | h
      · obtain ⟨ys, hys, h⟩ := onO_elim h
        rcases h with ⟨r, h1, h2⟩ | h
        · rw [hz]
          exact Or.inl ⟨.pure r, ⟨by simp [cls, ho, hc], by simp only [sPure, ho, hc]; exact ⟨f, cs, ys, hf, hys, h1⟩⟩, h2⟩
        · exact h.elim
      · exact Or.inr (Or.inr ⟨Or.inr ⟨by simp [isDyn, ho, hc], h.1⟩, h.2⟩)
    · rename_i hc
      have hnn' : (!fz && isNil0 c.args.toList) = false := by simpa [isAN, ho, hc] using hnn
      rw [hnn'] at h
      dsimp only at h
      unfold eAppend at h
      split at h
      · rename_i s y t t' hargs htys
        obtain ⟨rfl, h⟩ := h
        obtain ⟨τ, ht, h⟩ := onO_elim h
        obtain ⟨⟨te, z⟩, hk, h⟩ := onO_elim h
        obtain ⟨τe, hte, h1, h⟩ := onO_elim h
        obtain ⟨⟨n, bo, old⟩, hb, h⟩ := onO_elim h
        obtain ⟨⟨m, e, news⟩, hcl, h2, h3, h⟩ := onO_elim h
        have hz : fzOf o = [] := by simp [fzOf, ho, hc]
        rw [hz, SS.fzB_nil]
        exact Or.inl ⟨.new _ bo _, Or.inr ⟨by simp [cls, ho, hc], by simp only [sAppend, ho]; exact ⟨hc, s, y, t, τ, te, z, τe, n, m, e, old, news, by apply Array.ext'; simpa using hargs, by apply Array.ext'; simpa using htys, ht, asSlice_eq hk, hte, h1, hb, hcl, h2, h3, rfl, rfl⟩⟩, h⟩
      · exact h.elim
    · rename_i hc
      unfold eCopy at h
      split at h
      · rename_i d y t t' hargs htys
        obtain ⟨τ, ht, h⟩ := onO_elim h
        obtain ⟨⟨te, z⟩, hk, hz, h⟩ := onO_elim h
        obtain ⟨i, off, len, z', full, hd', rfl, h⟩ := onMs_elim h
        obtain ⟨ob, hob, h⟩ := onO_elim h
        obtain ⟨⟨m, e, news⟩, hcl, h2, h⟩ := onO_elim h
        have hz0 : fzOf o = [] := by simp [fzOf, ho, hc]
        rw [hz0, SS.fzB_nil]
        exact Or.inl ⟨.set i _ _, ⟨by simp [cls, ho, hc], Or.inr ⟨_, by simp only [dCopy, ho]; exact ⟨hc, d, y, t, t', τ, te, _, off, len, full, ob, m, e, news, by apply Array.ext'; simpa using hargs, by apply Array.ext'; simpa using htys, ht, asSlice_eq hk, hz, hd', hob, hcl, rfl, h2, rfl⟩, rfl⟩⟩, h⟩
      · exact h.elim
    · rename_i b hb1 hb2 hc
      obtain ⟨s, hs, h⟩ := onO_elim h
      exact pure _ (by simp only [cls, ho, hc]; split <;> simp_all) (by simp [fzOf, *]) (by simp only [sPure, ho, hc]; exact ⟨s, hs, rfl⟩) h
    · exact h.elim
  · exact h.elim
theorem eOp_does {St : Prop} {o : Oper} {K : SS → Prop} (h : eOp P false St σ o K) : (∃ δ, DoesN P (σ.fzB false (fzOf o)) o δ ∧ K ((σ.fzB false (fzOf o)).app o.dst δ)) ∨ (isDyn o = true ∧ St ∧ eS P σ o K) := by
  cases hn : isAN o with
  | true =>
    obtain ⟨r, h1, h2⟩ := eOp_nil h hn
    exact Or.inl ⟨.pure r, Or.inr ⟨hn, r, rfl, h1⟩, h2⟩
  | false =>
  rcases eOp_does' h (by simp [hn]) with ⟨δ, h1, h2⟩ | ⟨h, _⟩ | ⟨h, h2⟩
  · exact Or.inl ⟨δ, Or.inl ⟨hn, h1⟩, h2⟩
  · cases h
  · exact Or.inr ⟨(h.resolve_left (by simp)).1, (h.resolve_left (by simp)).2, h2⟩
end
end Go.Proofs.YtaljbebkooppiaaGreat.Sh

namespace Go.Proofs.YtaljbebkooppiaaGreat.Sh
open Go Go.RowKit
section
variable {N : Nat} {σ σ' : SS} {P : Program}
structure Sees (o : Oper) (σ σ' : SS) : Prop where
  ev : ∀ x ∈ o.op.operands, σ'.ev x = σ.ev x
  objs : dcls o = 1 → ∀ i ob, σ.objs i = some ob → σ'.objs i = some ob
  same : dcls o = 3 → σ'.objs = σ.objs
  n : 2 ≤ dcls o → σ'.n = σ.n
theorem at_mono (hm : ∀ i ob, σ.objs i = some ob → σ'.objs i = some ob) {x : ST} {cs : List S1} (h : σ.at x = some cs) : σ'.at x = some cs := by
  unfold SS.at at *
  split at h
  · exact h
  · rename_i i off
    cases hi : σ.objs i with
    | none => simp [hi] at h
    | some ob => simp only [hi, Option.map_some] at h; simp only [hm i ob hi, Option.map_some]; exact h
  · cases h
theorem load_mono (hm : ∀ i ob, σ.objs i = some ob → σ'.objs i = some ob) {τ : TyI} {x : ST} {y : SV} (h : sLoad σ τ x = some y) : sLoad σ' τ x = some y := by
  unfold sLoad at *
  split at h
  · rename_i cs hc; simp only [at_mono hm hc]; exact h
  · cases h
theorem cut_mono (hm : ∀ i ob, σ.objs i = some ob → σ'.objs i = some ob) {τ : TyI} {l h m : Option Int} {x : ST} {y : Nat × S1} (e : sCut σ τ l h m x = some y) : sCut σ' τ l h m x = some y := by
  unfold sCut at *
  split at e
  · exact e
  · exact e
  · rename_i i off
    split at e
    · rename_i hk ho
      simp only [hk, hm _ _ ho]
      exact e
    · cases e
  · exact e
  · cases e
theorem optInt_same {x : Option Operand} (h : ∀ y ∈ x.toArray, σ'.ev y = σ.ev y) : optInt σ' x = optInt σ x := by
  cases x with
  | none => rfl
  | some x => simp [optInt, h x (by simp)]
theorem argsOf_same : ∀ {l : List Operand}, (∀ y ∈ l, σ'.ev y = σ.ev y) → argsOf σ' l = argsOf σ l
  | [], _ => rfl
  | x :: l, h => by
    have h2 : argsOf σ' l = argsOf σ l := argsOf_same (fun y hy => h y (List.mem_cons_of_mem _ hy))
    simp only [argsOf, h x (by simp), h2]
theorem fillS_same {fs : List (Nat × Nat)} : ∀ {l : List (Nat × Operand)} {cs : List S1}, (∀ y ∈ l, σ'.ev y.2 = σ.ev y.2) → fillS fs σ' cs l = fillS fs σ cs l
  | [], _, _ => rfl
  | (i, x) :: l, cs, h => by
    have h1 := h (i, x) (by simp)
    simp only at h1
    simp only [fillS, h1]
    split
    · split
      · exact fillS_same (fun y hy => h y (by simp [hy]))
      · rfl
    · rfl
theorem sBuiltin_same {b : Builtin} {l : List Operand} {t : List Nat} (h : ∀ y ∈ l, σ'.ev y = σ.ev y) : sBuiltin P σ' b l t = sBuiltin P σ b l t := by
  unfold sBuiltin
  split
  · rw [h _ (by simp)]
  · rw [h _ (by simp), h _ (by simp)]
  · rfl
theorem sPure_same {o : Oper} {r : ST} (hp : sPure P σ o r) (h : ∀ x ∈ o.op.operands, σ'.ev x = σ.ev x) (hm : cls o = 1 → ∀ i ob, σ.objs i = some ob → σ'.objs i = some ob) : sPure P σ' o r := by
  obtain ⟨dst, op, type, pos, after, guard⟩ := o
  unfold sPure at *
  cases op <;> simp only [Op.operands] at h hp ⊢ <;> try exact hp.elim
  case move x => rw [h x (by simp)]; exact hp
  case assign x => rw [h x (by simp)]; exact hp
  case pick c x y => rw [h c (by simp), h x (by simp), h y (by simp)]; exact hp
  case load t x =>
    rw [h x (by simp)]
    obtain ⟨τ, y, h1, h2, h3⟩ := hp
    exact ⟨τ, y, h1, load_mono (hm rfl) h2, h3⟩
  case binOp op t x y t2 => rw [h x (by simp), h y (by simp)]; exact hp
  case unOp op t x => rw [h x (by simp)]; exact hp
  case convert s t x => rw [h x (by simp)]; exact hp
  case fieldAddr t x f => rw [h x (by simp)]; exact hp
  case indexAddr t x i => rw [h x (by simp), h i (by simp)]; exact hp
  case slice t x lo hi mx =>
    rw [h x (by simp), optInt_same (fun y hy => h y (by simp at hy ⊢; simp [hy])), optInt_same (fun y hy => h y (by simp at hy ⊢; simp [hy])), optInt_same (fun y hy => h y (by simp at hy ⊢; simp [hy]))]
    obtain ⟨τ, l, g, m, n, s, h1, h2, h3, h4, h5, h6⟩ := hp
    exact ⟨τ, l, g, m, n, s, h1, h2, h3, h4, cut_mono (hm rfl) h5, h6⟩
  case extract x i => rw [h x (by simp)]; exact hp
  case field t x f => rw [h x (by simp)]; exact hp
  case build t ps =>
    obtain ⟨τ, fs, cs, h1, h2, h3, h4, h5⟩ := hp
    refine ⟨τ, fs, cs, h1, h2, h3, ?_, h5⟩
    rw [fillS_same (fun y hy => h y.2 (by simp; exact ⟨y.1, by simpa using hy⟩))]
    exact h4
  case index t x i => rw [h x (by simp), h i (by simp)]; exact hp
  case nilCheck x => rw [h x (by simp)]; exact hp
  case makeFunc fn first caps =>
    obtain ⟨f, ys, cs, h1, h2, h3, h4, h5⟩ := hp
    refine ⟨f, ys, cs, h1, h2, ?_, h4, h5⟩
    rw [argsOf_same (fun y hy => h y (by simp; right; simpa using hy))]
    exact h3
  case call c =>
    split at hp
    · rename_i hc
      obtain ⟨ys, h1, h2⟩ := hp
      refine ⟨ys, ?_, h2⟩
      rw [argsOf_same (fun y hy => h y (by simp [Call.operands, hc]; right; simpa using hy))]
      exact h1
    · rename_i t hc
      obtain ⟨f, cs, ys, h0, h1, h2⟩ := hp
      refine ⟨f, cs, ys, ?_, ?_, h2⟩
      · have := h (.tmp t) (by simp [Call.operands, hc])
        exact Eq.trans this h0
      · rw [argsOf_same (fun y hy => h y (by simp [Call.operands, hc]; right; simpa using hy))]
        exact h1
    · rename_i hc
      obtain ⟨ys, h1, h2⟩ := hp
      refine ⟨ys, ?_, h2⟩
      rw [sBuiltin_same (fun y hy => h y (by simp [Call.operands, hc]; simpa using hy))]
      exact h1
    · exact hp
theorem dcls_eq {o : Oper} (h : isAN o = false) : dcls o = cls o := by unfold dcls; rw [h]
theorem Does.same {o : Oper} {δ : Dl} (hp : Does P σ o δ) (hna : isAN o = false) (h : Sees o σ σ') : Does P σ' o δ := by
  have h : (∀ x ∈ o.op.operands, σ'.ev x = σ.ev x) ∧ (cls o = 1 → ∀ i ob, σ.objs i = some ob → σ'.objs i = some ob) ∧ (cls o = 3 → σ'.objs = σ.objs) ∧ (2 ≤ cls o → σ'.n = σ.n) := by
    rw [← dcls_eq hna]; exact ⟨h.ev, h.objs, h.same, h.n⟩
  obtain ⟨hev, hobjs, hsame, hnn⟩ := h
  cases δ with
  | pure r => exact ⟨hp.1, sPure_same hp.2 hev hobjs⟩
  | set i ob r =>
    obtain ⟨hc, hp⟩ := hp
    have ho := hsame hc
    refine ⟨hc, hp.imp (fun h1 => ⟨?_, h1.2⟩) (fun h1 => ?_)⟩
    · have h1 := h1.1
      unfold dStore at *
      split at h1
      · rename_i t x y hop
        rw [hev x (by simp [hop, Op.operands]), hev y (by simp [hop, Op.operands]), ho]
        exact h1
      · exact h1.elim
    · obtain ⟨n, h1, h2⟩ := h1
      refine ⟨n, ?_, h2⟩
      unfold dCopy at *
      split at h1
      · rename_i c hop
        obtain ⟨g0, d, y, t, t2, τ, te, z, off, len, full, ob0, m, e, news, g1, g2, g3, g4, g5, g6, g7, g8, g9⟩ := h1
        refine ⟨g0, d, y, t, t2, τ, te, z, off, len, full, ob0, m, e, news, g1, g2, g3, g4, g5, ?_, ?_, ?_, g9⟩
        · rw [hev d (by simp [hop, Op.operands, Call.operands, g0, g1])]; exact g6
        · rw [ho]; exact g7
        · rw [hev y (by simp [hop, Op.operands, Call.operands, g0, g1])]; unfold SS.cellsOf at *; rw [ho]; exact g8
      · exact h1.elim
  | new ob bo x =>
    rcases hp with ⟨hc, h0, hp⟩ | ⟨hc, hp⟩
    · refine Or.inl ⟨hc, h0, ?_⟩
      have hn := hnn (by omega)
      unfold sAlloc at *
      split at hp
      · rename_i t y hop
        rw [hev y (by simp [hop, Op.operands]), hn]
        exact hp
      · rw [hn]; exact hp
      · rename_i t len ps hop
        obtain ⟨τ, te, z, τe, cs, h1, h2, h3, h4, h5, h6, h7⟩ := hp
        refine ⟨τ, te, z, τe, cs, h1, h2, h3, h4, h5, ?_, ?_⟩
        · rw [fillS_same (fun y hy => hev y.2 (by simp [hop, Op.operands]; exact ⟨y.1, by simpa using hy⟩))]
          exact h6
        · rw [hn]; exact h7
      · rename_i t l c hop
        rw [hev l (by simp [hop, Op.operands]), hev c (by simp [hop, Op.operands]), hn]
        exact hp
      · exact hp
    · refine Or.inr ⟨hc, ?_⟩
      have hn := hnn (by omega)
      have ho := hsame hc
      unfold sAppend at *
      split at hp
      · rename_i c hop
        obtain ⟨g0, s, y, t, τ, te, z, τe, n, m, e, old, news, g1, g2, g3, g4, g5, g6, g7, g8, g9⟩ := hp
        refine ⟨g0, s, y, t, τ, te, z, τe, n, m, e, old, news, g1, g2, g3, g4, g5, g6, ?_, ?_, by rw [hn]; exact g9⟩
        · rw [hev s (by simp [hop, Op.operands, Call.operands, g0, g1])]; unfold SS.base at *; rw [ho]; exact g7
        · rw [hev y (by simp [hop, Op.operands, Call.operands, g0, g1])]; unfold SS.cellsOf at *; rw [ho]; exact g8
      · exact hp.elim
theorem DoesN.same {o : Oper} {δ : Dl} (hp : DoesN P σ o δ) (h : Sees o σ σ') : DoesN P σ' o δ := by
  rcases hp with ⟨h0, hp⟩ | ⟨h0, r, rfl, hp⟩
  · exact Or.inl ⟨h0, hp.same h0 h⟩
  · refine Or.inr ⟨h0, r, rfl, ?_⟩
    rcases hp with hp | hp
    case inr =>
      refine Or.inr ?_
      unfold sBuildSl at *
      split at hp
      · rename_i t len ps hop
        obtain ⟨τ, te, z, τe, cs, g1, g2, g3, g4, g5, g6, g7, g8⟩ := hp
        refine ⟨τ, te, z, τe, cs, g1, g2, g3, g4, g5, ?_, g7, g8⟩
        rw [fillS_same (fun y hy => h.ev y.2 (by simp [hop, Op.operands]; exact ⟨y.1, by simpa using hy⟩))]
        exact g6
      · exact hp.elim
    refine Or.inl ?_
    unfold sAppNil at *
    split at hp
    · rename_i c hop
      obtain ⟨hc, y, t, τ, te, z, τe, fr, rows, hargs, htys, ht, hk, hte, g1, hy, g2, g3, g4⟩ := hp
      refine ⟨hc, y, t, τ, te, z, τe, fr, rows, hargs, htys, ht, hk, hte, g1, ?_, g2, g3, g4⟩
      rw [h.ev y (by simp [hop, Op.operands, Call.operands, hc, hargs])]
      exact hy
    · exact hp.elim
/-! ### With a guard -/
def DoesG (P : Program) (ops : Array Oper) (σ : SS) (o : Oper) (δ : Dl) : Prop :=
  match o.guard with
  | none => DoesN P σ o δ
  | some (j, want) => ∃ d, (ops[j]?).bind (·.dst) = some d ∧ ((σ.t d = B want ∧ DoesN P σ o δ) ∨ ((σ.t d = B (!want) ∨ σ.t d = ST.no) ∧ δ = .pure ST.no))
def Dl.fits (c : Nat) : Dl → Prop
  | .pure _ => True
  | .new _ bo _ => (c = 2 ∧ bo = none) ∨ c = 3
  | .set _ _ _ => c = 3
theorem DoesG.fits {ops : Array Oper} {o : Oper} {δ : Dl} (h : DoesG P ops σ o δ) : δ.fits (dcls o) := by
  have one : DoesN P σ o δ → δ.fits (dcls o) := fun h => by
    rcases h with ⟨h0, h⟩ | ⟨h0, r, rfl, h⟩
    case inr => trivial
    rw [dcls_eq h0]
    cases δ with
    | pure r => trivial
    | set i ob r => exact h.1
    | new ob bo x => exact h.imp (fun h => ⟨h.1, h.2.1⟩) (fun h => h.1)
  unfold DoesG at h
  split at h
  · exact one h
  · obtain ⟨d, _, ⟨_, h⟩ | ⟨_, rfl⟩⟩ := h
    · exact one h
    · trivial
theorem DoesG.same {ops : Array Oper} {o : Oper} {δ : Dl} (h : DoesG P ops σ o δ) (hs : Sees o σ σ') (hg : ∀ j want d, o.guard = some (j, want) → (ops[j]?).bind (·.dst) = some d → σ'.t d = σ.t d) : DoesG P ops σ' o δ := by
  unfold DoesG at *
  split at h
  · exact DoesN.same h hs
  · rename_i j want hgd
    obtain ⟨d, h1, h3⟩ := h
    exact ⟨d, h1, by rw [hg j want d hgd h1]; exact h3.imp (fun h => ⟨h.1, DoesN.same h.2 hs⟩) id⟩
theorem DoesG.wp {ops : Array Oper} {w0 : W0} {w : World} {ok0 : Bool → Nat → Prop} {a : Act} {i : Nat} {o : Oper} {δ : Dl} {next : Act → World → Prop} {Q : Exit → Act → World → Prop} (hi : ops[i]? = some o) (h : Inv w0 ok0 N σ a w) (hp : DoesG P ops σ o δ)
    (hd : ∀ i, o.dst = some i → i < N) (hnd : notDefer o = true) (hK : ∀ a' w', Inv w0 ok0 N (σ.app o.dst δ) a' w' → next a' w') : wpOpIn (Fw w0.rho) 0 P ops Q i next a w := by
  unfold wpOpIn
  simp only [hi]
  unfold DoesG at hp
  split at hp
  · rename_i hg
    rw [if_pos (by simp [Region.wanted, hg])]
    exact toIn hnd (hp.wp h hd hK)
  · rename_i j want hg
    obtain ⟨d, h1, h3⟩ := hp
    obtain ⟨mu, him⟩ := h.im
    rcases h3 with ⟨h2, h3⟩ | ⟨h2 | h2, rfl⟩
    · have hy := guard_yes (ops := ops) him (by simpa using h1) h2
      rw [if_pos (by simp [Region.wanted, hg, hy])]
      exact toIn hnd (h3.wp h hd hK)
    · have hy := guard_yes (ops := ops) him (by simpa using h1) h2
      rw [if_neg (by simp [Region.wanted, hg, hy])]
      exact ⟨fun _ _ => trivial, hK _ _ (h.put o.dst hd undef ST.no (fun _ _ => RT.no))⟩
    · have hy := guard_no (ops := ops) him (by simpa using h1) h2
      rw [if_neg (by simp [Region.wanted, hg, hy])]
      exact ⟨fun _ _ => trivial, hK _ _ (h.put o.dst hd undef ST.no (fun _ _ => RT.no))⟩
end
end Go.Proofs.YtaljbebkooppiaaGreat.Sh

