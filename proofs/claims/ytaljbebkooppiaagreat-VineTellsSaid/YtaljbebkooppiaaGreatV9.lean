/- A part of the proof: Sh31, Sh32, Sh33, Sh34, Sh35 -/
import Derived.Test.YtaljbebkooppiaaGreatV8
set_option linter.unusedSimpArgs false
set_option linter.unusedVariables false
set_option linter.unusedSectionVars false
namespace Go.Proofs.YtaljbebkooppiaaGreat.Sh
open Go Go.RowKit
section
variable {N : Nat} {σ σ' : SS} {P : Program} {ops : Array Oper}
def adrT (o : Oper) : Option (Nat × Bool) := match o.guard with
  | some _ => none
  | none => match o.op with
    | .load _ (.tmp t) => some (t, false)
    | .store _ (.tmp t) _ => some (t, true)
    | _ => none
def objOf : ST → Option Nat
  | .v (.one (.mp o _)) => some o
  | _ => none
@[simp] theorem objOf_mp (o k : Nat) : objOf (.v (.one (.mp o k))) = some o := rfl
@[simp] theorem objOf_rp (fr : Bool) (cs : List S1) : objOf (.v (.one (.rp fr cs))) = none := rfl
def sepOK (τ : Nat → ST) (oi oj : Oper) : Prop := ∃ ti bi tj bj, adrT oi = some (ti, bi) ∧ adrT oj = some (tj, bj) ∧ objOf (τ ti) ≠ objOf (τ tj)
theorem sLoad_sep {τ : TyI} {x : ST} {i : Nat} (ho : objOf x ≠ some i) (h : ∀ k, k ≠ i → σ'.objs k = σ.objs k) : sLoad σ' τ x = sLoad σ τ x := by
  have : σ'.at x = σ.at x := by
    unfold SS.at
    split
    · rfl
    · rename_i o off; rw [h o (by intro e; subst e; exact ho rfl)]
    · rfl
  unfold sLoad; rw [this]
theorem dStore_same {o : Oper} {i : Nat} {ob : SObj} (h : dStore P σ o i ob) (he : ∀ x ∈ o.op.operands, σ'.ev x = σ.ev x) (ho : σ'.objs i = σ.objs i) : dStore P σ' o i ob := by
  unfold dStore at *
  split at h
  · rename_i t x y hop
    rw [he x (by simp [hop, Op.operands]), he y (by simp [hop, Op.operands]), ho]
    exact h
  · exact h.elim
theorem plain_does {o : Oper} {t : Nat} {b : Bool} {δ : Dl} (ha : adrT o = some (t, b)) (h : DoesG P ops σ o δ) :
    (b = false ∧ ∃ ty τ y, o.op = .load ty (.tmp t) ∧ tyOf P ty = some τ ∧ sLoad σ τ (σ.t t) = some y ∧ δ = .pure (.v y)) ∨ (b = true ∧ ∃ ty y i ob off, o.op = .store ty (.tmp t) y ∧ σ.t t = .v (.one (.mp i off)) ∧ dStore P σ o i ob ∧ δ = .set i ob .any) := by
  unfold adrT at ha
  split at ha
  · cases ha
  rename_i hg
  unfold DoesG at h
  simp only [hg] at h
  split at ha
  · rename_i ty t' hop
    cases ha
    refine .inl ⟨rfl, ?_⟩
    rcases h with ⟨_, h⟩ | ⟨h, _⟩
    · have hc : cls o = 1 := by simp [cls, hop]
      cases δ with
      | pure r =>
        have h := h.2
        simp only [sPure, hop] at h
        obtain ⟨τ, y, h1, h2, rfl⟩ := h
        exact ⟨ty, τ, y, hop, h1, h2, rfl⟩
      | set i ob r => have := h.1; omega
      | new ob bo x => rcases h with h | h <;> (have := h.1; omega)
    · simp [isAN, hop] at h
  · rename_i ty t' y hop
    cases ha
    refine .inr ⟨rfl, ?_⟩
    rcases h with ⟨_, h⟩ | ⟨h, _⟩
    · have hc : cls o = 3 := by simp [cls, hop]
      cases δ with
      | pure r => have := h.1; omega
      | set i ob r =>
        rcases h.2 with ⟨h1, rfl⟩ | ⟨n, h1, _⟩
        · have h2 := h1
          simp only [dStore, hop] at h2
          obtain ⟨τ, off, ob0, z, _, h4, _⟩ := h2
          exact ⟨ty, y, i, ob, off, hop, h4, h1, rfl⟩
        · simp [dCopy, hop] at h1
      | new ob bo x =>
        rcases h with h | h
        · have := h.1; omega
        · have := h.2; simp [sAppend, hop] at this
    · simp [isAN, hop] at h
  · cases ha
theorem plain_load {o : Oper} {t ty : Nat} {τ : TyI} {y : SV} (ha : adrT o = some (t, false)) (ho : o.op = .load ty (.tmp t)) (ht : tyOf P ty = some τ) (h : sLoad σ τ (σ.t t) = some y) : DoesG P ops σ o (.pure (.v y)) := by
  have hg : o.guard = none := by unfold adrT at ha; split at ha; cases ha; assumption
  unfold DoesG; simp only [hg]
  exact .inl ⟨by simp [isAN, ho], by simp [cls, ho], by simp only [sPure, ho]; exact ⟨τ, y, ht, h, rfl⟩⟩
theorem plain_store {o : Oper} {t ty i : Nat} {y : Operand} {ob : SObj} (ha : adrT o = some (t, true)) (ho : o.op = .store ty (.tmp t) y) (h : dStore P σ o i ob) : DoesG P ops σ o (.set i ob .any) := by
  have hg : o.guard = none := by unfold adrT at ha; split at ha; cases ha; assumption
  unfold DoesG; simp only [hg]
  exact .inl ⟨by simp [isAN, ho], by simp [cls, ho], .inl ⟨h, rfl⟩⟩
theorem set_set (d d' : Option Nat) (i i' : Nat) (ob ob' : SObj) (r r' : ST) (hi : i ≠ i') (h : ∀ t, d = some t → d' ≠ some t) :
    (σ.app d (.set i ob r)).app d' (.set i' ob' r') = (σ.app d' (.set i' ob' r')).app d (.set i ob r) := by
  have e1 : ∀ (σ : SS) (k : Nat) (o : SObj) (d : Option Nat) (r : ST), (σ.put d r).setObj k o = (σ.setObj k o).put d r := fun σ k o d r => by cases d <;> rfl
  have e2 : (σ.setObj i ob).setObj i' ob' = (σ.setObj i' ob').setObj i ob := by
    unfold SS.setObj
    congr 1
    funext k
    by_cases a : k = i
    · subst a; simp [hi]
    · simp [a]
  simp only [SS.app, e1]
  rw [e2, put_put d d' r r' h]
theorem swapS {oi oj : Oper} {δi δj : Dl} (hap : oi.apart ops oj = true) (hs : sepOK σ.t oi oj) (hw : σ.wf) (hi : DoesG P ops σ oi δi) (hj : DoesG P ops (σ.app oi.dst δi) oj δj) :
    DoesG P ops σ oj δj ∧ DoesG P ops (σ.app oj.dst δj) oi δi ∧ (σ.app oi.dst δi).app oj.dst δj = (σ.app oj.dst δj).app oi.dst δi := by
  obtain ⟨h1, h2, h3⟩ := Oper.apart_spec hap
  obtain ⟨ti, bi, tj, bj, ai, aj, hne⟩ := hs
  have evj : ∀ x ∈ oj.op.operands, σ.ev x = (σ.app oi.dst δi).ev x := fun x hx => (app_ev oi.dst δi x (fun t ht e => h1 t ht (by subst e; exact operand_looks hx))).symm
  have evi : ∀ x ∈ oi.op.operands, (σ.app oj.dst δj).ev x = σ.ev x := fun x hx => app_ev oj.dst δj x (fun t ht e => h3 t ht (by subst e; exact operand_looks hx))
  rcases plain_does ai hi with ⟨rfl, tyi, τi, yi, oi1, oi2, oi3, rfl⟩ | ⟨rfl, tyi, yi, i, ob, off, oi1, oi2, oi3, rfl⟩ <;>
    rcases plain_does aj hj with ⟨rfl, tyj, τj, yj, oj1, oj2, oj3, rfl⟩ | ⟨rfl, tyj, yj, j, ob', off', oj1, oj2, oj3, rfl⟩
  · exact swap hap (by simp [memOK, dcls, isAN, cls, oi1, oj1]) hw hi hj
  · have e1 : (σ.app oi.dst (.pure (.v yi))).objs = σ.objs := put_objs' _ _
    have etj : σ.t tj = .v (.one (.mp j off')) := by
      have := evj (.tmp tj) (by simp [oj1, Op.operands])
      exact this.trans oj2
    refine ⟨plain_store aj oj1 (dStore_same oj3 (fun x hx => evj x hx) (by rw [e1])), ?_, pure_comm oi.dst oj.dst _ _ h2⟩
    refine plain_load ai oi1 oi2 ?_
    have := evi (.tmp ti) (by simp [oi1, Op.operands])
    rw [show (σ.app oj.dst (.set j ob' .any)).t ti = σ.t ti from this, sLoad_sep (i := j) (by rw [etj] at hne; exact hne)]
    · exact oi3
    · intro k hk
      rw [SS.app, put_objs']
      show (if k = j then some ob' else σ.objs k) = _
      rw [if_neg hk]
  · have e1 : ∀ k, k ≠ i → (σ.app oi.dst (.set i ob .any)).objs k = σ.objs k := fun k hk => by
      rw [SS.app, put_objs']
      show (if k = i then some ob else σ.objs k) = _
      rw [if_neg hk]
    have etj : σ.t tj = (σ.app oi.dst (.set i ob .any)).t tj := evj (.tmp tj) (by simp [oj1, Op.operands])
    rw [← etj, sLoad_sep (i := i) (by rw [oi2] at hne; exact fun e => hne e.symm) e1] at oj3
    refine ⟨plain_load aj oj1 oj2 oj3, plain_store ai oi1 (dStore_same oi3 (fun x hx => evi x hx) (by rw [SS.app, put_objs'])), (pure_comm oj.dst oi.dst _ _ (fun t ht e => h2 t e ht)).symm⟩
  · have etj : σ.t tj = .v (.one (.mp j off')) := (evj (.tmp tj) (by simp [oj1, Op.operands])).trans oj2
    have hij : i ≠ j := by
      intro e; subst e
      rw [oi2, etj] at hne; exact hne rfl
    have e1 : (σ.app oi.dst (.set i ob .any)).objs j = σ.objs j := by
      rw [SS.app, put_objs']
      show (if j = i then some ob else σ.objs j) = _
      rw [if_neg (Ne.symm hij)]
    refine ⟨plain_store aj oj1 (dStore_same oj3 evj e1.symm), plain_store ai oi1 (dStore_same oi3 evi ?_), set_set oi.dst oj.dst i j ob ob' _ _ hij h2⟩
    rw [SS.app, put_objs']
    show (if i = j then some ob' else σ.objs i) = _
    rw [if_neg hij]
/-! ### Which objects must differ -/
def pairOK1 (ops : Array Oper) (oi : Oper) (i : Nat) (oj : Oper) (j : Nat) : Bool := anc ops 1 i j || (oi.apart ops oj && memOK (dcls oi) (dcls oj) && (!isDyn oi && !isDyn oj)) || anc ops 3 i j || anc ops 9 i j
def pairS (ops : Array Oper) (oi : Oper) (i : Nat) : List Oper → Nat → Option (List (Nat × Nat))
  | [], _ => some []
  | oj :: rest, j => match pairS ops oi i rest (j + 1) with
    | none => none
    | some L => if pairOK1 ops oi i oj j = true then some L else match adrT oi, adrT oj with
      | some (ti, _), some (tj, _) => if oi.apart ops oj = true then some ((ti, tj) :: L) else none
      | _, _ => none
def goS (ops : Array Oper) : List Oper → Nat → Option (List (Nat × Nat))
  | [], _ => some []
  | o :: rest, i => match goS ops rest (i + 1), pairS ops o i rest (i + 1) with
    | some L, some M => if (o.after.toList.all fun e => !Region.binds .any e || decide (e.on < i)) = true then some (M ++ L) else none
    | _, _ => none
def noAdr (ops : Array Oper) : Bool := ops.toList.all fun o => match adrT o with | none => true | some (t, _) => ops.toList.all fun o' => !(o'.dst == some t)
def drawS (ops : Array Oper) : Option (List (Nat × Nat)) := if noAdr ops = true then goS ops ops.toList 0 else none
theorem pairOK1_spec {oi oj : Oper} {i j : Nat} (h : pairOK1 ops oi i oj j = true) : (oi.apart ops oj = true ∧ memOK (dcls oi) (dcls oj) = true ∧ isDyn oi = false ∧ isDyn oj = false) ∨ ∃ f, anc ops f i j = true := by
  simp only [pairOK1, Bool.and_eq_true, Bool.or_eq_true] at h
  rcases h with ((h1 | h1) | h1) | h1
  · exact Or.inr ⟨1, h1⟩
  · exact Or.inl ⟨h1.1.1, h1.1.2, by simpa using h1.2.1, by simpa using h1.2.2⟩
  · exact Or.inr ⟨3, h1⟩
  · exact Or.inr ⟨9, h1⟩
def pairG (ops : Array Oper) (τ : Nat → ST) (oi oj : Oper) (i j : Nat) : Prop := (oi.apart ops oj = true ∧ (memOK (dcls oi) (dcls oj) = true ∨ sepOK τ oi oj) ∧ isDyn oi = false ∧ isDyn oj = false) ∨ ∃ f, anc ops f i j = true
theorem adr_dyn {o : Oper} {p : Nat × Bool} (h : adrT o = some p) : isDyn o = false := by
  unfold adrT at h
  split at h
  · cases h
  · split at h
    · rename_i ho; simp [isDyn, ho]
    · rename_i ho; simp [isDyn, ho]
    · cases h
theorem pairS_spec {τ : Nat → ST} {oi : Oper} {i : Nat} : ∀ {l : List Oper} {k : Nat} {L : List (Nat × Nat)}, pairS ops oi i l k = some L → (∀ p ∈ L, objOf (τ p.1) ≠ objOf (τ p.2)) → ∀ j oj, l[j]? = some oj → pairG ops τ oi oj i (k + j)
  | [], _, _, _, _, j, oj, hj => by simp at hj
  | o :: l, k, L, h, hL, j, oj, hj => by
    simp only [pairS] at h
    split at h
    · cases h
    rename_i L' hrec
    have hd : pairG ops τ oi o i k ∧ ∀ p ∈ L', objOf (τ p.1) ≠ objOf (τ p.2) := by
      split at h
      · rename_i h1
        cases h
        refine ⟨?_, hL⟩
        rcases pairOK1_spec h1 with ⟨a, b, c⟩ | h2
        · exact .inl ⟨a, .inl b, c⟩
        · exact .inr h2
      · split at h
        · rename_i ti bi tj bj e1 e2
          split at h
          · rename_i hap
            cases h
            exact ⟨.inl ⟨hap, .inr ⟨ti, _, tj, _, e1, e2, hL _ (List.mem_cons_self ..)⟩, adr_dyn e1, adr_dyn e2⟩, fun p hp => hL p (List.mem_cons_of_mem _ hp)⟩
          · cases h
        · cases h
    cases j with
    | zero => simp at hj; subst hj; exact hd.1
    | succ j =>
      have := pairS_spec hrec hd.2 j oj (by simpa using hj)
      rw [show k + 1 + j = k + (j + 1) by omega] at this
      exact this
theorem goS_spec {τ : Nat → ST} : ∀ {l : List Oper} {k : Nat} {L : List (Nat × Nat)}, goS ops l k = some L → (∀ p ∈ L, objOf (τ p.1) ≠ objOf (τ p.2)) → ∀ (i : Nat) (oi : Oper), l[i]? = some oi → (∀ e ∈ oi.after, Region.binds .any e = true → e.on < k + i) ∧
    ∀ j oj, l[j]? = some oj → i < j → pairG ops τ oi oj (k + i) (k + j)
  | [], _, _, _, _, i, oi, hi => by simp at hi
  | o :: l, k, L, h, hL, i, oi, hi => by
    simp only [goS] at h
    split at h
    · rename_i L' M' h1 h2
      split at h
      · rename_i h3
        cases h
        cases i with
        | zero =>
          simp at hi; subst hi
          refine ⟨fun e he hb => ?_, fun j oj hj hij => ?_⟩
          · have := List.all_eq_true.1 h3 e (by simpa using he)
            simpa [hb] using this
          · obtain ⟨j, rfl⟩ : ∃ j', j = j' + 1 := ⟨j - 1, by omega⟩
            have := pairS_spec h2 (fun p hp => hL p (List.mem_append_left _ hp)) j oj (by simpa using hj)
            rw [show k + 1 + j = k + (j + 1) by omega] at this
            exact this
        | succ i =>
          obtain ⟨g1, g2⟩ := goS_spec h1 (fun p hp => hL p (List.mem_append_right _ hp)) i oi (by simpa using hi)
          refine ⟨fun e he hb => by have := g1 e he hb; omega, fun j oj hj hij => ?_⟩
          obtain ⟨j, rfl⟩ : ∃ j', j = j' + 1 := ⟨j - 1, by omega⟩
          have := g2 j oj (by simpa using hj) (by omega)
          rw [show k + 1 + j = k + (j + 1) by omega, show k + 1 + i = k + (i + 1) by omega] at this
          exact this
      · cases h
    · cases h
theorem sLex_nd {St : Prop} {K : SS → Prop} : ∀ {l : List Oper} {σ : SS}, (∀ o ∈ l, isDyn o = false) → sLex P St ops K l σ → sLex P False ops K l σ
  | [], _, _, h => h
  | o :: l, σ, hd, h => by
    rcases h with ⟨δ, h1, h2⟩ | ⟨h, _⟩
    · exact .inl ⟨δ, h1, sLex_nd (fun o ho => hd o (List.mem_cons_of_mem _ ho)) h2⟩
    · rw [hd o (List.mem_cons_self ..)] at h; cases h
end
end Go.Proofs.YtaljbebkooppiaaGreat.Sh

namespace Go.Proofs.YtaljbebkooppiaaGreat.Sh
open Go Go.RowKit
section
variable {P : Program} {N : Nat} {σ : SS} {c : Code}
def withF (F : Prop) (σ : SS) : SS := σ.wx { σ.x with ctx := fun w ok => F ∧ σ.x.ctx w ok }
def roundF (L : List Nat) (σ0 nxt : SS) (F : Prop) (Q : Exit → SS → Prop) (_t : Tok nxt := ⟨⟩) (_t2 : Tok Q := ⟨⟩) (_t3 : Tok F := ⟨⟩) : Exit → SS → Prop
  | .normal, σ' => (leL σ' nxt L ∧ σ'.x.ctx = nxt.x.ctx) ∧ F
  | .ret, σ' => clL σ' L ∧ Q .ret (back L σ0 σ')
  | .exit id, σ' => clL σ' L ∧ Q (.exit id) (back L σ0 σ')
  | _, _ => False
@[simp] theorem roundF_normal (L : List Nat) (σ0 nxt σ' : SS) (F : Prop) (Q : Exit → SS → Prop) (t : Tok nxt) (t2 : Tok Q) (t3 : Tok F) : roundF L σ0 nxt F Q t t2 t3 .normal σ' = ((leL σ' nxt L ∧ σ'.x.ctx = nxt.x.ctx) ∧ F) := rfl
@[simp] theorem roundF_ret (L : List Nat) (σ0 nxt σ' : SS) (F : Prop) (Q : Exit → SS → Prop) (t : Tok nxt) (t2 : Tok Q) (t3 : Tok F) : roundF L σ0 nxt F Q t t2 t3 .ret σ' = (clL σ' L ∧ Q .ret (back L σ0 σ')) := rfl
@[simp] theorem roundF_exit (L : List Nat) (σ0 nxt σ' : SS) (F : Prop) (Q : Exit → SS → Prop) (t : Tok nxt) (t2 : Tok Q) (t3 : Tok F) (id : Nat) : roundF L σ0 nxt F Q t t2 t3 (.exit id) σ' = (clL σ' L ∧ Q (.exit id) (back L σ0 σ')) := rfl
def endF (last : SS) (Q : Exit → SS → Prop) : Exit → SS → Prop
  | .normal, σ' => σ' = last
  | e, σ' => Q e σ'
@[simp] theorem subL_pre (a b : List S1) : ∀ (l : List S1), subL (l ++ a) (l ++ b) = subL a b
  | [] => rfl
  | x :: l => by rw [List.cons_append, List.cons_append, subL_cons, subL_pre a b l, S1.sub_self, true_and]
end
end Go.Proofs.YtaljbebkooppiaaGreat.Sh

namespace Go.Proofs.YtaljbebkooppiaaGreat.Sh
open Go Go.RowKit
section
variable {N : Nat} {σ σ' : SS} {P : Program}
def codeOM (S : List Nat) (N : Nat) : Code → Bool
  | .region id ops d => dstsOK N ops.toList && (!d || S.contains id || drawD ops)
  | .seq x y => codeOM S N x && codeOM S N y
  | .cond _ x y => codeOM S N x && codeOM S N y
  | .block _ c => codeOM S N c
  | .loop _ => true
  | _ => true
def eM (P : Program) (N : Nat) (S : List Nat) : Code → (Exit → SS → Prop) → SS → Prop
  | .region id ops d, Q, σ => match d with
    | false => eOps P true ops.toList ops.toList σ (Q .normal)
    | true => match S.contains id with
      | true => holdP (sw P N (.region id ops true) Q σ)
      | false => P.follows .mixedOrders = true ∧ eOps P false ops.toList ops.toList σ (Q .normal)
  | .seq x y, Q, σ => eM P N S x (thenQ (hold (eM P N S y Q)) Q) σ
  | .cond o x y, Q, σ => onB (σ.ev o) fun b => br b (eM P N S x Q σ) (eM P N S y Q σ)
  | .block id c, Q, σ => eM P N S c (blockQ id Q) σ
  | .skip, Q, σ => Q .normal σ
  | .ret, Q, σ => Q .ret σ
  | .exit id, Q, σ => Q (.exit id) σ
  | .label _, Q, σ => Q .normal σ
  | c, Q, σ => holdP (sw P N c Q σ)
theorem eM_sound (S : List Nat) : ∀ (c : Code) (Q : Exit → SS → Prop) (σ : SS), codeOM S N c = true → eM P N S c Q σ → sw P N c Q σ := by
  intro c
  induction c with
  | region id ops d =>
    intro Q σ hc h
    cases d with
    | false =>
      simp only [codeOM, Bool.and_eq_true] at hc
      intro w0 ok0 a w hi
      exact wpIn_region_list (eOps_wp ops (K := Q .normal) (fun σ' a' w' h1 h2 => ⟨σ', h1, h2⟩) ops.toList σ a w hc.1 hi h)
    | true =>
      cases hs : S.contains id with
      | true => simp only [eM, hs] at h; exact h
      | false =>
        simp only [codeOM, hs, Bool.and_eq_true] at hc
        simp only [eM, hs] at h
        intro w0 ok0 a w hi
        exact draw_wp h.1 (by simpa using hc.2) hc.1 hi (fun σ' a' w' h1 h2 => ⟨σ', h1, h2⟩) (eOps_lex ops ops.toList σ h.2)
  | seq x y ihx ihy =>
    intro Q σ hc h
    simp only [codeOM, Bool.and_eq_true] at hc
    refine sw_seq (sw_mono (ihx _ σ hc.1 h) ?_)
    intro e σ' hq
    cases e with
    | normal => exact ihy Q σ' hc.2 hq
    | exit => exact hq
    | goto => exact hq
    | ret => exact hq
    | panic => exact hq
    | outgrown => exact hq
  | cond o x y ihx ihy =>
    intro Q σ hc h
    simp only [codeOM, Bool.and_eq_true] at hc
    simp only [eM] at h
    obtain ⟨b, hb, h⟩ := onB_elim h
    exact sw_cond hb (fun e => ihx Q σ hc.1 (h.1 e)) (fun e => ihy Q σ hc.2 (h.2 e))
  | block id c ih => intro Q σ hc h; exact sw_block (ih _ σ hc h)
  | skip => intro Q σ hc h; exact sw_skip h
  | ret => intro Q σ hc h; exact sw_ret h
  | exit id => intro Q σ hc h; exact sw_exit h
  | label l => intro Q σ hc h; exact sw_label h
  | _ => intro Q σ hc h; exact h
variable {S : List Nat}
@[simp ↓] theorem eM_region (id : Nat) (ops : Array Oper) (Q : Exit → SS → Prop) : eM P N S (.region id ops false) Q σ = eOps P true ops.toList ops.toList σ (Q .normal) := rfl
@[simp ↓] theorem eM_draws (id : Nat) (ops : Array Oper) (Q : Exit → SS → Prop) (h : S.contains id = false) : eM P N S (.region id ops true) Q σ = (P.follows .mixedOrders = true ∧ eOps P false ops.toList ops.toList σ (Q .normal)) := by simp only [eM, h]
@[simp ↓] theorem eM_named (id : Nat) (ops : Array Oper) (Q : Exit → SS → Prop) (h : S.contains id = true) : eM P N S (.region id ops true) Q σ = holdP (sw P N (.region id ops true) Q σ) := by simp only [eM, h]
@[simp ↓] theorem eM_seq (x y : Code) (Q : Exit → SS → Prop) : eM P N S (.seq x y) Q σ = eM P N S x (thenQ (hold (eM P N S y Q)) Q) σ := rfl
@[simp ↓] theorem eM_cond (o : Operand) (x y : Code) (Q : Exit → SS → Prop) : eM P N S (.cond o x y) Q σ = onB (σ.ev o) fun b => br b (eM P N S x Q σ) (eM P N S y Q σ) := rfl
@[simp ↓] theorem eM_block (id : Nat) (c : Code) (Q : Exit → SS → Prop) : eM P N S (.block id c) Q σ = eM P N S c (blockQ id Q) σ := rfl
@[simp ↓] theorem eM_loop (c : Code) (Q : Exit → SS → Prop) : eM P N S (.loop c) Q σ = holdP (sw P N (.loop c) Q σ) := rfl
@[simp ↓] theorem eM_range (f : Operand) (ps : Array Nat) (x c : Code) (Q : Exit → SS → Prop) : eM P N S (.rangeFunc f ps x c) Q σ = holdP (sw P N (.rangeFunc f ps x c) Q σ) := rfl
@[simp ↓] theorem eM_skip (Q : Exit → SS → Prop) : eM P N S .skip Q σ = Q .normal σ := rfl
@[simp ↓] theorem eM_ret (Q : Exit → SS → Prop) : eM P N S .ret Q σ = Q .ret σ := rfl
@[simp ↓] theorem eM_exit (id : Nat) (Q : Exit → SS → Prop) : eM P N S (.exit id) Q σ = Q (.exit id) σ := rfl
@[simp ↓] theorem eM_label (id : Nat) (Q : Exit → SS → Prop) : eM P N S (.label id) Q σ = Q .normal σ := rfl
theorem sw_loop_m (S : List Nat) {X : Type} {Q : Exit → SS → Prop} {c : Code} (st : X → SS) (m : X → Nat) (x0 : X) (hc : codeOM S N c = true) (h0 : Le σ (st x0)) (round : ∀ x, eM P N S c (thenQ (Again st m (m x)) Q) (st x)) : holdP (sw P N (.loop c) Q σ) :=
  sw_loop st m x0 h0 (fun x => eM_sound S c _ _ hc (round x))
theorem callsM (S : List Nat) {f : Nat} {fn : Func} {c : Code} {args : List SV} {r : ST} (hf : P.funcs[f]? = some fn) (hb : fn.body = some c) (hname : (fn.name == "runtime.NumGoroutine") = false) (hN : decide (args.length ≤ fn.ntmps) = true) (hc : codeOM S fn.ntmps c = true)
    (h : eM P fn.ntmps S c (Ret P fn.results.toList r) (SS.of (argList args 0) [] 0)) : CallsS P f args r :=
  calls_of_sw' (fun r' => r'.sub r) (fun _ _ _ _ _ h hs => RT.sub h hs) hf hb hname (of_decide_eq_true hN)
    (sw_mono (eM_sound S c _ _ hc h) fun _ _ ⟨h1, h2⟩ => ⟨h1, onO_elim h2⟩)
end
end Go.Proofs.YtaljbebkooppiaaGreat.Sh

namespace Go.Proofs.YtaljbebkooppiaaGreat.Sh
open Go Go.RowKit
section
variable {N : Nat} {σ σ' : SS} {P : Program} {ops : Array Oper}
def Known (ops : Array Oper) (listed : Array Bool) (t : Nat) : Prop := ∀ (d : Nat) (od : Oper), ops[d]? = some od → od.dst = some t → listed.getD d true = true
def GoodT (ops : Array Oper) (τ : Nat → ST) (listed : Array Bool) (σ : SS) : Prop := ∀ (k : Nat) (o : Oper) (t : Nat) (b : Bool), ops[k]? = some o → adrT o = some (t, b) → Known ops listed t → σ.t t = τ t
def sAnyT (P : Program) (ops : Array Oper) (τ : Nat → ST) (K : SS → Prop) : Nat → Array Bool → SS → Prop
  | 0, listed, σ => GoodT ops τ listed σ ∧ Region.ready .any ops listed = [] ∧ K σ
  | f + 1, listed, σ => GoodT ops τ listed σ ∧ (Region.ready .any ops listed = [] → K σ) ∧ ∀ i ∈ Region.ready .any ops listed, ∃ o, ops[i]? = some o ∧ ∃ δ, DoesG P ops σ o δ ∧ sAnyT P ops τ K f (listed.setIfInBounds i true) (σ.app o.dst δ)
theorem sAnyT.good {τ : Nat → ST} {K : SS → Prop} : ∀ {f : Nat} {listed : Array Bool} {σ : SS}, sAnyT P ops τ K f listed σ → GoodT ops τ listed σ
  | 0, _, _, h => h.1
  | _ + 1, _, _, h => h.1
theorem sAnyT.any {τ : Nat → ST} {K : SS → Prop} : ∀ {f : Nat} {listed : Array Bool} {σ : SS}, sAnyT P ops τ K f listed σ → sAny P False ops K f listed σ
  | 0, _, _, h => h.2
  | _ + 1, _, _, ⟨_, h1, h2⟩ => ⟨h1, fun i hi => by obtain ⟨o, ho, δ, hd, hr⟩ := h2 i hi; exact ⟨o, ho, Or.inl ⟨δ, hd, hr.any⟩⟩⟩
theorem known_set {listed : Array Bool} {t j : Nat} (h : Known ops listed t) : Known ops (listed.setIfInBounds j true) t := fun d od h1 h2 => by
  have := h d od h1 h2
  by_cases e : j = d
  · subst e
    simp only [Array.getD_eq_getD_getElem?, Array.getElem?_setIfInBounds, if_pos] at this ⊢
    split <;> simp
  · rw [getD_set_ne true e]; exact this
theorem firstT {K : SS → Prop} {i : Nat} {oi : Oper} {δi : Dl} {τ : Nat → ST} (hi : ops[i]? = some oi)
    (hdef : ∀ (k d : Nat) (o od : Oper) (t : Nat) (b : Bool), ops[k]? = some o → adrT o = some (t, b) → ops[d]? = some od → od.dst = some t → ∃ f, anc ops f d k = true) :
    ∀ (f : Nat) (listed : Array Bool) (σ : SS), σ.wf → GoodT ops τ listed σ →
      (∀ j oj, ops[j]? = some oj → j ≠ i → listed.getD j true = false → (oi.apart ops oj = true ∧ (memOK (dcls oi) (dcls oj) = true ∨ sepOK τ oi oj)) ∨ ∃ f, anc ops f i j = true) →
      Closed ops listed → i ∈ Region.ready .any ops listed → DoesG P ops σ oi δi → sAnyT P ops τ K f (listed.setIfInBounds i true) (σ.app oi.dst δi) → sAnyT P ops τ K (f + 1) listed σ := by
  intro f
  induction f with
  | zero =>
    intro listed σ hw hτ hfree hc hr hy H
    refine ⟨hτ, fun h => (by rw [h] at hr; cases hr), fun j hj => ?_⟩
    by_cases hji : j = i
    · subst hji; exact ⟨oi, hi, δi, hy, H⟩
    · have := ready_mono hj hji
      rw [H.2.1] at this
      cases this
  | succ f ih =>
    intro listed σ hw hτ hfree hc hr hy H
    refine ⟨hτ, fun h => (by rw [h] at hr; cases hr), fun j hj => ?_⟩
    by_cases hji : j = i
    · subst hji; exact ⟨oi, hi, δi, hy, H⟩
    · obtain ⟨oj, hoj, δj, hdj, hrest⟩ := H.2.2 j (ready_mono hj hji)
      obtain ⟨hjun, _⟩ := mem_ready.1 hj
      have hun := (mem_ready.1 hr).1
      have kn : ∀ (k : Nat) (o : Oper) (t : Nat) (b : Bool), k ∈ Region.ready .any ops listed → ops[k]? = some o → adrT o = some (t, b) → Known ops listed t := fun k o t b hk ho ha d od h1 h2 => by
        obtain ⟨f, hf⟩ := hdef k d o od t b ho ha h1 h2
        have := anc_ready hc hf hk
        have hlt := (Array.getElem?_eq_some_iff.1 h1).1
        rcases Nat.lt_or_ge d listed.size with h' | h'
        · simp [h'] at this ⊢; exact this
        · simp [Array.getElem?_eq_none h'] at this
      rcases hfree j oj hoj hji hjun with ⟨hap, hm⟩ | ⟨_, ha⟩
      · have hsw : DoesG P ops σ oj δj ∧ DoesG P ops (σ.app oj.dst δj) oi δi ∧ (σ.app oi.dst δi).app oj.dst δj = (σ.app oj.dst δj).app oi.dst δi := by
          rcases hm with hm | ⟨ti, bi, tj, bj, g1, g2, g3⟩
          · exact swap hap hm hw hy hdj
          · exact swapS hap ⟨ti, bi, tj, bj, g1, g2, by rw [hτ i oi ti bi hi g1 (kn i oi ti bi hr hi g1), hτ j oj tj bj hoj g2 (kn j oj tj bj hj hoj g2)]; exact g3⟩ hw hy hdj
        obtain ⟨s1, s2, s3⟩ := hsw
        refine ⟨oj, hoj, δj, s1, ?_⟩
        refine ih (listed.setIfInBounds j true) _ (wf_app hw oj.dst s1.fits s1.set_some) ?_ ?_ (closed_set hc hj) (ready_mono hr (Ne.symm hji)) s2 ?_
        · intro k o t b hk ha hkn
          have g := hrest.good k o t b hk ha (by rw [Array.setIfInBounds_comm _ _ (Ne.symm hji)]; exact known_set hkn)
          rw [s3] at g
          rw [← g]
          refine (app_t oi.dst δi t fun e => ?_).symm
          have := hkn i oi hi e
          rw [getD_set_ne true hji, hun] at this
          cases this
        · intro k ok hk hki hkun
          refine hfree k ok hk hki ?_
          by_cases hjk : j = k
          · subst hjk; exact hjun
          · rw [getD_set_ne true hjk] at hkun; exact hkun
        · rw [Array.setIfInBounds_comm _ _ hji, ← s3]
          exact hrest
      · have hl := anc_ready hc ha hj
        rcases Nat.lt_or_ge i listed.size with h' | h'
        · simp [h'] at hun hl; rw [hun] at hl; cases hl
        · simp [Array.getElem?_eq_none h'] at hl
def sLexE (P : Program) (ops : Array Oper) : List Oper → SS → SS → Prop
  | [], σ, σf => σ = σf
  | o :: rest, σ, σf => ∃ δ, DoesG P ops σ o δ ∧ sLexE P ops rest (σ.app o.dst δ) σf
theorem sLex_end {K : SS → Prop} : ∀ {l : List Oper} {σ : SS}, sLex P False ops K l σ → ∃ σf, K σf ∧ sLexE P ops l σ σf
  | [], σ, h => ⟨σ, h, rfl⟩
  | o :: l, σ, h => by
    rcases h with ⟨δ, h1, h2⟩ | ⟨_, h, _⟩
    · obtain ⟨σf, g1, g2⟩ := sLex_end h2
      exact ⟨σf, g1, δ, h1, g2⟩
    · exact h.elim
theorem sLexE_t {t : Nat} : ∀ {l : List Oper} {σ σf : SS}, sLexE P ops l σ σf → (∀ o ∈ l, o.dst ≠ some t) → σ.t t = σf.t t
  | [], _, _, h, _ => by rw [show _ = _ from h]
  | o :: l, σ, σf, ⟨δ, _, h2⟩, hn => by
    rw [← sLexE_t h2 (fun o' ho' => hn o' (List.mem_cons_of_mem _ ho')), app_t o.dst δ t (hn o (List.mem_cons_self ..))]
theorem lexT_any {σf : SS} (hdef : ∀ (k d : Nat) (o od : Oper) (t : Nat) (b : Bool), ops[k]? = some o → adrT o = some (t, b) → ops[d]? = some od → od.dst = some t → ∃ f, anc ops f d k = true)
    (hok : ∀ (i : Nat) (oi : Oper), ops[i]? = some oi → (∀ e ∈ oi.after, Region.binds .any e = true → e.on < i) ∧ ∀ j oj, ops[j]? = some oj → i < j → (oi.apart ops oj = true ∧ (memOK (dcls oi) (dcls oj) = true ∨ sepOK σf.t oi oj)) ∨ ∃ f, anc ops f i j = true) :
    ∀ (rest : List Oper) (k : Nat) (listed : Array Bool) (σ : SS), ops.toList.drop k = rest → k + rest.length = ops.size → (∀ j, j < ops.size → listed[j]? = some (decide (j < k))) → listed.size = ops.size → σ.wf →
      sLexE P ops rest σ σf → sAnyT P ops σf.t (fun σ' => σ' = σf) rest.length listed σ := by
  have good : ∀ (rest : List Oper) (k : Nat) (listed : Array Bool) (σ : SS), ops.toList.drop k = rest → (∀ j, j < ops.size → listed[j]? = some (decide (j < k))) → sLexE P ops rest σ σf → GoodT ops σf.t listed σ := by
    intro rest k listed σ hdrop hl h k' o t b hk ha hkn
    refine sLexE_t h fun o' ho' e => ?_
    rw [← hdrop] at ho'
    obtain ⟨j, hj, rfl⟩ := List.getElem_of_mem ho'
    rw [List.length_drop, Array.length_toList] at hj
    have e1 : ops[k + j]? = some ((ops.toList.drop k)[j]'(by rw [List.length_drop, Array.length_toList]; exact hj)) := by
      rw [List.getElem_drop, Array.getElem_toList]
      exact Array.getElem?_eq_getElem (by omega)
    have := hkn (k + j) _ e1 e
    rw [Array.getD_eq_getD_getElem?, hl (k + j) (by omega), Option.getD_some, decide_eq_true_iff] at this
    omega
  intro rest
  induction rest with
  | nil =>
    intro k listed σ hdrop hlen hl hls hw h
    refine ⟨good _ k _ _ hdrop hl h, ?_, h⟩
    cases hr : Region.ready .any ops listed with
    | nil => rfl
    | cons j l =>
      have hj : j ∈ Region.ready .any ops listed := by rw [hr]; simp
      obtain ⟨hun, o, ho, _⟩ := mem_ready.1 hj
      have hlt := (Array.getElem?_eq_some_iff.1 ho).1
      have := hl j hlt
      simp at hlen
      simp only [Array.getD_eq_getD_getElem?, this, Option.getD_some, decide_eq_false_iff_not] at hun
      omega
  | cons o rest ih =>
    intro k listed σ hdrop hlen hl hls hw h
    have hg := good _ k _ _ hdrop hl h
    have hk : ops[k]? = some o := by
      have : (ops.toList.drop k)[0]? = some o := by rw [hdrop]; rfl
      simpa using this
    simp only [List.length_cons] at hlen
    obtain ⟨c1, c2⟩ := hok k o hk
    have hready : k ∈ Region.ready .any ops listed := mem_ready.2 ⟨by simp [Array.getD_eq_getD_getElem?, hl k (by omega)], o, hk, fun e he hb => by
      have := c1 e he hb
      simp [Array.getD_eq_getD_getElem?, hl e.on (by omega), this]⟩
    have hnext : ∀ j, j < ops.size → (listed.setIfInBounds k true)[j]? = some (decide (j < k + 1)) := by
      intro j hj
      rw [Array.getElem?_setIfInBounds]
      by_cases e : k = j
      · subst e
        have hs : k < listed.size := by omega
        simp [hs]
      · rw [if_neg e, hl j hj]
        congr 1
        simp; omega
    have hcl : Closed ops listed := by
      intro j oj hj hlj e he hb
      have hlt := (Array.getElem?_eq_some_iff.1 hj).1
      simp only [Array.getD_eq_getD_getElem?, hl j hlt, Option.getD_some, decide_eq_true_eq] at hlj
      have := (hok j oj hj).1 e he hb
      simp [Array.getD_eq_getD_getElem?, hl e.on (by omega)]
      omega
    have hdr : ops.toList.drop (k + 1) = rest := by rw [← List.drop_drop, hdrop]; rfl
    obtain ⟨δ, h1, h2⟩ := h
    refine firstT hk hdef rest.length listed σ hw hg ?_ hcl hready h1 (ih (k + 1) _ _ hdr (by omega) hnext (by simp [hls]) (wf_app hw o.dst h1.fits h1.set_some) h2)
    intro j oj hj hjk hun
    have hlt := (Array.getElem?_eq_some_iff.1 hj).1
    simp only [Array.getD_eq_getD_getElem?, hl j hlt, Option.getD_some, decide_eq_false_iff_not] at hun
    exact c2 j oj hj (by omega)
def defOK (ops : Array Oper) : Bool := (List.range ops.size).all fun k => match ops[k]? with
  | none => true
  | some o => match adrT o with
    | none => true
    | some (t, _) => (List.range ops.size).all fun d => match ops[d]? with
      | none => true
      | some od => !(od.dst == some t) || anc ops 9 d k
theorem defOK_spec (h : defOK ops = true) : ∀ (k d : Nat) (o od : Oper) (t : Nat) (b : Bool), ops[k]? = some o → adrT o = some (t, b) → ops[d]? = some od → od.dst = some t → ∃ f, anc ops f d k = true := by
  intro k d o od t b hk ha hd he
  have h1 := List.all_eq_true.1 h k (List.mem_range.2 (Array.getElem?_eq_some_iff.1 hk).1)
  simp only [hk, ha] at h1
  have h2 := List.all_eq_true.1 h1 d (List.mem_range.2 (Array.getElem?_eq_some_iff.1 hd).1)
  simp only [hd, he] at h2
  exact ⟨9, by simpa using h2⟩
def drawT (ops : Array Oper) : Option (List (Nat × Nat)) := if (defOK ops && ops.toList.all fun o => !isDyn o) = true then goS ops ops.toList 0 else none
def sepL : List (Nat × Nat) → SS → Prop
  | [], _ => True
  | p :: l, σ => objOf (σ.t p.1) ≠ objOf (σ.t p.2) ∧ sepL l σ
@[simp] theorem sepL_nil (σ : SS) : sepL [] σ = True := rfl
@[simp] theorem sepL_cons (p : Nat × Nat) (l : List (Nat × Nat)) (σ : SS) : sepL (p :: l) σ = (objOf (σ.t p.1) ≠ objOf (σ.t p.2) ∧ sepL l σ) := rfl
theorem sepL_mem : ∀ {L : List (Nat × Nat)} {σ : SS}, sepL L σ → ∀ p ∈ L, objOf (σ.t p.1) ≠ objOf (σ.t p.2)
  | p :: l, σ, ⟨h1, h2⟩, q, hq => by
    rcases List.mem_cons.1 hq with rfl | hq
    · exact h1
    · exact sepL_mem h2 q hq
@[simp] theorem objOf_bool (b : Bool) : objOf (.v (.one (.bool b))) = none := rfl
def thenSep (L : List (Nat × Nat)) (K : SS → Prop) (_t : Tok K := ⟨⟩) (σ : SS) : Prop := sepL L σ ∧ K σ
@[simp] theorem thenSep_eq (L : List (Nat × Nat)) (K : SS → Prop) (t : Tok K) (σ : SS) : thenSep L K t σ = (sepL L σ ∧ K σ) := rfl
theorem sw_draw_t {id : Nat} {Q : Exit → SS → Prop} (L : List (Nat × Nat)) (hm : P.follows .mixedOrders = true) (hok : drawT ops = some L) (hd : dstsOK N ops.toList = true)
    (h : eOps P false ops.toList ops.toList σ (thenSep L (Q .normal))) : holdP (sw P N (.region id ops true) Q σ) := by
  unfold drawT at hok
  split at hok
  case isFalse => cases hok
  rename_i hno
  simp only [Bool.and_eq_true] at hno
  obtain ⟨hdo, hdy⟩ := hno
  obtain ⟨σf, ⟨hsep, hQ⟩, hE⟩ := sLex_end (sLex_nd (fun o ho => by have := List.all_eq_true.1 hdy o ho; simpa using this) (eOps_lex ops ops.toList σ h))
  intro w0 ok0 a w hi
  refine wpIn_region_any hm ?_
  have hw : σ.wf := hi.wf
  have hgo : ∀ (i : Nat) (oi : Oper), ops[i]? = some oi → (∀ e ∈ oi.after, Region.binds .any e = true → e.on < i) ∧ ∀ j oj, ops[j]? = some oj → i < j → (oi.apart ops oj = true ∧ (memOK (dcls oi) (dcls oj) = true ∨ sepOK σf.t oi oj)) ∨ ∃ f, anc ops f i j = true := fun i oi hi => by
    have := goS_spec (τ := σf.t) hok (sepL_mem hsep) i oi (by simpa using hi)
    simp only [Nat.zero_add] at this
    exact ⟨this.1, fun j oj hj hij => (this.2 j oj (by simpa using hj) hij).imp (fun h => ⟨h.1, h.2.1⟩) (fun h => h)⟩
  have := (lexT_any (P := P) (defOK_spec hdo) hgo ops.toList 0 (Array.replicate ops.size false) σ rfl (by simp) (by intro j hj; simp [hj]) (by simp) hw hE).any
  simp only [Array.length_toList] at this
  exact sAny_wp (fun i o t ho ht => by
    have := List.all_eq_true.1 hd o (by simpa using Array.mem_of_getElem? ho)
    simp only [Bool.and_eq_true] at this
    simpa [ht] using this.2) (fun i o ho => by
    have := List.all_eq_true.1 hd o (by simpa using Array.mem_of_getElem? ho)
    simp only [Bool.and_eq_true] at this
    exact this.1) (fun σ' a' w' h1 h2 => ⟨σ', by rw [h1]; exact hQ, h2⟩) _ _ _ _ _ hi.drew this
end
end Go.Proofs.YtaljbebkooppiaaGreat.Sh

namespace Go.Proofs.YtaljbebkooppiaaGreat.Sh
open Go Go.RowKit
section
variable {N : Nat} {σ σ' : SS} {P : Program} {ops : Array Oper}
def GoodS (ops : Array Oper) (T : (Nat → ST) → Prop) (listed : Array Bool) (σ : SS) : Prop := ∃ τ, T τ ∧ GoodT ops τ listed σ
def sAnyS (P : Program) (ops : Array Oper) (T : (Nat → ST) → Prop) (K : SS → Prop) : Nat → Array Bool → SS → Prop
  | 0, listed, σ => GoodS ops T listed σ ∧ Region.ready .any ops listed = [] ∧ K σ
  | f + 1, listed, σ => GoodS ops T listed σ ∧ (Region.ready .any ops listed = [] → K σ) ∧ ∀ i ∈ Region.ready .any ops listed, ∃ o, ops[i]? = some o ∧ ∃ δ, DoesG P ops σ o δ ∧ sAnyS P ops T K f (listed.setIfInBounds i true) (σ.app o.dst δ)
theorem sAnyS.good {T : (Nat → ST) → Prop} {K : SS → Prop} : ∀ {f : Nat} {listed : Array Bool} {σ : SS}, sAnyS P ops T K f listed σ → GoodS ops T listed σ
  | 0, _, _, h => h.1
  | _ + 1, _, _, h => h.1
theorem sAnyS.any {T : (Nat → ST) → Prop} {K : SS → Prop} : ∀ {f : Nat} {listed : Array Bool} {σ : SS}, sAnyS P ops T K f listed σ → sAny P False ops K f listed σ
  | 0, _, _, h => h.2
  | _ + 1, _, _, ⟨_, h1, h2⟩ => ⟨h1, fun i hi => by obtain ⟨o, ho, δ, hd, hr⟩ := h2 i hi; exact ⟨o, ho, Or.inl ⟨δ, hd, hr.any⟩⟩⟩
def DefsOK (ops : Array Oper) : Prop := ∀ (k d : Nat) (o od : Oper) (t : Nat) (b : Bool), ops[k]? = some o → adrT o = some (t, b) → ops[d]? = some od → od.dst = some t → ∃ f, anc ops f d k = true
theorem firstS2 {K : SS → Prop} {i : Nat} {oi : Oper} {δi : Dl} {T : (Nat → ST) → Prop} (hi : ops[i]? = some oi) (hdef : DefsOK ops) :
    ∀ (f : Nat) (listed : Array Bool) (σ : SS), σ.wf → GoodS ops T listed σ →
      (∀ j oj, ops[j]? = some oj → j ≠ i → listed.getD j true = false → (oi.apart ops oj = true ∧ (memOK (dcls oi) (dcls oj) = true ∨ ∀ τ, T τ → sepOK τ oi oj)) ∨ ∃ f, anc ops f i j = true) →
      Closed ops listed → i ∈ Region.ready .any ops listed → DoesG P ops σ oi δi → sAnyS P ops T K f (listed.setIfInBounds i true) (σ.app oi.dst δi) → sAnyS P ops T K (f + 1) listed σ := by
  intro f
  induction f with
  | zero =>
    intro listed σ hw hτ hfree hc hr hy H
    refine ⟨hτ, fun h => (by rw [h] at hr; cases hr), fun j hj => ?_⟩
    by_cases hji : j = i
    · subst hji; exact ⟨oi, hi, δi, hy, H⟩
    · have := ready_mono hj hji
      rw [H.2.1] at this
      cases this
  | succ f ih =>
    intro listed σ hw hτ hfree hc hr hy H
    refine ⟨hτ, fun h => (by rw [h] at hr; cases hr), fun j hj => ?_⟩
    by_cases hji : j = i
    · subst hji; exact ⟨oi, hi, δi, hy, H⟩
    · obtain ⟨oj, hoj, δj, hdj, hrest⟩ := H.2.2 j (ready_mono hj hji)
      obtain ⟨hjun, _⟩ := mem_ready.1 hj
      have hun := (mem_ready.1 hr).1
      have kn : ∀ (k : Nat) (o : Oper) (t : Nat) (b : Bool), k ∈ Region.ready .any ops listed → ops[k]? = some o → adrT o = some (t, b) → Known ops listed t := fun k o t b hk ho ha d od h1 h2 => by
        obtain ⟨f, hf⟩ := hdef k d o od t b ho ha h1 h2
        have := anc_ready hc hf hk
        have hlt := (Array.getElem?_eq_some_iff.1 h1).1
        rcases Nat.lt_or_ge d listed.size with h' | h'
        · simp [h'] at this ⊢; exact this
        · simp [Array.getElem?_eq_none h'] at this
      rcases hfree j oj hoj hji hjun with ⟨hap, hm⟩ | ⟨_, ha⟩
      · have hsw : DoesG P ops σ oj δj ∧ DoesG P ops (σ.app oj.dst δj) oi δi ∧ (σ.app oi.dst δi).app oj.dst δj = (σ.app oj.dst δj).app oi.dst δi := by
          rcases hm with hm | hm
          · exact swap hap hm hw hy hdj
          · obtain ⟨τ, hT, hg⟩ := hτ
            obtain ⟨ti, bi, tj, bj, g1, g2, g3⟩ := hm τ hT
            exact swapS hap ⟨ti, bi, tj, bj, g1, g2, by rw [hg i oi ti bi hi g1 (kn i oi ti bi hr hi g1), hg j oj tj bj hoj g2 (kn j oj tj bj hj hoj g2)]; exact g3⟩ hw hy hdj
        obtain ⟨s1, s2, s3⟩ := hsw
        refine ⟨oj, hoj, δj, s1, ?_⟩
        refine ih (listed.setIfInBounds j true) _ (wf_app hw oj.dst s1.fits s1.set_some) ?_ ?_ (closed_set hc hj) (ready_mono hr (Ne.symm hji)) s2 ?_
        · obtain ⟨τ, hT, hg⟩ := hrest.good
          refine ⟨τ, hT, fun k o t b hk ha hkn => ?_⟩
          have g := hg k o t b hk ha (by rw [Array.setIfInBounds_comm _ _ (Ne.symm hji)]; exact known_set hkn)
          rw [s3] at g
          rw [← g]
          refine (app_t oi.dst δi t fun e => ?_).symm
          have := hkn i oi hi e
          rw [getD_set_ne true hji, hun] at this
          cases this
        · intro k ok hk hki hkun
          refine hfree k ok hk hki ?_
          by_cases hjk : j = k
          · subst hjk; exact hjun
          · rw [getD_set_ne true hjk] at hkun; exact hkun
        · rw [Array.setIfInBounds_comm _ _ hji, ← s3]
          exact hrest
      · have hl := anc_ready hc ha hj
        rcases Nat.lt_or_ge i listed.size with h' | h'
        · simp [h'] at hun hl; rw [hun] at hl; cases hl
        · simp [Array.getElem?_eq_none h'] at hl
def Upto (ops : Array Oper) (k : Nat) (listed : Array Bool) : Prop := listed.size = ops.size ∧ ∀ j, j < ops.size → listed[j]? = some (decide (j < k))
theorem Upto.getD {k : Nat} {listed : Array Bool} (h : Upto ops k listed) {j : Nat} (hj : j < ops.size) (b : Bool) : listed.getD j b = decide (j < k) := by
  rw [Array.getD_eq_getD_getElem?, h.2 j hj]; rfl
theorem Upto.next {k : Nat} {listed : Array Bool} (h : Upto ops k listed) : Upto ops (k + 1) (listed.setIfInBounds k true) := by
  refine ⟨by simp [h.1], fun j hj => ?_⟩
  rw [Array.getElem?_setIfInBounds]
  by_cases e : k = j
  · subst e
    have hs : k < listed.size := by rw [h.1]; exact hj
    simp [hs]
  · rw [if_neg e, h.2 j hj]
    congr 1
    simp; omega
section
variable {T : (Nat → ST) → Prop} {K : SS → Prop} (hdef : DefsOK ops)
  (hok : ∀ (i : Nat) (oi : Oper), ops[i]? = some oi → (∀ e ∈ oi.after, Region.binds .any e = true → e.on < i) ∧ ∀ j oj, ops[j]? = some oj → i < j → (oi.apart ops oj = true ∧ (memOK (dcls oi) (dcls oj) = true ∨ ∀ τ, T τ → sepOK τ oi oj)) ∨ ∃ f, anc ops f i j = true)
include hdef hok
omit hdef hok in
theorem upto_done {k : Nat} {listed : Array Bool} (hl : Upto ops k listed) (hk : ops.size ≤ k) : Region.ready .any ops listed = [] := by
  cases hr : Region.ready .any ops listed with
  | nil => rfl
  | cons j l =>
    have hj : j ∈ Region.ready .any ops listed := by rw [hr]; simp
    obtain ⟨hun, o, ho, _⟩ := mem_ready.1 hj
    have hlt := (Array.getElem?_eq_some_iff.1 ho).1
    rw [hl.getD hlt, decide_eq_false_iff_not] at hun
    omega
end
theorem fork {T : (Nat → ST) → Prop} {K : SS → Prop} (hdef : DefsOK ops) {p : Nat} {op oq : Oper} {rest : List Oper} (hp : ops[p]? = some op) (hq : ops[p + 1]? = some oq) (hdrop : ops.toList.drop (p + 2) = rest) (hlen : p + 2 + rest.length = ops.size)
    (hok : ∀ (i : Nat) (oi : Oper), ops[i]? = some oi → (∀ e ∈ oi.after, Region.binds .any e = true → e.on < i) ∧ ∀ j oj, ops[j]? = some oj → i < j → (i = p ∧ j = p + 1) ∨ (oi.apart ops oj = true ∧ (memOK (dcls oi) (dcls oj) = true ∨ ∀ τ, T τ → sepOK τ oi oj)) ∨ ∃ f, anc ops f i j = true)
    (hbeh : ∀ j, p + 2 ≤ j → j < ops.size → (∃ f, anc ops f p j = true) ∧ ∃ f, anc ops f (p + 1) j = true)
    {listed : Array Bool} (hl : Upto ops p listed) (hw : σ.wf) {σ1 σ2 : SS} (hT1 : T σ1.t) (hT2 : T σ2.t) (hK1 : K σ1) (hK2 : K σ2) (h1 : sLexE P ops (op :: oq :: rest) σ σ1) (h2 : sLexE P ops (oq :: op :: rest) σ σ2) : sAnyS P ops T K (rest.length + 2) listed σ := by
  have hsz : p + 1 < ops.size := by omega
  -- the tail, from any place behind the two
  have tail : ∀ (l : List Oper) (k : Nat) (listed : Array Bool) (σ : SS), p + 1 ≤ k → ops.toList.drop k = l → k + l.length = ops.size → Upto ops k listed → σ.wf → ∀ σf, T σf.t → K σf → sLexE P ops l σ σf → sAnyS P ops T K l.length listed σ := by
    have good : ∀ (l : List Oper) (k : Nat) (listed : Array Bool) (σ σf : SS), ops.toList.drop k = l → Upto ops k listed → T σf.t → sLexE P ops l σ σf → GoodS ops T listed σ := by
      intro l k listed σ σf hd hl hT h
      refine ⟨σf.t, hT, fun k' o t b hk ha hkn => ?_⟩
      refine sLexE_t h fun o' ho' e => ?_
      rw [← hd] at ho'
      obtain ⟨j, hj, rfl⟩ := List.getElem_of_mem ho'
      rw [List.length_drop, Array.length_toList] at hj
      have e1 : ops[k + j]? = some ((ops.toList.drop k)[j]'(by rw [List.length_drop, Array.length_toList]; exact hj)) := by
        rw [List.getElem_drop, Array.getElem_toList]
        exact Array.getElem?_eq_getElem (by omega)
      have := hkn (k + j) _ e1 e
      rw [hl.getD (by omega), decide_eq_true_iff] at this
      omega
    intro l
    induction l with
    | nil =>
      intro k listed σ hpk hd hlen hl hw σf hT hK h
      simp at hlen
      have hg := good _ _ _ _ _ hd hl hT h
      have h : σ = σf := h
      subst h
      exact ⟨hg, upto_done hl (by omega), hK⟩
    | cons o l ih =>
      intro k listed σ hpk hd hlen hl hw σf hT hK h
      have hg := good _ _ _ _ _ hd hl hT h
      have hk : ops[k]? = some o := by
        have : (ops.toList.drop k)[0]? = some o := by rw [hd]; rfl
        simpa using this
      simp only [List.length_cons] at hlen
      have hdr : ops.toList.drop (k + 1) = l := by rw [← List.drop_drop, hd]; rfl
      obtain ⟨δ, h1, h2⟩ := h
      have hcl : Closed ops listed := by
        intro j oj hj hlj e he hb
        have hlt := (Array.getElem?_eq_some_iff.1 hj).1
        rw [hl.getD hlt, decide_eq_true_iff] at hlj
        have := (hok j oj hj).1 e he hb
        rw [hl.getD (by omega)]
        exact decide_eq_true (by omega)
      have hrd : k ∈ Region.ready .any ops listed := by
        have hlt := (Array.getElem?_eq_some_iff.1 hk).1
        refine mem_ready.2 ⟨by rw [hl.getD hlt]; simp, o, hk, fun e he hb => ?_⟩
        have := (hok k o hk).1 e he hb
        rw [hl.getD (by omega)]
        exact decide_eq_true this
      refine firstS2 hk hdef l.length listed σ hw hg ?_ hcl hrd h1 (ih (k + 1) _ _ (by omega) hdr (by omega) hl.next (wf_app hw o.dst h1.fits h1.set_some) σf hT hK h2)
      intro j oj hj hjk hun
      have hlt := (Array.getElem?_eq_some_iff.1 hj).1
      rw [hl.getD hlt, decide_eq_false_iff_not] at hun
      rcases (hok k o hk).2 j oj hj (by omega) with ⟨e1, _⟩ | h
      · omega
      · exact h
  have hdp1 : ops.toList.drop (p + 1) = oq :: rest := by
    rw [List.drop_eq_getElem_cons (by simpa using hsz), hdrop]
    congr 1
    rw [Array.getElem_toList]
    have := Array.getElem?_eq_getElem hsz
    rw [this] at hq
    exact Option.some.inj hq
  have hdp : ops.toList.drop p = op :: oq :: rest := by
    rw [List.drop_eq_getElem_cons (by simp; omega), hdp1]
    congr 1
    rw [Array.getElem_toList]
    have := Array.getElem?_eq_getElem (show p < ops.size by omega)
    rw [this] at hp
    exact Option.some.inj hp
  obtain ⟨δp, d1, r1⟩ := h1
  obtain ⟨δq, d2, δp', d3, r2⟩ := h2
  have hclp : Closed ops listed := by
    intro j oj hj hlj e he hb
    have hlt := (Array.getElem?_eq_some_iff.1 hj).1
    rw [hl.getD hlt, decide_eq_true_iff] at hlj
    have := (hok j oj hj).1 e he hb
    rw [hl.getD (by omega)]
    exact decide_eq_true (by omega)
  have only : ∀ (L : Array Bool), Closed ops L → (∀ j, j < ops.size → L.getD j true = false → p ≤ j) → (L.getD p true = false ∨ L.getD (p + 1) true = false) → ∀ i ∈ Region.ready .any ops L, i = p ∨ i = p + 1 := by
    intro L hcl hL hor i hi
    obtain ⟨hun, o, ho, _⟩ := mem_ready.1 hi
    have hlt := (Array.getElem?_eq_some_iff.1 ho).1
    have hpi := hL i hlt hun
    by_cases c : p + 2 ≤ i
    · exfalso
      obtain ⟨⟨f1, a1⟩, ⟨f2, a2⟩⟩ := hbeh i c hlt
      have g1 := anc_ready hcl a1 hi
      have g2 := anc_ready hcl a2 hi
      have conv : ∀ k, L.getD k false = true → L.getD k true = true := fun k hk => by
        rcases Nat.lt_or_ge k L.size with h' | h'
        · simp [h'] at hk ⊢; exact hk
        · simp [Array.getElem?_eq_none h'] at hk
      rcases hor with h | h
      · rw [conv p g1] at h; cases h
      · rw [conv (p + 1) g2] at h; cases h
    · omega
  have hg1 : GoodS ops T listed σ := by
    refine ⟨σ1.t, hT1, fun k' o t b hk ha hkn => ?_⟩
    refine sLexE_t (show sLexE P ops (op :: oq :: rest) σ σ1 from ⟨δp, d1, r1⟩) fun o' ho' e => ?_
    rw [← hdp] at ho'
    obtain ⟨j, hj, rfl⟩ := List.getElem_of_mem ho'
    rw [List.length_drop, Array.length_toList] at hj
    have e1 : ops[p + j]? = some ((ops.toList.drop p)[j]'(by rw [List.length_drop, Array.length_toList]; exact hj)) := by
      rw [List.getElem_drop, Array.getElem_toList]
      exact Array.getElem?_eq_getElem (by omega)
    have := hkn (p + j) _ e1 e
    rw [hl.getD (by omega), decide_eq_true_iff] at this
    omega
  have hrp : p ∈ Region.ready .any ops listed := by
    refine mem_ready.2 ⟨by rw [hl.getD (by omega)]; simp, op, hp, fun e he hb => ?_⟩
    have := (hok p op hp).1 e he hb
    rw [hl.getD (by omega)]
    exact decide_eq_true this
  refine ⟨hg1, fun h => (by rw [h] at hrp; cases hrp), fun i hi => ?_⟩
  rcases only listed hclp (fun j hj h => by rw [hl.getD hj, decide_eq_false_iff_not] at h; omega) (Or.inl (by rw [hl.getD (by omega)]; simp)) i hi with rfl | rfl
  · refine ⟨op, hp, δp, d1, ?_⟩
    have := tail (oq :: rest) (i + 1) _ _ (Nat.le_refl _) hdp1 (by simp only [List.length_cons]; omega) hl.next (wf_app hw op.dst d1.fits d1.set_some) σ1 hT1 hK1 r1
    exact this
  · refine ⟨oq, hq, δq, d2, ?_⟩
    have hcl2 := closed_set hclp hi
    have gp : (listed.setIfInBounds (p + 1) true).getD p true = false := by
      rw [getD_set_ne true (by omega), hl.getD (by omega)]; simp
    have hrp2 : p ∈ Region.ready .any ops (listed.setIfInBounds (p + 1) true) := ready_mono hrp (by omega)
    have hwq := wf_app hw oq.dst d2.fits d2.set_some
    have hg2 : GoodS ops T (listed.setIfInBounds (p + 1) true) (σ.app oq.dst δq) := by
      refine ⟨σ2.t, hT2, fun k' o t b hk ha hkn => ?_⟩
      refine sLexE_t (show sLexE P ops (op :: rest) (σ.app oq.dst δq) σ2 from ⟨δp', d3, r2⟩) fun o' ho' e => ?_
      rcases List.mem_cons.1 ho' with rfl | ho'
      · have := hkn p _ hp e
        rw [gp] at this; cases this
      · rw [← hdrop] at ho'
        obtain ⟨j, hj, rfl⟩ := List.getElem_of_mem ho'
        rw [List.length_drop, Array.length_toList] at hj
        have e1 : ops[p + 2 + j]? = some ((ops.toList.drop (p + 2))[j]'(by rw [List.length_drop, Array.length_toList]; exact hj)) := by
          rw [List.getElem_drop, Array.getElem_toList]
          exact Array.getElem?_eq_getElem (by omega)
        have := hkn (p + 2 + j) _ e1 e
        rw [getD_set_ne true (by omega), hl.getD (by omega), decide_eq_true_iff] at this
        omega
    refine ⟨hg2, fun h => (by rw [h] at hrp2; cases hrp2), fun i hi => ?_⟩
    have hi2 : i = p := by
      rcases only _ hcl2 (fun j hj h => by
        by_cases e : p + 1 = j
        · omega
        · rw [getD_set_ne true e, hl.getD hj, decide_eq_false_iff_not] at h; omega) (Or.inl gp) i hi with h | h
      · exact h
      · subst h
        have hun := (mem_ready.1 hi).1
        have hs : p + 1 < listed.size := by rw [hl.1]; exact hsz
        simp [Array.getD_eq_getD_getElem?, hs] at hun
    subst hi2
    refine ⟨op, hp, δp', d3, ?_⟩
    have hup : Upto ops (i + 2) ((listed.setIfInBounds (i + 1) true).setIfInBounds i true) := by
      rw [Array.setIfInBounds_comm _ _ (by omega)]
      exact hl.next.next
    exact tail rest (i + 2) _ _ (by omega) hdrop hlen hup (wf_app hwq op.dst d3.fits d3.set_some) σ2 hT2 hK2 r2
theorem sLexE_append {m : List Oper} : ∀ {l : List Oper} {σ σp σf : SS}, sLexE P ops l σ σp → sLexE P ops m σp σf → sLexE P ops (l ++ m) σ σf
  | [], _, _, _, h1, h2 => by rw [show _ = _ from h1]; exact h2
  | _ :: _, _, _, _, ⟨δ, h1, h3⟩, h2 => ⟨δ, h1, sLexE_append h3 h2⟩
theorem forkP {T : (Nat → ST) → Prop} {K : SS → Prop} (hdef : DefsOK ops) {p : Nat} {op oq : Oper} {rest : List Oper} (hp : ops[p]? = some op) (hq : ops[p + 1]? = some oq) (hdrop : ops.toList.drop (p + 2) = rest) (hlen : p + 2 + rest.length = ops.size)
    (hok : ∀ (i : Nat) (oi : Oper), ops[i]? = some oi → (∀ e ∈ oi.after, Region.binds .any e = true → e.on < i) ∧ ∀ j oj, ops[j]? = some oj → i < j → (i = p ∧ j = p + 1) ∨ (oi.apart ops oj = true ∧ (memOK (dcls oi) (dcls oj) = true ∨ ∀ τ, T τ → sepOK τ oi oj)) ∨ ∃ f, anc ops f i j = true)
    (hbeh : ∀ j, p + 2 ≤ j → j < ops.size → (∃ f, anc ops f p j = true) ∧ ∃ f, anc ops f (p + 1) j = true)
    {σp σ1 σ2 : SS} (hT1 : T σ1.t) (hT2 : T σ2.t) (hK1 : K σ1) (hK2 : K σ2) (h1 : sLexE P ops (op :: oq :: rest) σp σ1) (h2 : sLexE P ops (oq :: op :: rest) σp σ2) :
    ∀ (l : List Oper) (k : Nat) (listed : Array Bool) (σ : SS), (ops.toList.take p).drop k = l → k + l.length = p → Upto ops k listed → σ.wf → sLexE P ops l σ σp → sAnyS P ops T K (l.length + (rest.length + 2)) listed σ := by
  have hdp : ops.toList.drop p = op :: oq :: rest := by
    have hsz : p + 1 < ops.size := by omega
    rw [List.drop_eq_getElem_cons (by simp; omega), List.drop_eq_getElem_cons (by simpa using hsz), hdrop]
    congr 1
    · rw [Array.getElem_toList]
      rw [Array.getElem?_eq_getElem (show p < ops.size by omega)] at hp
      exact Option.some.inj hp
    · congr 1
      rw [Array.getElem_toList]
      rw [Array.getElem?_eq_getElem hsz] at hq
      exact Option.some.inj hq
  intro l
  induction l with
  | nil =>
    intro k listed σ hd hlk hl hw h
    simp at hlk
    subst hlk
    rw [show σ = σp from h] at hw ⊢
    rw [List.length_nil, Nat.zero_add]
    exact fork hdef hp hq hdrop hlen hok hbeh hl hw hT1 hT2 hK1 hK2 h1 h2
  | cons o l ih =>
    intro k listed σ hd hlk hl hw h
    simp only [List.length_cons] at hlk
    have hall : ops.toList.drop k = (o :: l) ++ (op :: oq :: rest) := by
      rw [← hd, ← hdp, List.drop_take]
      have e : ops.toList.drop p = (ops.toList.drop k).drop (p - k) := by rw [List.drop_drop]; congr 1; omega
      rw [e, List.take_append_drop]
    have hk : ops[k]? = some o := by
      have : (ops.toList.drop k)[0]? = some o := by rw [hall]; rfl
      simpa using this
    have hsz : p + 1 < ops.size := by omega
    have hg : GoodS ops T listed σ := by
      refine ⟨σ1.t, hT1, fun k' o' t b hk' ha hkn => ?_⟩
      refine sLexE_t (sLexE_append h h1) fun o'' ho'' e => ?_
      rw [← hall] at ho''
      obtain ⟨j, hj, rfl⟩ := List.getElem_of_mem ho''
      rw [List.length_drop, Array.length_toList] at hj
      have e1 : ops[k + j]? = some ((ops.toList.drop k)[j]'(by rw [List.length_drop, Array.length_toList]; exact hj)) := by
        rw [List.getElem_drop, Array.getElem_toList]
        exact Array.getElem?_eq_getElem (by omega)
      have := hkn (k + j) _ e1 e
      rw [hl.getD (by omega), decide_eq_true_iff] at this
      omega
    have hcl : Closed ops listed := by
      intro j oj hj hlj e he hb
      have hlt := (Array.getElem?_eq_some_iff.1 hj).1
      rw [hl.getD hlt, decide_eq_true_iff] at hlj
      have := (hok j oj hj).1 e he hb
      rw [hl.getD (by omega)]
      exact decide_eq_true (by omega)
    have hrd : k ∈ Region.ready .any ops listed := by
      have hlt := (Array.getElem?_eq_some_iff.1 hk).1
      refine mem_ready.2 ⟨by rw [hl.getD hlt]; simp, o, hk, fun e he hb => ?_⟩
      have := (hok k o hk).1 e he hb
      rw [hl.getD (by omega)]
      exact decide_eq_true this
    have hdr : (ops.toList.take p).drop (k + 1) = l := by rw [← List.drop_drop, hd]; rfl
    obtain ⟨δ, d1, d2⟩ := h
    rw [List.length_cons, show l.length + 1 + (rest.length + 2) = (l.length + (rest.length + 2)) + 1 by omega]
    refine firstS2 hk hdef (l.length + (rest.length + 2)) listed σ hw hg ?_ hcl hrd d1 (ih (k + 1) _ _ hdr (by omega) hl.next (wf_app hw o.dst d1.fits d1.set_some) d2)
    intro j oj hj hjk hun
    have hlt := (Array.getElem?_eq_some_iff.1 hj).1
    rw [hl.getD hlt, decide_eq_false_iff_not] at hun
    rcases (hok k o hk).2 j oj hj (by omega) with ⟨e1, _⟩ | h
    · omega
    · exact h
/-! ### Which addresses must differ -/
def needF (p : Nat) (ops : Array Oper) (i j : Nat) : Option (List (Nat × Nat)) :=
  if i = p ∧ j = p + 1 then some [] else match ops[i]?, ops[j]? with
  | some oi, some oj => if pairOK1 ops oi i oj j = true then some [] else match adrT oi, adrT oj with
    | some (ti, _), some (tj, _) => if oi.apart ops oj = true then some [(ti, tj)] else none
    | _, _ => none
  | _, _ => some []
def allF : List (Option (List (Nat × Nat))) → Option (List (Nat × Nat))
  | [] => some []
  | x :: l => match x, allF l with
    | some a, some b => some (a ++ b)
    | _, _ => none
theorem allF_mem : ∀ {l : List (Option (List (Nat × Nat)))} {L : List (Nat × Nat)}, allF l = some L → ∀ x ∈ l, ∃ a, x = some a ∧ ∀ q ∈ a, q ∈ L
  | [], _, _, x, hx => by cases hx
  | y :: l, L, h, x, hx => by
    unfold allF at h
    split at h
    · rename_i a b e
      injection h with h
      subst h
      rcases List.mem_cons.1 hx with rfl | hx
      · exact ⟨a, rfl, fun q hq => List.mem_append_left _ hq⟩
      · obtain ⟨a', e', h'⟩ := allF_mem e x hx
        exact ⟨a', e', fun q hq => List.mem_append_right _ (h' q hq)⟩
    · cases h
def ancF (ops : Array Oper) (i j : Nat) : Bool := anc ops 1 i j || anc ops 3 i j || anc ops 9 i j
theorem ancF_spec {i j : Nat} (h : ancF ops i j = true) : ∃ f, anc ops f i j = true := by
  simp only [ancF, Bool.or_eq_true] at h
  rcases h with (h | h) | h
  · exact ⟨1, h⟩
  · exact ⟨3, h⟩
  · exact ⟨9, h⟩
def drawF (p : Nat) (ops : Array Oper) : Option (List (Nat × Nat)) :=
  if (defOK ops && (ops.toList.all fun o => !isDyn o) && decide (p + 1 < ops.size) && ((List.range ops.size).all fun i => match ops[i]? with | some o => o.after.toList.all fun e => !Region.binds .any e || decide (e.on < i) | none => true) &&
    ((List.range ops.size).all fun j => decide (j < p + 2) || (ancF ops p j && ancF ops (p + 1) j))) = true then
    allF ((List.range ops.size).flatMap fun i => (List.range ops.size).map fun j => if i < j then needF p ops i j else some [])
  else none
def both (X Y : SS → Prop) (_t : Tok X := ⟨⟩) (_t2 : Tok Y := ⟨⟩) (σ : SS) : Prop := X σ ∧ Y σ
@[simp] theorem both_eq (X Y : SS → Prop) (t : Tok X) (t2 : Tok Y) (σ : SS) : both X Y t t2 σ = (X σ ∧ Y σ) := rfl
theorem sw_draw_f {id : Nat} {Q : Exit → SS → Prop} (p : Nat) {op oq : Oper} {pre rest : List Oper} (L : List (Nat × Nat)) (hm : P.follows .mixedOrders = true) (hops : ops.toList = pre ++ op :: oq :: rest) (hpre : pre.length = p) (hok : drawF p ops = some L) (hd : dstsOK N ops.toList = true)
    (h : eOps P false ops.toList pre σ (both (fun σp => eOps P false ops.toList (op :: oq :: rest) σp (thenSep L (Q .normal))) (fun σp => eOps P false ops.toList (oq :: op :: rest) σp (thenSep L (Q .normal))))) : holdP (sw P N (.region id ops true) Q σ) := by
  unfold drawF at hok
  split at hok
  case isFalse => cases hok
  rename_i hno
  simp only [Bool.and_eq_true] at hno
  obtain ⟨⟨⟨⟨hdo, hdy⟩, hsz⟩, haf⟩, hbe⟩ := hno
  have hsz := of_decide_eq_true hsz
  have dyn : ∀ o ∈ ops.toList, isDyn o = false := fun o ho => by have := List.all_eq_true.1 hdy o ho; simpa using this
  have mp : ∀ o ∈ pre, o ∈ ops.toList := fun o ho => by rw [hops]; exact List.mem_append_left _ ho
  have m1 : ∀ o ∈ op :: oq :: rest, o ∈ ops.toList := fun o ho => by rw [hops]; exact List.mem_append_right _ ho
  have m2 : ∀ o ∈ oq :: op :: rest, o ∈ ops.toList := fun o ho => m1 o (by
    rcases List.mem_cons.1 ho with e | ho
    · rw [e]; simp
    · rcases List.mem_cons.1 ho with e | ho
      · rw [e]; simp
      · exact List.mem_cons_of_mem _ (List.mem_cons_of_mem _ ho))
  obtain ⟨σp, ⟨hx, hy⟩, hE⟩ := sLex_end (sLex_nd (fun o ho => dyn o (mp o ho)) (eOps_lex ops pre σ h))
  obtain ⟨σ1, ⟨hsep1, hQ1⟩, hE1⟩ := sLex_end (sLex_nd (fun o ho => dyn o (m1 o ho)) (eOps_lex ops (op :: oq :: rest) σp hx))
  obtain ⟨σ2, ⟨hsep2, hQ2⟩, hE2⟩ := sLex_end (sLex_nd (fun o ho => dyn o (m2 o ho)) (eOps_lex ops (oq :: op :: rest) σp hy))
  intro w0 ok0 a w hi
  refine wpIn_region_any hm ?_
  have hw : σ.wf := hi.wf
  have hat : ∀ i, ops[i]? = ops.toList[i]? := fun i => (Array.getElem?_toList).symm
  have hp : ops[p]? = some op := by rw [hat, hops, List.getElem?_append_right (by omega), hpre, Nat.sub_self]; rfl
  have hq : ops[p + 1]? = some oq := by rw [hat, hops, List.getElem?_append_right (by omega), hpre, show p + 1 - p = 1 by omega]; rfl
  have hdrop : ops.toList.drop (p + 2) = rest := by
    rw [hops, show p + 2 = pre.length + 2 by omega, ← List.drop_drop, List.drop_left' rfl]; rfl
  have htake : ops.toList.take p = pre := by rw [hops, ← hpre, List.take_left' rfl]
  have hlen : p + 2 + rest.length = ops.size := by
    have := congrArg List.length hops
    simp at this
    omega
  have hgo : ∀ (i : Nat) (oi : Oper), ops[i]? = some oi → (∀ e ∈ oi.after, Region.binds .any e = true → e.on < i) ∧ ∀ j oj, ops[j]? = some oj → i < j → (i = p ∧ j = p + 1) ∨ (oi.apart ops oj = true ∧ (memOK (dcls oi) (dcls oj) = true ∨ ∀ τ, (τ = σ1.t ∨ τ = σ2.t) → sepOK τ oi oj)) ∨ ∃ f, anc ops f i j = true := by
    intro i oi hi
    have hil := (Array.getElem?_eq_some_iff.1 hi).1
    refine ⟨fun e he hb => ?_, fun j oj hj hij => ?_⟩
    · have := List.all_eq_true.1 haf i (List.mem_range.2 hil)
      simp only [hi] at this
      have := List.all_eq_true.1 this e (by simpa using he)
      simpa [hb] using this
    · have hjl := (Array.getElem?_eq_some_iff.1 hj).1
      have hmem : needF p ops i j ∈ (List.range ops.size).flatMap fun i => (List.range ops.size).map fun j => if i < j then needF p ops i j else some [] :=
        List.mem_flatMap.2 ⟨i, List.mem_range.2 hil, List.mem_map.2 ⟨j, List.mem_range.2 hjl, if_pos hij⟩⟩
      obtain ⟨l, e, hl⟩ := allF_mem hok _ hmem
      unfold needF at e
      split at e
      · rename_i hc; exact .inl hc
      · right
        rw [hi, hj] at e
        simp only at e
        split at e
        · rename_i hpk
          rcases pairOK1_spec hpk with hh | hh
          · exact .inl ⟨hh.1, .inl hh.2.1⟩
          · exact .inr hh
        · split at e
          · rename_i ti bi tj bj e1 e2
            split at e
            · rename_i hap
              injection e with e
              subst e
              have hL := hl (ti, tj) (by simp)
              refine .inl ⟨hap, .inr fun τ hτ => ?_⟩
              rcases hτ with rfl | rfl
              · exact ⟨ti, _, tj, _, e1, e2, sepL_mem hsep1 _ hL⟩
              · exact ⟨ti, _, tj, _, e1, e2, sepL_mem hsep2 _ hL⟩
            · cases e
          · cases e
  have hbeh : ∀ j, p + 2 ≤ j → j < ops.size → (∃ f, anc ops f p j = true) ∧ ∃ f, anc ops f (p + 1) j = true := fun j h1 h2 => by
    have := List.all_eq_true.1 hbe j (List.mem_range.2 h2)
    simp only [Bool.or_eq_true, decide_eq_true_eq, Bool.and_eq_true] at this
    rcases this with h | h
    · omega
    · exact ⟨ancF_spec h.1, ancF_spec h.2⟩
  have key := (forkP (T := fun τ => τ = σ1.t ∨ τ = σ2.t) (K := Q .normal) (P := P) (defOK_spec hdo) hp hq hdrop hlen hgo hbeh (.inl rfl) (.inr rfl) hQ1 hQ2 hE1 hE2 pre 0 (Array.replicate ops.size false) σ (by rw [htake]; rfl) (by omega) ⟨by simp, fun j hj => by simp [hj]⟩ hw hE).any
  have hfuel : pre.length + (rest.length + 2) = ops.size := by omega
  rw [hfuel] at key
  exact sAny_wp (fun i o t ho ht => by
    have := List.all_eq_true.1 hd o (by simpa using Array.mem_of_getElem? ho)
    simp only [Bool.and_eq_true] at this
    simpa [ht] using this.2) (fun i o ho => by
    have := List.all_eq_true.1 hd o (by simpa using Array.mem_of_getElem? ho)
    simp only [Bool.and_eq_true] at this
    exact this.1) (fun σ' a' w' h1 h2 => ⟨σ', h1, h2⟩) _ _ _ _ _ hi.drew key
end
end Go.Proofs.YtaljbebkooppiaaGreat.Sh

