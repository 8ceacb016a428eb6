/- A part of the proof: Sh31, Sh32, RowA, RowB, RowC -/
import Derived.Test.YtglhjjokijdagaaGreatL8
import Derived.Deep.Slices
import Derived.ChangeOld
import Derived.Carry
import Derived.SizedLaws
import Derived.ProofKit
import Derived.OpenShut
set_option linter.unusedSimpArgs false
set_option linter.unusedVariables false
set_option linter.unusedSectionVars false
/- The logic of shadows, thirty-first part: regions whose order is open and whose loads and stores go to objects that differ. -/
namespace Go.Proofs.YtglhjjokijdagaaGreat.Sh
open Go Go.RowKit

section
variable {N : Nat} {σ σ' : SS} {P : Program} {ops : Array Oper}

/-- The address of a load or a store that is always asked for: a temporary. -/
def adrT (o : Oper) : Option (Nat × Bool) := match o.guard with
  | some _ => none
  | none => match o.op with
    | .load _ (.tmp t) => some (t, false)
    | .store _ (.tmp t) _ => some (t, true)
    | _ => none
def objOf : ST → Option Nat
  | .v (.one (.mp o _)) => some o
  | _ => none
@[simp] theorem objOf_mp (o k : Nat) : objOf (.v (.one (.mp o k))) = some o := rfl
@[simp] theorem objOf_rp (fr : Bool) (cs : List S1) : objOf (.v (.one (.rp fr cs))) = none := rfl
def sepOK (τ : Nat → ST) (oi oj : Oper) : Prop := ∃ ti bi tj bj, adrT oi = some (ti, bi) ∧ adrT oj = some (tj, bj) ∧ objOf (τ ti) ≠ objOf (τ tj)

theorem sLoad_sep {τ : TyI} {x : ST} {i : Nat} (ho : objOf x ≠ some i) (h : ∀ k, k ≠ i → σ'.objs k = σ.objs k) : sLoad σ' τ x = sLoad σ τ x := by
  have : σ'.at x = σ.at x := by
    unfold SS.at
    split
    · rfl
    · rename_i o off; rw [h o (by intro e; subst e; exact ho rfl)]
    · rfl
  unfold sLoad; rw [this]

theorem dStore_same {o : Oper} {i : Nat} {ob : SObj} (h : dStore P σ o i ob) (he : ∀ x ∈ o.op.operands, σ'.ev x = σ.ev x) (ho : σ'.objs i = σ.objs i) : dStore P σ' o i ob := by
  unfold dStore at *
  split at h
  · rename_i t x y hop
    rw [he x (by simp [hop, Op.operands]), he y (by simp [hop, Op.operands]), ho]
    exact h
  · exact h.elim

theorem plain_does {o : Oper} {t : Nat} {b : Bool} {δ : Dl} (ha : adrT o = some (t, b)) (h : DoesG P ops σ o δ) :
    (b = false ∧ ∃ ty τ y, o.op = .load ty (.tmp t) ∧ tyOf P ty = some τ ∧ sLoad σ τ (σ.t t) = some y ∧ δ = .pure (.v y)) ∨ (b = true ∧ ∃ ty y i ob off, o.op = .store ty (.tmp t) y ∧ σ.t t = .v (.one (.mp i off)) ∧ dStore P σ o i ob ∧ δ = .set i ob .any) := by
  unfold adrT at ha
  split at ha
  · cases ha
  rename_i hg
  unfold DoesG at h
  simp only [hg] at h
  split at ha
  · rename_i ty t' hop
    cases ha
    refine .inl ⟨rfl, ?_⟩
    rcases h with ⟨_, h⟩ | ⟨h, _⟩
    · have hc : cls o = 1 := by simp [cls, hop]
      cases δ with
      | pure r =>
        have h := h.2
        simp only [sPure, hop] at h
        obtain ⟨τ, y, h1, h2, rfl⟩ := h
        exact ⟨ty, τ, y, hop, h1, h2, rfl⟩
      | set i ob r => have := h.1; omega
      | new ob bo x => rcases h with h | h <;> (have := h.1; omega)
    · simp [isAN, hop] at h
  · rename_i ty t' y hop
    cases ha
    refine .inr ⟨rfl, ?_⟩
    rcases h with ⟨_, h⟩ | ⟨h, _⟩
    · have hc : cls o = 3 := by simp [cls, hop]
      cases δ with
      | pure r => have := h.1; omega
      | set i ob r =>
        rcases h.2 with ⟨h1, rfl⟩ | ⟨n, h1, _⟩
        · have h2 := h1
          simp only [dStore, hop] at h2
          obtain ⟨τ, off, ob0, z, _, h4, _⟩ := h2
          exact ⟨ty, y, i, ob, off, hop, h4, h1, rfl⟩
        · simp [dCopy, hop] at h1
      | new ob bo x =>
        rcases h with h | h
        · have := h.1; omega
        · have := h.2; simp [sAppend, hop] at this
    · simp [isAN, hop] at h
  · cases ha

theorem plain_load {o : Oper} {t ty : Nat} {τ : TyI} {y : SV} (ha : adrT o = some (t, false)) (ho : o.op = .load ty (.tmp t)) (ht : tyOf P ty = some τ) (h : sLoad σ τ (σ.t t) = some y) : DoesG P ops σ o (.pure (.v y)) := by
  have hg : o.guard = none := by unfold adrT at ha; split at ha; cases ha; assumption
  unfold DoesG; simp only [hg]
  exact .inl ⟨by simp [isAN, ho], by simp [cls, ho], by simp only [sPure, ho]; exact ⟨τ, y, ht, h, rfl⟩⟩
theorem plain_store {o : Oper} {t ty i : Nat} {y : Operand} {ob : SObj} (ha : adrT o = some (t, true)) (ho : o.op = .store ty (.tmp t) y) (h : dStore P σ o i ob) : DoesG P ops σ o (.set i ob .any) := by
  have hg : o.guard = none := by unfold adrT at ha; split at ha; cases ha; assumption
  unfold DoesG; simp only [hg]
  exact .inl ⟨by simp [isAN, ho], by simp [cls, ho], .inl ⟨h, rfl⟩⟩

theorem set_set (d d' : Option Nat) (i i' : Nat) (ob ob' : SObj) (r r' : ST) (hi : i ≠ i') (h : ∀ t, d = some t → d' ≠ some t) :
    (σ.app d (.set i ob r)).app d' (.set i' ob' r') = (σ.app d' (.set i' ob' r')).app d (.set i ob r) := by
  have e1 : ∀ (σ : SS) (k : Nat) (o : SObj) (d : Option Nat) (r : ST), (σ.put d r).setObj k o = (σ.setObj k o).put d r := fun σ k o d r => by cases d <;> rfl
  have e2 : (σ.setObj i ob).setObj i' ob' = (σ.setObj i' ob').setObj i ob := by
    unfold SS.setObj
    congr 1
    funext k
    by_cases a : k = i
    · subst a; simp [hi]
    · simp [a]
  simp only [SS.app, e1]
  rw [e2, put_put d d' r r' h]

theorem swapS {oi oj : Oper} {δi δj : Dl} (hap : oi.apart ops oj = true) (hs : sepOK σ.t oi oj) (hw : σ.wf) (hi : DoesG P ops σ oi δi) (hj : DoesG P ops (σ.app oi.dst δi) oj δj) :
    DoesG P ops σ oj δj ∧ DoesG P ops (σ.app oj.dst δj) oi δi ∧ (σ.app oi.dst δi).app oj.dst δj = (σ.app oj.dst δj).app oi.dst δi := by
  obtain ⟨h1, h2, h3⟩ := Oper.apart_spec hap
  obtain ⟨ti, bi, tj, bj, ai, aj, hne⟩ := hs
  have evj : ∀ x ∈ oj.op.operands, σ.ev x = (σ.app oi.dst δi).ev x := fun x hx => (app_ev oi.dst δi x (fun t ht e => h1 t ht (by subst e; exact operand_looks hx))).symm
  have evi : ∀ x ∈ oi.op.operands, (σ.app oj.dst δj).ev x = σ.ev x := fun x hx => app_ev oj.dst δj x (fun t ht e => h3 t ht (by subst e; exact operand_looks hx))
  rcases plain_does ai hi with ⟨rfl, tyi, τi, yi, oi1, oi2, oi3, rfl⟩ | ⟨rfl, tyi, yi, i, ob, off, oi1, oi2, oi3, rfl⟩ <;>
    rcases plain_does aj hj with ⟨rfl, tyj, τj, yj, oj1, oj2, oj3, rfl⟩ | ⟨rfl, tyj, yj, j, ob', off', oj1, oj2, oj3, rfl⟩
  · exact swap hap (by simp [memOK, dcls, isAN, cls, oi1, oj1]) hw hi hj
  · have e1 : (σ.app oi.dst (.pure (.v yi))).objs = σ.objs := put_objs' _ _
    have etj : σ.t tj = .v (.one (.mp j off')) := by
      have := evj (.tmp tj) (by simp [oj1, Op.operands])
      exact this.trans oj2
    refine ⟨plain_store aj oj1 (dStore_same oj3 (fun x hx => evj x hx) (by rw [e1])), ?_, pure_comm oi.dst oj.dst _ _ h2⟩
    refine plain_load ai oi1 oi2 ?_
    have := evi (.tmp ti) (by simp [oi1, Op.operands])
    rw [show (σ.app oj.dst (.set j ob' .any)).t ti = σ.t ti from this, sLoad_sep (i := j) (by rw [etj] at hne; exact hne)]
    · exact oi3
    · intro k hk
      rw [SS.app, put_objs']
      show (if k = j then some ob' else σ.objs k) = _
      rw [if_neg hk]
  · have e1 : ∀ k, k ≠ i → (σ.app oi.dst (.set i ob .any)).objs k = σ.objs k := fun k hk => by
      rw [SS.app, put_objs']
      show (if k = i then some ob else σ.objs k) = _
      rw [if_neg hk]
    have etj : σ.t tj = (σ.app oi.dst (.set i ob .any)).t tj := evj (.tmp tj) (by simp [oj1, Op.operands])
    rw [← etj, sLoad_sep (i := i) (by rw [oi2] at hne; exact fun e => hne e.symm) e1] at oj3
    refine ⟨plain_load aj oj1 oj2 oj3, plain_store ai oi1 (dStore_same oi3 (fun x hx => evi x hx) (by rw [SS.app, put_objs'])), (pure_comm oj.dst oi.dst _ _ (fun t ht e => h2 t e ht)).symm⟩
  · have etj : σ.t tj = .v (.one (.mp j off')) := (evj (.tmp tj) (by simp [oj1, Op.operands])).trans oj2
    have hij : i ≠ j := by
      intro e; subst e
      rw [oi2, etj] at hne; exact hne rfl
    have e1 : (σ.app oi.dst (.set i ob .any)).objs j = σ.objs j := by
      rw [SS.app, put_objs']
      show (if j = i then some ob else σ.objs j) = _
      rw [if_neg (Ne.symm hij)]
    refine ⟨plain_store aj oj1 (dStore_same oj3 evj e1.symm), plain_store ai oi1 (dStore_same oi3 evi ?_), set_set oi.dst oj.dst i j ob ob' _ _ hij h2⟩
    rw [SS.app, put_objs']
    show (if i = j then some ob' else σ.objs i) = _
    rw [if_neg hij]

/-- The operation that is first in the text may go first. -/
theorem firstS {K : SS → Prop} {i : Nat} {oi : Oper} {δi : Dl} {τ : Nat → ST} (hi : ops[i]? = some oi) (hst : ∀ (k k' : Nat) (o o' : Oper) (t : Nat) (b : Bool), ops[k]? = some o → adrT o = some (t, b) → ops[k']? = some o' → o'.dst ≠ some t) :
    ∀ (f : Nat) (listed : Array Bool) (σ : SS), σ.wf → (∀ (k : Nat) (o : Oper) (t : Nat) (b : Bool), ops[k]? = some o → adrT o = some (t, b) → σ.t t = τ t) →
      (∀ j oj, ops[j]? = some oj → j ≠ i → listed.getD j true = false → (oi.apart ops oj = true ∧ (memOK (dcls oi) (dcls oj) = true ∨ sepOK τ oi oj) ∧ isDyn oj = false) ∨ ∃ f, anc ops f i j = true) →
      Closed ops listed → i ∈ Region.ready .any ops listed → DoesG P ops σ oi δi → sAny P False ops K f (listed.setIfInBounds i true) (σ.app oi.dst δi) → sAny P False ops K (f + 1) listed σ := by
  intro f
  induction f with
  | zero =>
    intro listed σ hw hτ hfree hc hr hy H
    refine ⟨fun h => (by rw [h] at hr; cases hr), fun j hj => ?_⟩
    by_cases hji : j = i
    · subst hji; exact ⟨oi, hi, Or.inl ⟨δi, hy, H⟩⟩
    · have := ready_mono hj hji
      rw [H.1] at this
      cases this
  | succ f ih =>
    intro listed σ hw hτ hfree hc hr hy H
    refine ⟨fun h => (by rw [h] at hr; cases hr), fun j hj => ?_⟩
    by_cases hji : j = i
    · subst hji; exact ⟨oi, hi, Or.inl ⟨δi, hy, H⟩⟩
    · obtain ⟨oj, hoj, hH⟩ := H.2 j (ready_mono hj hji)
      obtain ⟨hjun, _⟩ := mem_ready.1 hj
      have hun := (mem_ready.1 hr).1
      rcases hfree j oj hoj hji hjun with ⟨hap, hm, hnd⟩ | ⟨_, ha⟩
      · obtain ⟨δj, hdj, hrest⟩ : ∃ δ, DoesG P ops (σ.app oi.dst δi) oj δ ∧ sAny P False ops K f ((listed.setIfInBounds i true).setIfInBounds j true) ((σ.app oi.dst δi).app oj.dst δ) := by
          rcases hH with h | ⟨_, h, _⟩
          · exact h
          · exact h.elim
        have hsw : DoesG P ops σ oj δj ∧ DoesG P ops (σ.app oj.dst δj) oi δi ∧ (σ.app oi.dst δi).app oj.dst δj = (σ.app oj.dst δj).app oi.dst δi := by
          rcases hm with hm | ⟨ti, bi, tj, bj, g1, g2, g3⟩
          · exact swap hap hm hw hy hdj
          · exact swapS hap ⟨ti, bi, tj, bj, g1, g2, by rw [hτ i oi ti bi hi g1, hτ j oj tj bj hoj g2]; exact g3⟩ hw hy hdj
        obtain ⟨s1, s2, s3⟩ := hsw
        refine ⟨oj, hoj, Or.inl ⟨δj, s1, ?_⟩⟩
        refine ih (listed.setIfInBounds j true) _ (wf_app hw oj.dst s1.fits s1.set_some) ?_ ?_ (closed_set hc hj) (ready_mono hr (Ne.symm hji)) s2 ?_
        · intro k o t b hk ha
          rw [app_t oj.dst δj t (hst k j o oj t b hk ha hoj)]
          exact hτ k o t b hk ha
        · intro k ok hk hki hkun
          refine hfree k ok hk hki ?_
          by_cases hjk : j = k
          · subst hjk; exact hjun
          · rw [getD_set_ne true hjk] at hkun; exact hkun
        · rw [Array.setIfInBounds_comm _ _ hji, ← s3]
          exact hrest
      · have hl := anc_ready hc ha hj
        rcases Nat.lt_or_ge i listed.size with h' | h'
        · simp [h'] at hun hl; rw [hun] at hl; cases hl
        · simp [Array.getElem?_eq_none h'] at hl

/-! ### Which objects must differ -/
def pairOK1 (ops : Array Oper) (oi : Oper) (i : Nat) (oj : Oper) (j : Nat) : Bool := anc ops 1 i j || (oi.apart ops oj && memOK (dcls oi) (dcls oj) && (!isDyn oi && !isDyn oj)) || anc ops 3 i j || anc ops 9 i j

def pairS (ops : Array Oper) (oi : Oper) (i : Nat) : List Oper → Nat → Option (List (Nat × Nat))
  | [], _ => some []
  | oj :: rest, j => match pairS ops oi i rest (j + 1) with
    | none => none
    | some L => if pairOK1 ops oi i oj j = true then some L else match adrT oi, adrT oj with
      | some (ti, _), some (tj, _) => if oi.apart ops oj = true then some ((ti, tj) :: L) else none
      | _, _ => none

def goS (ops : Array Oper) : List Oper → Nat → Option (List (Nat × Nat))
  | [], _ => some []
  | o :: rest, i => match goS ops rest (i + 1), pairS ops o i rest (i + 1) with
    | some L, some M => if (o.after.toList.all fun e => !Region.binds .any e || decide (e.on < i)) = true then some (M ++ L) else none
    | _, _ => none

def noAdr (ops : Array Oper) : Bool := ops.toList.all fun o => match adrT o with | none => true | some (t, _) => ops.toList.all fun o' => !(o'.dst == some t)
def drawS (ops : Array Oper) : Option (List (Nat × Nat)) := if noAdr ops = true then goS ops ops.toList 0 else none

theorem pairOK1_spec {oi oj : Oper} {i j : Nat} (h : pairOK1 ops oi i oj j = true) : (oi.apart ops oj = true ∧ memOK (dcls oi) (dcls oj) = true ∧ isDyn oi = false ∧ isDyn oj = false) ∨ ∃ f, anc ops f i j = true := by
  simp only [pairOK1, Bool.and_eq_true, Bool.or_eq_true] at h
  rcases h with ((h1 | h1) | h1) | h1
  · exact Or.inr ⟨1, h1⟩
  · exact Or.inl ⟨h1.1.1, h1.1.2, by simpa using h1.2.1, by simpa using h1.2.2⟩
  · exact Or.inr ⟨3, h1⟩
  · exact Or.inr ⟨9, h1⟩

def pairG (ops : Array Oper) (τ : Nat → ST) (oi oj : Oper) (i j : Nat) : Prop := (oi.apart ops oj = true ∧ (memOK (dcls oi) (dcls oj) = true ∨ sepOK τ oi oj) ∧ isDyn oi = false ∧ isDyn oj = false) ∨ ∃ f, anc ops f i j = true

theorem adr_dyn {o : Oper} {p : Nat × Bool} (h : adrT o = some p) : isDyn o = false := by
  unfold adrT at h
  split at h
  · cases h
  · split at h
    · rename_i ho; simp [isDyn, ho]
    · rename_i ho; simp [isDyn, ho]
    · cases h

theorem pairS_spec {τ : Nat → ST} {oi : Oper} {i : Nat} : ∀ {l : List Oper} {k : Nat} {L : List (Nat × Nat)}, pairS ops oi i l k = some L → (∀ p ∈ L, objOf (τ p.1) ≠ objOf (τ p.2)) → ∀ j oj, l[j]? = some oj → pairG ops τ oi oj i (k + j)
  | [], _, _, _, _, j, oj, hj => by simp at hj
  | o :: l, k, L, h, hL, j, oj, hj => by
    simp only [pairS] at h
    split at h
    · cases h
    rename_i L' hrec
    have hd : pairG ops τ oi o i k ∧ ∀ p ∈ L', objOf (τ p.1) ≠ objOf (τ p.2) := by
      split at h
      · rename_i h1
        cases h
        refine ⟨?_, hL⟩
        rcases pairOK1_spec h1 with ⟨a, b, c⟩ | h2
        · exact .inl ⟨a, .inl b, c⟩
        · exact .inr h2
      · split at h
        · rename_i ti bi tj bj e1 e2
          split at h
          · rename_i hap
            cases h
            exact ⟨.inl ⟨hap, .inr ⟨ti, _, tj, _, e1, e2, hL _ (List.mem_cons_self ..)⟩, adr_dyn e1, adr_dyn e2⟩, fun p hp => hL p (List.mem_cons_of_mem _ hp)⟩
          · cases h
        · cases h
    cases j with
    | zero => simp at hj; subst hj; exact hd.1
    | succ j =>
      have := pairS_spec hrec hd.2 j oj (by simpa using hj)
      rw [show k + 1 + j = k + (j + 1) by omega] at this
      exact this

theorem goS_spec {τ : Nat → ST} : ∀ {l : List Oper} {k : Nat} {L : List (Nat × Nat)}, goS ops l k = some L → (∀ p ∈ L, objOf (τ p.1) ≠ objOf (τ p.2)) → ∀ (i : Nat) (oi : Oper), l[i]? = some oi → (∀ e ∈ oi.after, Region.binds .any e = true → e.on < k + i) ∧
    ∀ j oj, l[j]? = some oj → i < j → pairG ops τ oi oj (k + i) (k + j)
  | [], _, _, _, _, i, oi, hi => by simp at hi
  | o :: l, k, L, h, hL, i, oi, hi => by
    simp only [goS] at h
    split at h
    · rename_i L' M' h1 h2
      split at h
      · rename_i h3
        cases h
        cases i with
        | zero =>
          simp at hi; subst hi
          refine ⟨fun e he hb => ?_, fun j oj hj hij => ?_⟩
          · have := List.all_eq_true.1 h3 e (by simpa using he)
            simpa [hb] using this
          · obtain ⟨j, rfl⟩ : ∃ j', j = j' + 1 := ⟨j - 1, by omega⟩
            have := pairS_spec h2 (fun p hp => hL p (List.mem_append_left _ hp)) j oj (by simpa using hj)
            rw [show k + 1 + j = k + (j + 1) by omega] at this
            exact this
        | succ i =>
          obtain ⟨g1, g2⟩ := goS_spec h1 (fun p hp => hL p (List.mem_append_right _ hp)) i oi (by simpa using hi)
          refine ⟨fun e he hb => by have := g1 e he hb; omega, fun j oj hj hij => ?_⟩
          obtain ⟨j, rfl⟩ : ∃ j', j = j' + 1 := ⟨j - 1, by omega⟩
          have := g2 j oj (by simpa using hj) (by omega)
          rw [show k + 1 + j = k + (j + 1) by omega, show k + 1 + i = k + (i + 1) by omega] at this
          exact this
      · cases h
    · cases h

theorem lexS_any {τ : Nat → ST} (hst : ∀ (k k' : Nat) (o o' : Oper) (t : Nat) (b : Bool), ops[k]? = some o → adrT o = some (t, b) → ops[k']? = some o' → o'.dst ≠ some t)
    (hok : ∀ (i : Nat) (oi : Oper), ops[i]? = some oi → (∀ e ∈ oi.after, Region.binds .any e = true → e.on < i) ∧ ∀ j oj, ops[j]? = some oj → i < j → pairG ops τ oi oj i j) {K : SS → Prop} :
    ∀ (rest : List Oper) (k : Nat) (listed : Array Bool) (σ : SS), ops.toList.drop k = rest → k + rest.length = ops.size → (∀ j, j < ops.size → listed[j]? = some (decide (j < k))) → σ.wf →
      (∀ (k : Nat) (o : Oper) (t : Nat) (b : Bool), ops[k]? = some o → adrT o = some (t, b) → σ.t t = τ t) → (∀ (k : Nat) (o : Oper), ops[k]? = some o → isDyn o = false) → sLex P False ops K rest σ → sAny P False ops K rest.length listed σ := by
  intro rest
  induction rest with
  | nil =>
    intro k listed σ hdrop hlen hl hw hτ hdy h
    refine ⟨?_, h⟩
    cases hr : Region.ready .any ops listed with
    | nil => rfl
    | cons j l =>
      have hj : j ∈ Region.ready .any ops listed := by rw [hr]; simp
      obtain ⟨hun, o, ho, _⟩ := mem_ready.1 hj
      have hlt := (Array.getElem?_eq_some_iff.1 ho).1
      have := hl j hlt
      simp at hlen
      simp only [Array.getD_eq_getD_getElem?, this, Option.getD_some, decide_eq_false_iff_not] at hun
      omega
  | cons o rest ih =>
    intro k listed σ hdrop hlen hl hw hτ hdy h
    have hk : ops[k]? = some o := by
      have : (ops.toList.drop k)[0]? = some o := by rw [hdrop]; rfl
      simpa using this
    simp only [List.length_cons] at hlen
    obtain ⟨c1, c2⟩ := hok k o hk
    have hready : k ∈ Region.ready .any ops listed := mem_ready.2 ⟨by simp [Array.getD_eq_getD_getElem?, hl k (by omega)], o, hk, fun e he hb => by
      have := c1 e he hb
      simp [Array.getD_eq_getD_getElem?, hl e.on (by omega), this]⟩
    have hnext : ∀ j, j < ops.size → (listed.setIfInBounds k true)[j]? = some (decide (j < k + 1)) := by
      intro j hj
      rw [Array.getElem?_setIfInBounds]
      by_cases e : k = j
      · subst e
        have hs : k < listed.size := by
          have := hl k hj
          exact (Array.getElem?_eq_some_iff.1 this).1
        simp [hs]
      · rw [if_neg e, hl j hj]
        congr 1
        simp; omega
    have hcl : Closed ops listed := by
      intro j oj hj hlj e he hb
      have hlt := (Array.getElem?_eq_some_iff.1 hj).1
      simp only [Array.getD_eq_getD_getElem?, hl j hlt, Option.getD_some, decide_eq_true_eq] at hlj
      have := (hok j oj hj).1 e he hb
      simp [Array.getD_eq_getD_getElem?, hl e.on (by omega)]
      omega
    have hdr : ops.toList.drop (k + 1) = rest := by rw [← List.drop_drop, hdrop]; rfl
    rcases h with ⟨δ, h1, h2⟩ | ⟨_, hd, _⟩
    · refine firstS hk hst rest.length listed σ hw hτ ?_ hcl hready h1 (ih (k + 1) _ _ hdr (by omega) hnext (wf_app hw o.dst h1.fits h1.set_some) ?_ hdy h2)
      · intro j oj hj hjk hun
        have hlt := (Array.getElem?_eq_some_iff.1 hj).1
        simp only [Array.getD_eq_getD_getElem?, hl j hlt, Option.getD_some, decide_eq_false_iff_not] at hun
        exact (c2 j oj hj (by omega)).imp (fun h => ⟨h.1, h.2.1, h.2.2.2⟩) id
      · intro k' o' t b hk' ha
        rw [app_t o.dst δ t (hst k' k o' o t b hk' ha hk)]
        exact hτ k' o' t b hk' ha
    · exact hd.elim

theorem sLex_nd {St : Prop} {K : SS → Prop} : ∀ {l : List Oper} {σ : SS}, (∀ o ∈ l, isDyn o = false) → sLex P St ops K l σ → sLex P False ops K l σ
  | [], _, _, h => h
  | o :: l, σ, hd, h => by
    rcases h with ⟨δ, h1, h2⟩ | ⟨h, _⟩
    · exact .inl ⟨δ, h1, sLex_nd (fun o ho => hd o (List.mem_cons_of_mem _ ho)) h2⟩
    · rw [hd o (List.mem_cons_self ..)] at h; cases h

/-- A region whose order is open, and whose loads and stores go to objects that differ. -/
theorem sw_draw_s {id : Nat} {Q : Exit → SS → Prop} {L : List (Nat × Nat)} (hm : P.follows .mixedOrders = true) (hok : drawS ops = some L) (hdy : (ops.toList.all fun o => !isDyn o) = true) (hd : dstsOK N ops.toList = true) (hsep : ∀ p ∈ L, objOf (σ.t p.1) ≠ objOf (σ.t p.2))
    (h : eOps P false ops.toList ops.toList σ (Q .normal)) : sw P N (.region id ops true) Q σ := by
  unfold drawS at hok
  split at hok
  case isFalse => cases hok
  rename_i hno
  have hst : ∀ (k k' : Nat) (o o' : Oper) (t : Nat) (b : Bool), ops[k]? = some o → adrT o = some (t, b) → ops[k']? = some o' → o'.dst ≠ some t := by
    intro k k' o o' t b hk ha hk' e
    have h1 := List.all_eq_true.1 hno o (by simpa using Array.mem_of_getElem? hk)
    simp only [ha] at h1
    have := List.all_eq_true.1 h1 o' (by simpa using Array.mem_of_getElem? hk')
    simp [e] at this
  have hdyn : ∀ (k : Nat) (o : Oper), ops[k]? = some o → isDyn o = false := fun k o hk => by
    have := List.all_eq_true.1 hdy o (by simpa using Array.mem_of_getElem? hk)
    simpa using this
  intro w0 ok0 a w hi
  refine wpIn_region_any hm ?_
  have hw : σ.wf := hi.wf
  have hgo : ∀ (i : Nat) (oi : Oper), ops[i]? = some oi → (∀ e ∈ oi.after, Region.binds .any e = true → e.on < i) ∧ ∀ j oj, ops[j]? = some oj → i < j → pairG ops σ.t oi oj i j := fun i oi hi => by
    have := goS_spec hok hsep i oi (by simpa using hi)
    simp only [Nat.zero_add] at this
    exact ⟨this.1, fun j oj hj => this.2 j oj (by simpa using hj)⟩
  have := lexS_any hst hgo (K := Q .normal) (P := P) ops.toList 0 (Array.replicate ops.size false) σ rfl (by simp) (by intro j hj; simp [hj]) hw (fun _ _ _ _ _ _ => rfl) hdyn (sLex_nd (fun o ho => by have := List.all_eq_true.1 hdy o ho; simpa using this) (eOps_lex ops ops.toList σ h))
  simp only [Array.length_toList] at this
  exact sAny_wp (fun i o t ho ht => by
    have := List.all_eq_true.1 hd o (by simpa using Array.mem_of_getElem? ho)
    simp only [Bool.and_eq_true] at this
    simpa [ht] using this.2) (fun i o ho => by
    have := List.all_eq_true.1 hd o (by simpa using Array.mem_of_getElem? ho)
    simp only [Bool.and_eq_true] at this
    exact this.1) (fun σ' a' w' h1 h2 => ⟨σ', h1, h2⟩) _ _ _ _ _ hi.drew this

/-- A contract out of code, with a cut ahead of such a region. -/
theorem calls_sep {Y : Type} (n : Nat) (mid : Y → SS) {f id : Nat} {fn : Func} {c x d : Code} {args : List SV} {r : ST} {L : List (Nat × Nat)} (hf : P.funcs[f]? = some fn) (hb : fn.body = some c) (hname : (fn.name == "runtime.NumGoroutine") = false) (hN : decide (args.length ≤ fn.ntmps) = true)
    (hs : splitSeq n c = some (x, .seq (.region id ops true) d)) (hc : codeOK fn.ntmps x = true) (hc2 : codeOK fn.ntmps d = true) (hL : drawS ops = some L) (hdy : (ops.toList.all fun o => !isDyn o) = true) (hd : dstsOK fn.ntmps ops.toList = true) (hm : P.follows .mixedOrders = true)
    (hsep : ∀ y, ∀ p ∈ L, objOf ((mid y).t p.1) ≠ objOf ((mid y).t p.2))
    (h : eC P fn.ntmps x (cutQ mid (Ret P fn.results.toList r)) (SS.of (argList args 0) [] 0))
    (h2 : ∀ y, eOps P false ops.toList ops.toList (mid y) (hold (eC P fn.ntmps d (Ret P fn.results.toList r)))) : CallsS P f args r :=
  calls_of_sw' (fun r' => r'.sub r) (fun _ _ _ _ _ h hs => RT.sub h hs) hf hb hname (of_decide_eq_true hN)
    (sw_mono (sw_splice mid (fun y => sw_seq (sw_mono (sw_draw_s (Q := thenB (hold (eC P fn.ntmps d (Ret P fn.results.toList r)))) hm hL hdy hd (hsep y) (h2 y)) (fun e σ' hq => by
      cases e with
      | normal => exact eC_sound d _ _ hc2 hq
      | _ => exact hq.elim))) n c x _ hs hc h) fun _ _ ⟨h1, h2⟩ => ⟨h1, onO_elim h2⟩)
end
end Go.Proofs.YtglhjjokijdagaaGreat.Sh

/- The logic of shadows, thirty-second part: loops over functions, with a fact that each round hands to the next. -/
namespace Go.Proofs.YtglhjjokijdagaaGreat.Sh
open Go Go.RowKit

section
variable {P : Program} {N : Nat} {σ : SS} {c : Code}

theorem sw_conseq {Q Q' : Exit → SS → Prop} (h : sw P N c Q σ) (k : ∀ e σ', Q e σ' → ∃ σ'', Le σ' σ'' ∧ Q' e σ'') : sw P N c Q' σ := fun w0 ok0 a w hi => wpIn_mono (h w0 ok0 a w hi) (fun _ _ _ ⟨σ', h1, h2⟩ => by obtain ⟨σ'', g1, g2⟩ := k _ _ h1; exact ⟨σ'', g2, g1 _ _ _ _ _ h2⟩)

/-- A fact beside what is known. -/
def withF (F : Prop) (σ : SS) : SS := σ.wx { σ.x with ctx := fun w ok => F ∧ σ.x.ctx w ok }

theorem withF_get {F : Prop} {w0 : W0} {ok0 : Bool → Nat → Prop} {a : Act} {w : World} (h : Inv w0 ok0 N (withF F σ) a w) : F := by
  obtain ⟨mu, h⟩ := h.im
  exact h.m.ext.ctx.1
theorem withF_le {F : Prop} : Le (withF F σ) σ := by
  intro w0 ok0 N a w h
  obtain ⟨mu, h⟩ := h.im
  have hF : F := h.m.ext.ctx.1
  have hs := h.m.ext.st
  exact (IM.turned h (Turn.refl _ w) (C := σ.x.ctx) (fun w w' ok ok' hc g => (hs w w' ok ok' ⟨hF, hc⟩ g).2) h.m.ext.ctx.2).inv
theorem withF_le' {F : Prop} (hF : F) : Le σ (withF F σ) := by
  intro w0 ok0 N a w h
  obtain ⟨mu, h⟩ := h.im
  have hs := h.m.ext.st
  exact (IM.turned h (Turn.refl _ w) (C := fun w ok => F ∧ σ.x.ctx w ok) (fun w w' ok ok' hc g => ⟨hF, hs w w' ok ok' hc.2 g⟩) ⟨hF, h.m.ext.ctx⟩).inv

theorem withF_putPs {F : Prop} : ∀ (ps : List Nat) (xs : List SV) (σ : SS), putPs ps xs (withF F σ) = withF F (putPs ps xs σ)
  | [], xs, σ => by simp
  | _ :: _, [], σ => by simp
  | p :: ps, x :: xs, σ => by
    rw [putPs_cons, putPs_cons, ← withF_putPs ps xs]
    rfl

theorem leL_congr {a b a' b' : SS} (h1 : a'.objs = a.objs) (h2 : b'.objs = b.objs) : ∀ {L : List Nat}, leL a b L → leL a' b' L
  | [], _ => trivial
  | o :: l, h => by
    simp only [leL_cons] at h ⊢
    rw [h1, h2]
    exact ⟨h.1, leL_congr h1 h2 h.2⟩
theorem clL_congr {a a' : SS} (h1 : a'.objs = a.objs) : ∀ {L : List Nat}, clL a L → clL a' L
  | [], _ => trivial
  | o :: l, h => by
    simp only [clL_cons] at h ⊢
    rw [h1]
    exact ⟨h.1, clL_congr h1 h.2⟩

/-- How a round may end, and what it knows then. -/
def roundF (L : List Nat) (σ0 nxt : SS) (F : Prop) (Q : Exit → SS → Prop) (_t : Tok nxt := ⟨⟩) (_t2 : Tok Q := ⟨⟩) (_t3 : Tok F := ⟨⟩) : Exit → SS → Prop
  | .normal, σ' => (leL σ' nxt L ∧ σ'.x.ctx = nxt.x.ctx) ∧ F
  | .ret, σ' => clL σ' L ∧ Q .ret (back L σ0 σ')
  | .exit id, σ' => clL σ' L ∧ Q (.exit id) (back L σ0 σ')
  | _, _ => False
@[simp] theorem roundF_normal (L : List Nat) (σ0 nxt σ' : SS) (F : Prop) (Q : Exit → SS → Prop) (t : Tok nxt) (t2 : Tok Q) (t3 : Tok F) : roundF L σ0 nxt F Q t t2 t3 .normal σ' = ((leL σ' nxt L ∧ σ'.x.ctx = nxt.x.ctx) ∧ F) := rfl
@[simp] theorem roundF_ret (L : List Nat) (σ0 nxt σ' : SS) (F : Prop) (Q : Exit → SS → Prop) (t : Tok nxt) (t2 : Tok Q) (t3 : Tok F) : roundF L σ0 nxt F Q t t2 t3 .ret σ' = (clL σ' L ∧ Q .ret (back L σ0 σ')) := rfl
@[simp] theorem roundF_exit (L : List Nat) (σ0 nxt σ' : SS) (F : Prop) (Q : Exit → SS → Prop) (t : Tok nxt) (t2 : Tok Q) (t3 : Tok F) (id : Nat) : roundF L σ0 nxt F Q t t2 t3 (.exit id) σ' = (clL σ' L ∧ Q (.exit id) (back L σ0 σ')) := rfl

/-- At the loop's end the state is this one; or the loop is left. -/
def endF (last : SS) (Q : Exit → SS → Prop) : Exit → SS → Prop
  | .normal, σ' => σ' = last
  | e, σ' => Q e σ'

/-- A loop over a function, its round computed; F k is known ahead of round k. -/
theorem sw_range_f {g : Operand} {ps : Array Tmp} {assign body : Code} {Q : Exit → SS → Prop} {f : Nat} {caps : List S1} {items : List (List SV)} (L : List Nat) (st : Nat → SS) (F : Nat → Prop) (hF0 : F 0)
    (hit : IterS P f caps items) (hg : (st 0).ev g = .v (.one (.fn f caps))) (hc : (codeOK N assign && codeOK N body && ps.toList.all fun p => decide (p < N)) = true) (hps : ∀ it ∈ items, it.length = ps.size) (h0 : Le σ (st 0))
    (hsh : ∀ k, (st k).t = (st 0).t ∧ (st k).n = (st 0).n ∧ (∀ o ob, (st k).objs o = some ob → o ∈ L) ∧ clL (st k) L ∧ (st k).x.maps = [] ∧ (st k).x.base = (st 0).x.base)
    (hst : ∀ k w0 ok0, (st 0).x.base w0 ok0 → Stable w0.Z (st k).x.ctx)
    (round : ∀ (k : Nat) (h : k < items.length), F k → eC P N assign (thenB (hold (eC P N body (roundF L (st 0) (st (k + 1)) (F (k + 1)) Q)))) (putPs ps.toList items[k] (st k)))
    (done : F items.length → Q .normal (st items.length)) : holdP (sw P N (.rangeFunc g ps assign body) Q σ) := by
  simp only [Bool.and_eq_true] at hc
  have key : sw P N (.rangeFunc g ps assign body) (endF (withF (F items.length) (st items.length)) Q) σ := by
    refine sw_range L (fun k => withF (F k) (st k)) hg hit hps (fun p hp => by have := List.all_eq_true.1 hc.2 p hp; simpa using this) (h0.trans (withF_le' hF0)) (fun k => (hsh k).1) (fun k => (hsh k).2.1) (fun k => (hsh k).2.2.1) (fun k => clL_congr (a := st k) (a' := withF (F k) (st k)) rfl (hsh k).2.2.2.1) (fun k => (hsh k).2.2.2.2.1) (fun k => (hsh k).2.2.2.2.2)
      (fun k w0 ok0 hb w w' ok ok' hc g => ⟨hc.1, hst k w0 ok0 hb w w' ok ok' hc.2 g⟩) (fun k h => ?_) rfl
    rw [withF_putPs]
    intro w0 ok0 a w hi
    refine (sw_le withF_le (?_ : sw P N assign _ (putPs ps.toList items[k] (st k)))) w0 ok0 a w hi
    refine sw_mono (eC_sound _ _ _ hc.1.1 (round k h (withF_get hi))) (fun e σ' hq => ?_)
    cases e with
    | normal =>
      refine sw_conseq (eC_sound _ _ _ hc.1.2 hq) (fun e σ1 h1 => ?_)
      cases e with
      | normal =>
        obtain ⟨⟨g1, g2⟩, g3⟩ := h1
        refine ⟨withF (F (k + 1)) σ1, withF_le' g3, leL_congr (a := σ1) (b := st (k + 1)) (a' := withF (F (k + 1)) σ1) (b' := withF (F (k + 1)) (st (k + 1))) rfl rfl g1, ?_⟩
        show (fun w ok => F (k + 1) ∧ σ1.x.ctx w ok) = (fun w ok => F (k + 1) ∧ (st (k + 1)).x.ctx w ok)
        rw [g2]
      | ret => exact ⟨σ1, Le.refl _, h1.1, h1.2⟩
      | exit id => exact ⟨σ1, Le.refl _, h1.1, h1.2⟩
      | goto => exact h1.elim
      | panic => exact h1.elim
      | outgrown => exact h1.elim
    | _ => exact hq
  intro w0 ok0 a w hi
  refine wpIn_mono (key w0 ok0 a w hi) (fun e a' w' ⟨σ', h1, h2⟩ => ?_)
  cases e with
  | normal =>
    have h1 : σ' = _ := h1
    subst h1
    exact ⟨_, done (withF_get h2), withF_le _ _ _ _ _ h2⟩
  | _ => exact ⟨σ', h1, h2⟩
@[simp] theorem subL_pre (a b : List S1) : ∀ (l : List S1), subL (l ++ a) (l ++ b) = subL a b
  | [] => rfl
  | x :: l => by rw [List.cons_append, List.cons_append, subL_cons, subL_pre a b l, S1.sub_self, true_and]
end
end Go.Proofs.YtglhjjokijdagaaGreat.Sh

/- Arguments that are handed in, as data: what they are as shadows. -/
namespace Go.Proofs.YtglhjjokijdagaaGreat.Sh
open Go Go.RowKit Go.ChangeShapes Go.WideShapes

mutual
/-- The form of a type. -/
inductive Shp where
  | int (k : IntKind)
  | bool
  | str
  | slice (e : Nat) (s : Shp)
  | agg (fs : Shps)
inductive Shps where
  | nil
  | cons (z : Nat) (s : Shp) (r : Shps)
end

mutual
/-- Is it a type's form? -/
def Shp.fits (P : Program) : Shp → Nat → Bool
  | .int k, t => match P.underlying t with | some (.int k') => k == k' | _ => false
  | .bool, t => match P.underlying t with | some .bool => true | _ => false
  | .str, t => match P.underlying t with | some .string => true | _ => false
  | .slice e s, t => match P.underlying t with | some (.slice el) => ((P.cellsOf el == e && e != 0) && P.bytesOf el != 0) && s.fits P el | _ => false
  | .agg fs, t => match P.underlying t with | some (.struct fields) => fs.fits P fields.toList 0 (P.cellsOf t) | _ => false
def Shps.fits (P : Program) : Shps → List Field → Nat → Nat → Bool
  | .nil, [], off, n => off == n
  | .cons z s r, f :: fs, off, n => f.offset == off && P.cellsOf f.type == z && s.fits P f.type && r.fits P fs (off + z) n
  | _, _, _, _ => false
end

section
variable {H : Type}
mutual
/-- The cells of a datum, as shadows. -/
def Shp.cells : Shp → DataW H → List S1
  | .int k, d => match d with | .lit (.int _ n) => [.int k n] | _ => [.any]
  | .bool, d => match d with | .lit (.bool b) => [.bool b] | _ => [.any]
  | .str, d => match d with | .lit (.string b) => [.str ⟨b.toArray⟩] | _ => [.any]
  | .slice e s, d => match d with | .slice elems _ => [.sl true e (elems.map fun x => s.cells x)] | _ => [.sl true e []]
  | .agg fs, d => match d with | .agg parts => fs.cells parts | _ => []
def Shps.cells : Shps → List (DataW H) → List S1
  | .cons _ s r, d :: ds => s.cells d ++ r.cells ds
  | _, _ => []
end

mutual
/-- It is a datum of that form. -/
def Shp.ok : Shp → DataW H → Prop
  | .int k, d => ∃ n, d = .lit (.int k n) ∧ (Lit.int k n).wf = true
  | .bool, d => ∃ b, d = .lit (.bool b)
  | .str, d => ∃ b, d = .lit (.string b) ∧ b.length ≤ 140737488351232
  | .slice e s, d => d = .nil ∨ ∃ elems spare, d = .slice elems spare ∧ elems.length ≤ 140737488351232 ∧ ∀ x ∈ elems, s.ok x ∧ (s.cells x).length = e
  | .agg fs, d => ∃ parts, d = .agg parts ∧ fs.ok parts
def Shps.ok : Shps → List (DataW H) → Prop
  | .nil, ds => ds = []
  | .cons z s r, ds => ∃ d ds', ds = d :: ds' ∧ (s.ok d ∧ (s.cells d).length = z) ∧ r.ok ds'
end

variable {enc : TypeId × Value → H} {P : Program} {w : World}

/-- Cells and what is known of them. -/
def Cells (w : World) (cs : List Value) (l : List S1) : Prop := cs.length = l.length ∧ ∀ (j : Nat) (s : S1), l[j]? = some s → ∃ u, cs[j]? = some u ∧ R0 w (fun _ b => b < w.heap.size) u s

theorem Cells.one {u : Value} {s : S1} (h : R0 w (fun _ b => b < w.heap.size) u s) : Cells w [u] [s] := ⟨rfl, fun j s' hj => by
  cases j with
  | zero => simp at hj; subst hj; exact ⟨u, rfl, h⟩
  | succ j => simp at hj⟩

theorem spot_none {a : Addr} {v : Value} (h : w.cell? a = some v) : a.spot = none ∧ a.block < w.heap.size := by
  unfold World.cell? at h
  split at h
  · rename_i c e f hb
    split at h
    · cases h
    · rename_i hs
      exact ⟨by simpa using hs, (Array.getElem?_eq_some_iff.1 hb).1⟩
  · cases h

theorem Shps.fits_le : ∀ (sh : Shps) {fields : List Field} {off N : Nat}, sh.fits P fields off N = true → off ≤ N
  | .nil, [], off, N, h => by simp [Shps.fits] at h; omega
  | .nil, _ :: _, off, N, h => by simp [Shps.fits] at h
  | .cons z s r, [], off, N, h => by simp [Shps.fits] at h
  | .cons z s r, f :: fs, off, N, h => by
    simp only [Shps.fits, Bool.and_eq_true] at h
    have := Shps.fits_le r h.2
    omega

theorem weightsAll_mem {e : Nat} {d : DataW H} : ∀ {l : List (DataW H)}, d ∈ l → ∀ {n : Nat}, n ∈ d.weights P e → n ∈ DataW.weightsAll P e l
  | d' :: l, hd, n, hn => by
    simp only [DataW.weightsAll, List.mem_append]
    rcases List.mem_cons.1 hd with rfl | hd
    · exact Or.inl hn
    · exact Or.inr (weightsAll_mem hd hn)

mutual
theorem Shp.sound (enc : TypeId × Value → H) {spare : Nat → Bool} : ∀ (sh : Shp) {t fuel : Nat} {cs : List Value} {x : DataW H × List MemPlace}, sh.fits P t = true → (∀ n ∈ x.1.weights P t, n ≤ reachBytes) → DataW.trod enc P w 0 spare true fuel t cs = some x → sh.ok x.1 ∧ Cells w cs (sh.cells x.1)
  | .int k, t, fuel, cs, x, hf, hwt, h => by
    simp only [Shp.fits] at hf
    split at hf
    · rename_i k' hu
      have : k = k' := by simpa using hf
      subst this
      obtain ⟨n, rfl, rfl, hw⟩ := DataW.trod_int hu h
      exact ⟨⟨n, rfl, hw⟩, Cells.one (.int _ _)⟩
    · cases hf
  | .bool, t, fuel, cs, x, hf, hwt, h => by
    simp only [Shp.fits] at hf
    split at hf
    · rename_i hu
      obtain ⟨b, rfl, rfl⟩ := DataW.trod_bool hu h
      exact ⟨⟨b, rfl⟩, Cells.one (.bool _)⟩
    · cases hf
  | .str, t, fuel, cs, x, hf, hwt, h => by
    simp only [Shp.fits] at hf
    split at hf
    · rename_i hu
      obtain ⟨s, rfl, rfl, hs⟩ := DataW.trod_string hu h
      exact ⟨⟨_, rfl, by have := hwt s.data.toList.length (by simp [DataW.weights]); simp only [reachBytes] at this; simpa using this⟩, Cells.one (by simpa [Shp.cells] using R0.str s)⟩
    · cases hf
  | .slice e s, t, fuel, cs, x, hf, hwt, h => by
    simp only [Shp.fits] at hf
    split at hf
    · rename_i el hu
      simp only [Bool.and_eq_true, beq_iff_eq, bne_iff_ne] at hf
      obtain ⟨⟨⟨he, e0⟩, eb⟩, hs⟩ := hf
      rcases Deep.open_slice hu h with ⟨rfl, rfl⟩ | ⟨a, len, cap, m, n, D, Pl, rfl, hb, hl, hm, hmm, rfl, hx⟩
      · exact ⟨Or.inl rfl, Cells.one (.nilsl _ _)⟩
      · have hle : len ≤ m := by rw [hmm]; split <;> omega
        have hlb : len ≤ 140737488351232 := by
          have := hwt ((((List.range len).map D).length + ((List.range (m - len)).map fun j => D (len + j)).length) * P.bytesOf el) (by simp [DataW.weights, hu])
          simp only [List.length_map, List.length_range, reachBytes] at this
          have h2 : len * 1 ≤ (len + (m - len)) * P.bytesOf el := Nat.mul_le_mul (by omega) (by omega)
          omega
        have hww : ∀ i, i < len → ∀ n ∈ (D i).weights P el, n ≤ reachBytes := fun i hi n hn => hwt n (by
          simp only [DataW.weights, hu, List.mem_cons, List.mem_append]
          exact Or.inr (Or.inl (weightsAll_mem (List.mem_map.2 ⟨i, List.mem_range.2 hi, rfl⟩) hn)))
        have hel : ∀ i, i < len → ∃ cs', w.cells? 0 (a.add (i * P.cellsOf el)) (P.cellsOf el) = some cs' ∧ s.ok (D i) ∧ Cells w cs' (s.cells (D i)) := fun i hi => by
          obtain ⟨cs', g1, g2⟩ := hx i (by omega)
          exact ⟨cs', g1, Shp.sound enc s hs (hww i hi) g2⟩
        have hlen : ∀ i, i < len → (s.cells (D i)).length = e := fun i hi => by
          obtain ⟨cs', g1, g2, g3⟩ := hel i hi
          rw [← g3.1, (World.cells?_some g1).2.1, he]
        refine ⟨Or.inr ⟨_, _, rfl, by simpa using hlb, ?_⟩, ?_⟩
        · intro y hy
          obtain ⟨i, hi, rfl⟩ := List.mem_map.1 hy
          have hi' := List.mem_range.1 hi
          obtain ⟨cs', g1, g2, g3⟩ := hel i hi'
          exact ⟨g2, hlen i hi'⟩
        · refine Cells.one ?_
          by_cases h0 : len = 0
          · subst h0
            exact .emp true e a cap
          · · have hcell : ∀ i, i < len → ∀ j, j < e → ∃ u, w.cell? (a.add (i * e + j)) = some u ∧ ∀ s', (s.cells (D i))[j]? = some s' → R0 w (fun _ b => b < w.heap.size) u s' := fun i hi j hj => by
                obtain ⟨cs', g1, g2, g3, g4⟩ := hel i hi
                obtain ⟨k1, k2, k3⟩ := World.cells?_some g1
                have k4 := k3 j (by rw [he]; exact hj)
                rw [he, Deep.add_add, List.getElem?_eq_getElem (by rw [g3, hlen i hi]; exact hj)] at k4
                exact ⟨_, k4, fun s' hs' => by
                  obtain ⟨u, hu1, hu2⟩ := g4 j s' hs'
                  rw [List.getElem?_eq_getElem (by rw [g3, hlen i hi]; exact hj)] at hu1
                  cases hu1; exact hu2⟩
              obtain ⟨u0, hu0, _⟩ := hcell 0 (by omega) 0 (by omega)
              rw [Nat.zero_mul, Nat.zero_add, show a.add 0 = a from rfl] at hu0
              obtain ⟨hsp, hblk⟩ := spot_none hu0
              obtain ⟨b, off, sp⟩ := a
              simp only at hsp
              subst hsp
              have key := R0.sl (w := w) (ok := fun _ b => b < w.heap.size) true e ((List.range len).map fun i => s.cells (D i)) b off cap (fun i j => (w.cell? ⟨b, off + (i * e + j), none⟩).getD undef) (by simp; exact hl) (by simp; omega) (fun _ => hblk)
                (fun i row hr => by
                  simp only [List.getElem?_map, Option.map_eq_some_iff] at hr
                  obtain ⟨i', hi', rfl⟩ := hr
                  obtain ⟨hlt, hi'⟩ := List.getElem?_eq_some_iff.1 hi'
                  simp at hi' hlt
                  subst hi'
                  exact hlen i hlt)
                (fun i row hr j s' hj => by
                  simp only [List.getElem?_map, Option.map_eq_some_iff] at hr
                  obtain ⟨i', hi', rfl⟩ := hr
                  obtain ⟨hlt, hi'⟩ := List.getElem?_eq_some_iff.1 hi'
                  simp at hi' hlt
                  subst hi'
                  have hje := (List.getElem?_eq_some_iff.1 hj).1
                  rw [hlen i hlt] at hje
                  obtain ⟨u, hu, _⟩ := hcell i hlt j hje
                  rw [add_none] at hu
                  rw [hu]; rfl)
                (fun i row hr j s' hj => by
                  simp only [List.getElem?_map, Option.map_eq_some_iff] at hr
                  obtain ⟨i', hi', rfl⟩ := hr
                  obtain ⟨hlt, hi'⟩ := List.getElem?_eq_some_iff.1 hi'
                  simp at hi' hlt
                  subst hi'
                  have hje := (List.getElem?_eq_some_iff.1 hj).1
                  rw [hlen i hlt] at hje
                  obtain ⟨u, hu, hu2⟩ := hcell i hlt j hje
                  rw [add_none] at hu
                  rw [hu]; exact hu2 s' hj)
              simp only [List.length_map, List.length_range] at key
              show R0 w _ _ (S1.sl true e (((List.range len).map D).map fun x => s.cells x))
              rw [List.map_map]
              exact key
    · cases hf
  | .agg fs, t, fuel, cs, x, hf, hwt, h => by
    simp only [Shp.fits] at hf
    split at hf
    · rename_i fields hu
      obtain ⟨xs, n, rfl, rfl, hl, hxl, hx⟩ := DataW.trod_struct hu h
      obtain ⟨g1, g2⟩ := Shps.sound enc fs (off := 0) (xs := xs) (cs := cs) hf (by rw [hxl]; simp) hl (fun n hn => hwt n (by simpa [DataW.weights, hu] using hn)) (fun i f hi => by have := hx i f (by simpa using hi); simpa using this)
      exact ⟨⟨_, rfl, g1⟩, by rw [List.drop_zero] at g2; exact g2⟩
    · cases hf
theorem Shps.sound (enc : TypeId × Value → H) {spare : Nat → Bool} : ∀ (sh : Shps) {fields : List Field} {off N n : Nat} {cs : List Value} {xs : List (DataW H × List MemPlace)}, sh.fits P fields off N = true → xs.length = fields.length → cs.length = N → (∀ n ∈ DataW.weightsEach P (fields.map (·.type)) (xs.map (·.1)), n ≤ reachBytes) →
    (∀ (i : Nat) (f : Field), fields[i]? = some f → DataW.trod enc P w 0 spare true n f.type ((cs.drop f.offset).take (P.cellsOf f.type)) = xs[i]?) → sh.ok (xs.map (·.1)) ∧ Cells w (cs.drop off) (sh.cells (xs.map (·.1)))
  | .nil, fields, off, N, n, cs, xs, hf, hxl, hl, _, hx => by
    cases fields with
    | nil =>
      simp only [Shps.fits, beq_iff_eq] at hf
      have : xs = [] := List.length_eq_zero_iff.1 hxl
      subst this
      refine ⟨rfl, ?_, fun j s hj => by simp [Shps.cells] at hj⟩
      simp [Shps.cells]; omega
    | cons f fs => simp [Shps.fits] at hf
  | .cons z s r, fields, off, N, n, cs, xs, hf, hxl, hl, hwt, hx => by
    cases fields with
    | nil => simp [Shps.fits] at hf
    | cons f fs =>
      simp only [Shps.fits, Bool.and_eq_true, beq_iff_eq] at hf
      obtain ⟨⟨⟨h1, h2⟩, h3⟩, h4⟩ := hf
      cases xs with
      | nil => simp at hxl
      | cons x xs =>
        have g0 := hx 0 f rfl
        simp only [List.getElem?_cons_zero] at g0
        simp only [List.map_cons, DataW.weightsEach, List.mem_append] at hwt
        obtain ⟨k1, k2⟩ := Shp.sound enc s h3 (fun n hn => hwt n (Or.inl hn)) g0
        obtain ⟨k3, k4⟩ := Shps.sound enc r (off := off + z) (xs := xs) h4 (by simpa using hxl) hl (fun n hn => hwt n (Or.inr hn)) (fun i f' hi => by have := hx (i + 1) f' (by simpa using hi); simpa using this)
        have hle := Shps.fits_le r h4
        have hz : ((cs.drop f.offset).take (P.cellsOf f.type)).length = z := by rw [List.length_take, List.length_drop, h1, h2]; omega
        have hk : (s.cells x.1).length = z := by rw [← k2.1, hz]
        rw [h1, h2] at k2 hz
        refine ⟨⟨_, _, rfl, ⟨k1, hk⟩, k3⟩, ?_, ?_⟩
        · show (cs.drop off).length = (s.cells x.1 ++ r.cells (xs.map (·.1))).length
          rw [List.length_append, hk, ← k4.1, List.length_drop, List.length_drop]; omega
        · intro j s' hj
          have hj : (s.cells x.1 ++ r.cells (xs.map (·.1)))[j]? = some s' := hj
          by_cases hjz : j < z
          · rw [List.getElem?_append_left (by omega)] at hj
            obtain ⟨u, hu, hr⟩ := k2.2 j s' hj
            rw [List.getElem?_take, if_pos hjz] at hu
            exact ⟨u, hu, hr⟩
          · rw [List.getElem?_append_right (by omega), hk] at hj
            obtain ⟨u, hu, hr⟩ := k4.2 (j - z) s' hj
            rw [List.getElem?_drop] at hu ⊢
            rw [show off + z + (j - z) = off + j by omega] at hu
            exact ⟨u, hu, hr⟩
end
end
end Go.Proofs.YtglhjjokijdagaaGreat.Sh

/- A law's row, out of its contract over data. -/
namespace Go.Proofs.YtglhjjokijdagaaGreat.Sh
open Go Go.RowKit Go.ChangeShapes Go.WideShapes

def Shp.sv {H : Type} (sh : Shp) (d : DataW H) : SV := match sh with
  | .agg fs => .agg ((Shp.agg fs).cells d)
  | sh => .one ((sh.cells d).headD .any)

def Shp.fitsAll (P : Program) : List Shp → List Nat → Bool
  | [], [] => true
  | s :: ss, t :: ts => s.fits P t && Shp.fitsAll P ss ts
  | _, _ => false

def Shp.okAll {H : Type} : List Shp → List (DataW H) → Prop
  | [], [] => True
  | s :: ss, d :: ds => s.ok d ∧ Shp.okAll ss ds
  | _, _ => False

def Shp.svAll {H : Type} : List Shp → List (DataW H) → List SV
  | s :: ss, d :: ds => s.sv d :: Shp.svAll ss ds
  | _, _ => []

section
variable {H : Type} {enc : TypeId × Value → H} {P : Program} {w : World}

theorem Shp.sound1 {spare : Nat → Bool} {sh : Shp} {t : Nat} {v : Value} {d : DataW H} {p : List MemPlace} {b0 : Nat} (hf : sh.fits P t = true) (hv : Value.okWide P w .any b0 t v) (hwt : ∀ n ∈ d.weights P t, n ≤ reachBytes) (h : DataW.Trod enc P w 0 spare true t v d p) :
    sh.ok d ∧ RV w mu0 (fun _ b => b < w.heap.size) v (sh.sv d) := by
  obtain ⟨fuel, h⟩ := h
  obtain ⟨h1, h2⟩ := Shp.sound enc sh hf hwt h
  refine ⟨h1, ?_⟩
  have one : ∀ (s : S1) (l : List S1), sh.cells d = s :: l → v.cells = #[v] → RV w mu0 (fun _ b => b < w.heap.size) v (.one ((sh.cells d).headD .any)) := by
    intro s l e ev
    obtain ⟨u, hu, hr⟩ := h2.2 0 s (by rw [e]; rfl)
    rw [ev] at hu
    simp at hu
    subst hu
    rw [e]
    exact .c hr
  cases sh with
  | int k =>
    simp only [Shp.fits] at hf
    split at hf
    · rename_i k' hu
      obtain ⟨n, rfl, hw⟩ := h1
      obtain ⟨m, rfl⟩ := okWide_int hu hv
      exact one _ _ rfl rfl
    · cases hf
  | bool =>
    simp only [Shp.fits] at hf
    split at hf
    · rename_i hu
      obtain ⟨b, rfl⟩ := h1
      obtain ⟨m, rfl⟩ := okWide_bool hu hv
      exact one _ _ rfl rfl
    · cases hf
  | str =>
    simp only [Shp.fits] at hf
    split at hf
    · rename_i hu
      obtain ⟨b, rfl, hb⟩ := h1
      obtain ⟨m, rfl⟩ := okWide_string hu hv
      exact one _ _ rfl rfl
    · cases hf
  | slice e s =>
    simp only [Shp.fits] at hf
    split at hf
    · rename_i el hu
      obtain ⟨a, len, cap, rfl⟩ := okWide_slice hu hv
      rcases h1 with rfl | ⟨elems, sp, rfl, _⟩
      · exact one _ _ rfl rfl
      · exact one _ _ rfl rfl
    · cases hf
  | agg fs =>
    simp only [Shp.fits] at hf
    split at hf
    · rename_i fields hu
      obtain ⟨arr, rfl, _⟩ := okWide_struct hu hv
      refine ⟨arr, rfl, by simpa [Value.cells] using h2.1, fun j s hj => ?_⟩
      obtain ⟨u, hu, hr⟩ := h2.2 j s hj
      exact ⟨u, by simpa [Value.cells] using hu, .c hr⟩
    · cases hf

theorem Shp.soundAll {spare : Nat → Bool} {b0 : Nat} : ∀ {shs : List Shp} {ts : List Nat} {vs : List Value} {ds : List (DataW H)} {p : List MemPlace}, Shp.fitsAll P shs ts = true → (∀ n ∈ DataW.weightsEach P ts ds, n ≤ reachBytes) → DataW.TrodAll enc P w 0 spare true ts vs ds p →
    (∀ (j : Nat) t v, ts[j]? = some t → vs[j]? = some v → Value.okWide P w .any b0 t v) →
    Shp.okAll shs ds ∧ vs.length = (Shp.svAll shs ds).length ∧ ds.length = ts.length ∧ ∀ (i : Nat) (x : SV), (Shp.svAll shs ds)[i]? = some x → ∃ v, vs[i]? = some v ∧ RV w mu0 (fun _ b => b < w.heap.size) v x
  | [], [], vs, ds, p, _, _, h, _ => by
    obtain ⟨rfl, rfl, rfl⟩ := trodAll_nil h
    exact ⟨trivial, rfl, rfl, fun i x hi => by simp [Shp.svAll] at hi⟩
  | [], _ :: _, _, _, _, h, _, _, _ => by simp [Shp.fitsAll] at h
  | _ :: _, [], _, _, _, h, _, _, _ => by simp [Shp.fitsAll] at h
  | s :: shs, t :: ts, vs, ds, p, hf, hwt, h, hv => by
    simp only [Shp.fitsAll, Bool.and_eq_true] at hf
    obtain ⟨v, vs', d, ds', p', q, rfl, rfl, rfl, h1, h2⟩ := trodAll_cons h
    simp only [DataW.weightsEach, List.mem_append] at hwt
    obtain ⟨g1, g2⟩ := Shp.sound1 hf.1 (hv 0 t v rfl rfl) (fun n hn => hwt n (Or.inl hn)) h1
    obtain ⟨k1, k2, k3, k4⟩ := Shp.soundAll hf.2 (fun n hn => hwt n (Or.inr hn)) h2 (fun j t v h1 h2 => hv (j + 1) t v (by simpa using h1) (by simpa using h2))
    refine ⟨⟨g1, k1⟩, by simp [Shp.svAll, k2], by simp [k3], fun i x hi => ?_⟩
    cases i with
    | zero => simp [Shp.svAll] at hi; subst hi; exact ⟨v, rfl, g2⟩
    | succ i => simp [Shp.svAll] at hi; obtain ⟨v', h1, h2⟩ := k4 i x hi; exact ⟨v', by simpa using h1, h2⟩

theorem weightsEach_mem : ∀ {ts ts' : List Nat} {ds ds' : List (DataW H)} {n : Nat}, n ∈ DataW.weightsEach P ts ds → n ∈ DataW.weightsEach P (ts ++ ts') (ds ++ ds')
  | [], _, ds, _, n, h => by simp [DataW.weightsEach] at h
  | _ :: _, _, [], _, n, h => by simp [DataW.weightsEach] at h
  | t :: ts, ts', d :: ds, ds', n, h => by
    simp only [DataW.weightsEach, List.mem_append, List.cons_append] at h ⊢
    rcases h with h | h
    · exact Or.inl h
    · exact Or.inr (weightsEach_mem h)

theorem trodAll_stays (hl : laidOutB P = true) {w' : World} (hb : Below w.heap.size w w') : ∀ {ts : List Nat} {vs : List Value} {ds : List (DataW H)} {p : List MemPlace}, (ts.all fun t => P.readableRec t && decide (t < P.types.size)) = true → DataW.TrodAll enc P w 0 (fun _ => true) true ts vs ds p →
    DataW.TrodAll enc P w' 0 (fun b => decide (b < w.heap.size)) true ts vs ds p
  | [], vs, ds, p, _, h => by
    obtain ⟨rfl, rfl, rfl⟩ := trodAll_nil h
    exact trodAll_mk0
  | t :: ts, vs, ds, p, hr, h => by
    simp only [List.all_cons, Bool.and_eq_true] at hr
    obtain ⟨v, vs', d, ds', p', q, rfl, rfl, rfl, h1, h2⟩ := trodAll_cons h
    have hlt : ∀ x ∈ p', x.block < w.heap.size := by obtain ⟨m, hm⟩ := h1; exact DataW.trod_lt m _ _ _ hm
    exact trodAll_cons_mk (Below.trod hl hr.1.1 (of_decide_eq_true hr.1.2) h1 hb hlt) (trodAll_stays hl hb hr.2 h2)

/-- What a law's contract over data says of its row. -/
theorem law_post {f : Nat} {fn : Func} {s : ChangeSpec} {shs : List Shp} {tb : Nat} (hl : laidOutB P = true) (hr : (fn.params.toList.all fun t => P.readableRec t && decide (t < P.types.size)) = true) (hf : Shp.fitsAll P shs fn.params.toList = true)
    (hres : fn.resultTypes = #[tb]) (hb : P.underlying tb = some .bool) (hv : s.vars = []) (hs : ∀ ds : List (DataW H), ds.length = fn.params.toList.length → s.fn H ds = { results := [.lit (.bool true)], args := ds })
    (hcall : ∀ ds : List (DataW H), Shp.okAll shs ds → CallsS P f (Shp.svAll shs ds) (B true)) {base : Nat} {args : Array Value} {ds gs : List (DataW H)} {before : List MemPlace}
    (hval : ∀ (j : Nat) t v, fn.params[j]? = some t → args[j]? = some v → Value.okWide P w .any base t v) (hW : DataW.Whole enc P fn.params.toList s.vars false w args.toList ds gs before)
    (hsz : (DataW.weightsEach P (fn.params.toList ++ s.plain.varTypes P) (ds ++ gs)).all (· ≤ reachBytes) = true) :
    Calls P f args w fun e w' => ∃ v, e = .returned v ∧ s.post enc P fn false true false false w args v w' := by
  have hW' := hW
  obtain ⟨p, q, hA, hV, rfl, hfz, hnd⟩ := hW
  rw [hv] at hV
  obtain ⟨rfl, rfl⟩ := trodVars_none hV
  have hwt : ∀ n ∈ DataW.weightsEach P fn.params.toList ds, n ≤ reachBytes := fun n hn => by
    have := List.all_eq_true.1 hsz n (weightsEach_mem hn)
    simpa using this
  obtain ⟨k1, k2, k3, k4⟩ := Shp.soundAll hf hwt hA (fun j t v h1 h2 => hval j t v (by simpa using h1) (by simpa using h2))
  refine ((hcall ds k1).2 w args (fun _ b => b < w.heap.size) (fun _ _ h => h) (by simpa using k2) (fun i x hi => ?_)).mono fun e w' ⟨v, he, hr', bel⟩ => ?_
  · obtain ⟨v, hv, hr⟩ := k4 i x hi
    have : args.getD i undef = v := by
      have hv : args[i]? = some v := by simpa using hv
      simp [Array.getD_eq_getD_getElem?, hv]
    rw [this]; exact hr
  · have hvv : v = .bool true := by
      have := R1.c0 (show R1 _ _ _ _ (S1.bool true) from hr') rfl
      cases this; rfl
    subst hvv
    have hres2 : fn.resultTypes.toList = [tb] := by rw [hres]
    have hsz : fn.resultTypes.size = 1 := by rw [hres]; rfl
    refine ⟨_, he, ds, [], p ++ [], [], p, [], hW', ?_, ?_, ?_, ?_, fun h => by cases h⟩
    · rw [List.append_nil, hs ds (by rw [k3]), hres2, hsz]
      exact trodAll_mk1 (shut_bool hb true)
    · rw [List.append_nil, hs ds (by rw [k3])]
      exact trodAll_stays hl bel hr hA
    · rw [List.append_nil, hs ds (by rw [k3]), hv]
      rfl
    · exact bel.frame _
end
end Go.Proofs.YtglhjjokijdagaaGreat.Sh

/- Data of simple forms. -/
namespace Go.Proofs.YtglhjjokijdagaaGreat.Sh
open Go Go.RowKit

theorem wf_i64 {n : Int} (h : (Lit.int .i64 n).wf = true) : -9223372036854775808 ≤ n ∧ n < 9223372036854775808 := by
  simp [Lit.wf, IntKind.min, IntKind.max, IntKind.signed, IntKind.bits] at h; omega
theorem wf_u32 {n : Int} (h : (Lit.int .u32 n).wf = true) : 0 ≤ n ∧ n < 4294967296 := by
  simp [Lit.wf, IntKind.min, IntKind.max, IntKind.signed, IntKind.bits] at h; omega

section
variable {H : Type}

theorem okAll_cons {s : Shp} {ss : List Shp} {ds : List (DataW H)} (h : Shp.okAll (s :: ss) ds) : ∃ d ds', ds = d :: ds' ∧ s.ok d ∧ Shp.okAll ss ds' := by
  cases ds with
  | nil => exact h.elim
  | cons d ds => exact ⟨d, ds, rfl, h.1, h.2⟩
theorem okAll_nil {ds : List (DataW H)} (h : Shp.okAll [] ds) : ds = [] := by
  cases ds with
  | nil => rfl
  | cons d ds => exact h.elim
theorem svAll_cons (s : Shp) (ss : List Shp) (d : DataW H) (ds : List (DataW H)) : Shp.svAll (s :: ss) (d :: ds) = s.sv d :: Shp.svAll ss ds := rfl
theorem svAll_nil : Shp.svAll [] ([] : List (DataW H)) = [] := rfl
theorem sv_slice (e : Nat) (s : Shp) (d : DataW H) : (Shp.slice e s).sv d = .one (((Shp.slice e s).cells d).headD .any) := rfl
theorem sv_int (k : IntKind) (d : DataW H) : (Shp.int k).sv d = .one (((Shp.int k).cells d).headD .any) := rfl
theorem sv_bool (d : DataW H) : Shp.bool.sv d = .one ((Shp.bool.cells d).headD .any) := rfl
theorem sv_agg (fs : Shps) (d : DataW H) : (Shp.agg fs).sv d = .agg ((Shp.agg fs).cells d) := rfl

/-- A list of data, each of which has a meaning, has a list of meanings. -/
theorem list_of {α : Type} {s : Shp} {q : α → Prop} {f : α → List S1} (h : ∀ d : DataW H, s.ok d → ∃ x, s.cells d = f x ∧ q x) : ∀ (l : List (DataW H)), (∀ d ∈ l, s.ok d) → ∃ xs : List α, l.map (fun d => s.cells d) = xs.map f ∧ xs.length = l.length ∧ ∀ x ∈ xs, q x
  | [], _ => ⟨[], rfl, rfl, fun x hx => by cases hx⟩
  | d :: l, hd => by
    obtain ⟨x, h1, h2⟩ := h d (hd d (List.mem_cons_self ..))
    obtain ⟨xs, g1, g2, g3⟩ := list_of h l (fun d' hd' => hd d' (List.mem_cons_of_mem _ hd'))
    refine ⟨x :: xs, by simp [h1, g1], by simp [g2], fun y hy => ?_⟩
    rcases List.mem_cons.1 hy with rfl | hy
    · exact h2
    · exact g3 y hy

theorem slice_of_ok {α : Type} {e : Nat} {s : Shp} {q : α → Prop} {f : α → List S1} (h : ∀ d : DataW H, s.ok d → ∃ x, s.cells d = f x ∧ q x) {d : DataW H} (hd : (Shp.slice e s).ok d) : ∃ xs : List α, (Shp.slice e s).cells d = [.sl true e (xs.map f)] ∧ xs.length ≤ 140737488351232 ∧ ∀ x ∈ xs, q x := by
  rcases hd with rfl | ⟨elems, spare, rfl, h1, h2⟩
  · exact ⟨[], rfl, Nat.zero_le _, fun x hx => by cases hx⟩
  · obtain ⟨xs, g1, g2, g3⟩ := list_of h elems (fun d hd => (h2 d hd).1)
    exact ⟨xs, by simp only [Shp.cells, g1], by omega, g3⟩

theorem int_of_ok {k : IntKind} {d : DataW H} (hd : (Shp.int k).ok d) : ∃ n, (Shp.int k).cells d = [.int k n] ∧ (Lit.int k n).wf = true := by
  obtain ⟨n, rfl, hw⟩ := hd
  exact ⟨n, rfl, hw⟩
theorem bool_of_ok {d : DataW H} (hd : Shp.bool.ok d) : ∃ b, Shp.bool.cells d = [.bool b] := by
  obtain ⟨b, rfl⟩ := hd
  exact ⟨b, rfl⟩
theorem ints_of_ok {k : IntKind} {d : DataW H} (hd : (Shp.slice 1 (.int k)).ok d) : ∃ l : List Int, (Shp.slice 1 (.int k)).cells d = [.sl true 1 (l.map fun x => [.int k x])] ∧ l.length ≤ 140737488351232 ∧ ∀ x ∈ l, (Lit.int k x).wf = true :=
  slice_of_ok (f := fun x => [.int k x]) (fun _ h => int_of_ok h) hd
end
end Go.Proofs.YtglhjjokijdagaaGreat.Sh

