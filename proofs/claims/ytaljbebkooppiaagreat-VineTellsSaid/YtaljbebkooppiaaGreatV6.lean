/- A part of the proof: Sh16, Sh17, Sh18, Sh19 -/
import Derived.Test.YtaljbebkooppiaaGreatV5
set_option linter.unusedSimpArgs false
set_option linter.unusedVariables false
set_option linter.unusedSectionVars false
namespace Go.Proofs.YtaljbebkooppiaaGreat.Sh
open Go Go.RowKit
section
variable {N : Nat} {σ σ' : SS} {P : Program} {ops : Array Oper}
def SS.wf (σ : SS) : Prop := ∀ i, σ.n ≤ i → σ.objs i = none
theorem wf_app (h : σ.wf) {c : Nat} (d : Option Nat) {δ : Dl} (_hf : δ.fits c) (hs : ∀ i ob r, δ = .set i ob r → σ.objs i ≠ none) : (σ.app d δ).wf := by
  have put : ∀ (σ : SS) (r : ST), σ.wf → (σ.put d r).wf := fun σ r h => by cases d <;> exact h
  cases δ with
  | pure r => exact put _ _ h
  | set i ob r =>
    refine put _ _ fun k hk => ?_
    have hi := hs i ob r rfl
    show (if k = i then some ob else σ.objs k) = none
    rw [if_neg]
    · exact h k hk
    · intro e; subst e; exact hi (h k hk)
  | new ob bo x =>
    refine put _ _ fun k hk => ?_
    have hn : (σ.kill bo).n = σ.n := by cases bo <;> rfl
    have hk' : σ.n + 1 ≤ k := by have : (σ.kill bo).n + 1 ≤ k := hk; omega
    show (if k = (σ.kill bo).n then some ob else (σ.kill bo).objs k) = none
    rw [if_neg (by omega)]
    have := h k (by omega)
    cases bo with
    | none => exact this
    | some o => show (if k = o then none else σ.objs k) = none; split <;> simp_all
theorem DoesG.set_some {o : Oper} {δ : Dl} (h : DoesG P ops σ o δ) : ∀ i ob r, δ = .set i ob r → σ.objs i ≠ none := by
  have one : DoesN P σ o δ → ∀ i ob r, δ = .set i ob r → σ.objs i ≠ none := by
    rintro h i ob r rfl
    rcases h with ⟨_, h⟩ | ⟨_, r, h, _⟩
    case inr => cases h
    rcases h.2 with ⟨h1, _⟩ | ⟨n, h1, _⟩
    · unfold dStore at h1
      split at h1
      · obtain ⟨τ, off, ob0, z, _, _, h3, _⟩ := h1; simp [h3]
      · exact h1.elim
    · unfold dCopy at h1
      split at h1
      · obtain ⟨g0, d, y, t, t2, τ, te, z, off, len, full, ob0, m, e, news, g1, g2, g3, g4, g5, g6, g7, g8, g9⟩ := h1; simp [g7]
      · exact h1.elim
  unfold DoesG at h
  split at h
  · exact one h
  · obtain ⟨d, _, ⟨_, h⟩ | ⟨_, rfl⟩⟩ := h
    · exact one h
    · intro i ob r h; cases h
theorem app_t (d : Option Nat) (δ : Dl) (t : Nat) (h : d ≠ some t) : (σ.app d δ).t t = σ.t t := by
  have put : ∀ (σ : SS) (r : ST), (σ.put d r).t t = σ.t t := fun σ r => by
    cases d with
    | none => rfl
    | some d => exact if_neg (fun e => h (by rw [e]))
  cases δ with
  | pure r => exact put _ _
  | set i ob r => exact put _ _
  | new ob bo x => rw [SS.app, put]; cases bo <;> rfl
theorem app_ev (d : Option Nat) (δ : Dl) (x : Operand) (h : ∀ t, d = some t → x ≠ .tmp t) : (σ.app d δ).ev x = σ.ev x := by
  cases x with
  | tmp t => exact app_t d δ t (fun e => h t e rfl)
  | _ => rfl
theorem put_objs' (d : Option Nat) (r : ST) : (σ.put d r).objs = σ.objs := by cases d <;> rfl
theorem put_n' (d : Option Nat) (r : ST) : (σ.put d r).n = σ.n := by cases d <;> rfl
theorem put_put (d d' : Option Nat) (r r' : ST) (h : ∀ t, d = some t → d' ≠ some t) : (σ.put d r).put d' r' = (σ.put d' r').put d r := by
  cases d with
  | none => rfl
  | some d =>
    cases d' with
    | none => rfl
    | some d' =>
      have hne : d ≠ d' := fun e => h d rfl (by rw [e])
      simp only [SS.put]
      congr 1
      funext i
      by_cases e : i = d
      · subst e; simp [hne]
      · simp [e]
theorem pure_comm (d d' : Option Nat) (r : ST) (δ : Dl) (h : ∀ t, d = some t → d' ≠ some t) : (σ.put d r).app d' δ = (σ.app d' δ).put d r := by
  cases δ with
  | pure r' => exact put_put d d' r r' h
  | set i ob r' =>
    have : (σ.put d r).setObj i ob = (σ.setObj i ob).put d r := by cases d <;> rfl
    rw [SS.app, this]; exact put_put d d' r r' h
  | new ob bo x =>
    have : ((σ.put d r).kill bo).new ob = ((σ.kill bo).new ob).put d r := by cases d <;> cases bo <;> rfl
    rw [SS.app, this]; exact put_put d d' r _ h
def memOK (ci cj : Nat) : Bool := ci == 0 || cj == 0 || (ci == 1 && decide (cj ≤ 2))
theorem fits_pure {δ : Dl} {c : Nat} (h : δ.fits c) (hc : c ≤ 1) : ∃ r, δ = .pure r := by
  cases δ with
  | pure r => exact ⟨r, rfl⟩
  | set i ob r => simp [Dl.fits] at h; omega
  | new ob bo x => simp [Dl.fits] at h; omega
theorem guard_looks {o : Oper} {j d : Nat} {want : Bool} (hg : o.guard = some (j, want)) (hd : (ops[j]?).bind (·.dst) = some d) : d ∈ o.looksAt ops := by
  simp [Oper.looksAt, hg, hd]
theorem operand_looks {o : Oper} {t : Nat} (h : .tmp t ∈ o.op.operands) : t ∈ o.looksAt ops := by
  unfold Oper.looksAt
  exact List.mem_append_left _ (List.mem_filterMap.2 ⟨.tmp t, by simpa using h, rfl⟩)
theorem swap {oi oj : Oper} {δi δj : Dl} (hap : oi.apart ops oj = true) (hm : memOK (dcls oi) (dcls oj) = true) (hw : σ.wf) (hi : DoesG P ops σ oi δi) (hj : DoesG P ops (σ.app oi.dst δi) oj δj) :
    DoesG P ops σ oj δj ∧ DoesG P ops (σ.app oj.dst δj) oi δi ∧ (σ.app oi.dst δi).app oj.dst δj = (σ.app oj.dst δj).app oi.dst δi := by
  obtain ⟨h1, h2, h3⟩ := Oper.apart_spec hap
  have fi := hi.fits
  have fj := hj.fits
  simp only [memOK, Bool.or_eq_true, beq_iff_eq, Bool.and_eq_true, decide_eq_true_eq] at hm
  have pi : dcls oi ≤ 1 ∨ ∃ r, δj = .pure r := by
    rcases hm with (h | h) | h
    · exact Or.inl (by omega)
    · exact Or.inr (fits_pure fj (by omega))
    · exact Or.inl (by omega)
  have A : DoesG P ops σ oj δj := by
    refine hj.same ⟨fun x hx => ?_, fun hc k ob hk => ?_, fun hc => ?_, fun hc => ?_⟩ (fun j want d hg hd => ?_)
    · exact (app_ev oi.dst δi x (fun t ht e => h1 t ht (by subst e; exact operand_looks hx))).symm
    · obtain ⟨r, rfl⟩ := fits_pure fi (by omega)
      rw [SS.app, put_objs'] at hk; exact hk
    · obtain ⟨r, rfl⟩ := fits_pure fi (by omega)
      rw [SS.app, put_objs']
    · obtain ⟨r, rfl⟩ := fits_pure fi (by omega)
      rw [SS.app, put_n']
    · exact (app_t oi.dst δi d (fun e => h1 d e (guard_looks hg hd))).symm
  refine ⟨A, ?_, ?_⟩
  · refine hi.same ⟨fun x hx => ?_, fun hc k ob hk => ?_, fun hc => ?_, fun hc => ?_⟩ (fun j want d hg hd => ?_)
    · exact app_ev oj.dst δj x (fun t ht e => h3 t ht (by subst e; exact operand_looks hx))
    · cases δj with
      | pure r => rw [SS.app, put_objs']; exact hk
      | set i ob' r => simp [Dl.fits] at fj; omega
      | new ob' bo x =>
        simp [Dl.fits] at fj
        have hb : bo = none := by rcases fj with ⟨_, h⟩ | h; exact h; omega
        subst hb
        rw [SS.app, put_objs']
        show (if k = σ.n then some ob' else σ.objs k) = some ob
        rw [if_neg]
        · exact hk
        · intro e; subst e; rw [hw _ (Nat.le_refl _)] at hk; cases hk
    · obtain ⟨r, rfl⟩ := fits_pure fj (by omega)
      rw [SS.app, put_objs']
    · obtain ⟨r, rfl⟩ := fits_pure fj (by omega)
      rw [SS.app, put_n']
    · exact app_t oj.dst δj d (fun e => h3 d e (guard_looks hg hd))
  · rcases pi with hc | ⟨r, rfl⟩
    · obtain ⟨r, rfl⟩ := fits_pure fi hc
      exact pure_comm oi.dst oj.dst r δj h2
    · exact (pure_comm oj.dst oi.dst r δi (fun t ht e => h2 t e ht)).symm
/-! ### Any order -/
def Closed (ops : Array Oper) (listed : Array Bool) : Prop := ∀ k o, ops[k]? = some o → listed.getD k false = true → ∀ e ∈ o.after, Region.binds .any e = true → listed.getD e.on false = true
def anc (ops : Array Oper) : Nat → Nat → Nat → Bool
  | 0, _, _ => false
  | f + 1, i, j => match ops[j]? with
    | some o => o.after.toList.any fun e => e.on == i && Region.binds .any e || Region.binds .any e && anc ops f i e.on
    | none => false
theorem anc_listed {listed : Array Bool} (hc : Closed ops listed) {i : Nat} : ∀ {f j : Nat}, anc ops f i j = true → listed.getD j false = true → listed.getD i false = true := by
  intro f
  induction f with
  | zero => intro j h; cases h
  | succ f ih =>
    intro j h hj
    simp only [anc] at h
    split at h
    · rename_i o ho
      obtain ⟨e, he, hb⟩ := List.any_eq_true.1 h
      simp only [Bool.and_eq_true, Bool.or_eq_true, beq_iff_eq] at hb
      have he' : e ∈ o.after := by simpa using he
      rcases hb with ⟨h1, h2⟩ | ⟨h2, h1⟩
      · rw [← h1]; exact hc j o ho hj e he' h2
      · exact ih h1 (hc j o ho hj e he' h2)
    · cases h
theorem anc_ready {listed : Array Bool} (hc : Closed ops listed) {i f j : Nat} (h : anc ops f i j = true) (hr : j ∈ Region.ready .any ops listed) : listed.getD i false = true := by
  cases f with
  | zero => cases h
  | succ f =>
    simp only [anc] at h
    obtain ⟨_, o, ho, hall⟩ := mem_ready.1 hr
    simp only [ho] at h
    obtain ⟨e, he, hb⟩ := List.any_eq_true.1 h
    simp only [Bool.and_eq_true, Bool.or_eq_true, beq_iff_eq] at hb
    have he' : e ∈ o.after := by simpa using he
    rcases hb with ⟨h1, h2⟩ | ⟨h2, h1⟩
    · rw [← h1]; exact hall e he' h2
    · exact anc_listed hc h1 (hall e he' h2)
theorem closed_set {listed : Array Bool} (hc : Closed ops listed) {i : Nat} (hi : i ∈ Region.ready .any ops listed) : Closed ops (listed.setIfInBounds i true) := by
  intro k o ho hk e he hb
  by_cases hik : i = k
  · subst hik
    obtain ⟨_, o', ho', hall⟩ := mem_ready.1 hi
    rw [ho] at ho'; cases ho'
    exact getD_set_true (hall e he hb)
  · rw [getD_set_ne false hik] at hk
    exact getD_set_true (hc k o ho hk e he hb)
def GuardYes (ops : Array Oper) (σ : SS) (o : Oper) : Prop := match o.guard with
  | none => True
  | some (j, want) => ∃ d, (ops[j]?).bind (·.dst) = some d ∧ σ.t d = B want
theorem guardYes_wanted {w0 : W0} {ok0 : Bool → Nat → Prop} {a : Act} {w : World} {o : Oper} (h : Inv w0 ok0 N σ a w) (hg : GuardYes ops σ o) : Region.wanted o (yielded ops a.tmps) = true := by
  unfold GuardYes at hg
  split at hg
  · rename_i e; simp [Region.wanted, e]
  · rename_i j want e
    obtain ⟨d, h1, h2⟩ := hg
    obtain ⟨mu, him⟩ := h.im
    have hy := guard_yes (ops := ops) him (by simpa using h1) h2
    simp [Region.wanted, e, hy]
def sAny (P : Program) (St : Prop) (ops : Array Oper) (K : SS → Prop) : Nat → Array Bool → SS → Prop
  | 0, listed, σ => Region.ready .any ops listed = [] ∧ K σ
  | f + 1, listed, σ => (Region.ready .any ops listed = [] → K σ) ∧ ∀ i ∈ Region.ready .any ops listed, ∃ o, ops[i]? = some o ∧ ((∃ δ, DoesG P ops σ o δ ∧ sAny P St ops K f (listed.setIfInBounds i true) (σ.app o.dst δ)) ∨ (isDyn o = true ∧ St ∧ GuardYes ops σ o ∧ eS P σ o fun σ' => sAny P St ops K f (listed.setIfInBounds i true) σ'))
theorem sAny_wp {St : Prop} {w0 : W0} {ok0 : Bool → Nat → Prop} {K : SS → Prop} {Q : Exit → Act → World → Prop} (hd : ∀ (i : Nat) (o : Oper) (t : Nat), ops[i]? = some o → o.dst = some t → t < N) (hnd : ∀ (i : Nat) (o : Oper), ops[i]? = some o → notDefer o = true) (hK : ∀ σ' a' w', K σ' → Inv w0 ok0 N σ' a' w' → Q .normal a' w') :
    ∀ (f : Nat) (listed : Array Bool) (σ : SS) (a : Act) (w : World), Inv w0 ok0 N σ a w → sAny P St ops K f listed σ → wpAnyIn (Fw w0.rho) 0 P .any ops Q f listed a w := by
  intro f
  induction f with
  | zero => intro listed σ a w h hs; exact ⟨hs.1, hK σ a w hs.2 h⟩
  | succ f ih =>
    intro listed σ a w h hs
    refine ⟨fun h0 => hK σ a w (hs.1 h0) h, fun i hi => ?_⟩
    obtain ⟨o, ho, ⟨δ, h1, h2⟩ | ⟨_, _, hg, hx⟩⟩ := hs.2 i hi
    · exact h1.wp ho h (fun t ht => hd i o t ho ht) (hnd i o ho) (fun a' w' h' => ih _ _ a' w' h' h2)
    · unfold wpOpIn
      simp only [ho]
      rw [if_pos (guardYes_wanted h hg)]
      exact hx w0 ok0 N a w _ _ h (fun t ht => hd i o t ho ht) (fun σ' a' w' h1 h2 => ih _ _ a' w' h2 h1)
theorem eS_mono {o : Oper} {K K' : SS → Prop} (h : eS P σ o K) (k : ∀ σ' w0 ok0 N a w, Inv w0 ok0 N σ' a w → K σ' → K' σ') : eS P σ o K' :=
  fun w0 ok0 N a w next Q hi hd hK => h w0 ok0 N a w next Q hi hd (fun σ' a' w' h1 h2 => hK σ' a' w' (k σ' _ _ _ _ _ h2 h1) h2)
theorem Inv.wf {w0 : W0} {ok0 : Bool → Nat → Prop} {a : Act} {w : World} (h : Inv w0 ok0 N σ a w) : σ.wf := fun i hn => by obtain ⟨mu, hmm⟩ := h.mem; exact (hmm.fresh i hn).1
theorem first {St : Prop} {K : SS → Prop} {i : Nat} {oi : Oper} {δi : Dl} (hi : ops[i]? = some oi) :
    ∀ (f : Nat) (listed : Array Bool) (σ : SS), σ.wf → (∀ j oj, ops[j]? = some oj → j ≠ i → listed.getD j true = false → (oi.apart ops oj = true ∧ memOK (dcls oi) (dcls oj) = true ∧ (St → isDyn oj = false)) ∨ ∃ f, anc ops f i j = true) →
      Closed ops listed → i ∈ Region.ready .any ops listed → DoesG P ops σ oi δi → sAny P St ops K f (listed.setIfInBounds i true) (σ.app oi.dst δi) → sAny P St ops K (f + 1) listed σ := by
  intro f
  induction f with
  | zero =>
    intro listed σ hw hfree hc hr hy H
    refine ⟨fun h => (by rw [h] at hr; cases hr), fun j hj => ?_⟩
    by_cases hji : j = i
    · subst hji; exact ⟨oi, hi, Or.inl ⟨δi, hy, H⟩⟩
    · have := ready_mono hj hji
      rw [H.1] at this
      cases this
  | succ f ih =>
    intro listed σ hw hfree hc hr hy H
    refine ⟨fun h => (by rw [h] at hr; cases hr), fun j hj => ?_⟩
    by_cases hji : j = i
    · subst hji; exact ⟨oi, hi, Or.inl ⟨δi, hy, H⟩⟩
    · obtain ⟨oj, hoj, hH⟩ := H.2 j (ready_mono hj hji)
      obtain ⟨hjun, _⟩ := mem_ready.1 hj
      have hun := (mem_ready.1 hr).1
      rcases hfree j oj hoj hji hjun with ⟨hap, hm, hnd⟩ | ⟨_, ha⟩
      · obtain ⟨δj, hdj, hrest⟩ : ∃ δ, DoesG P ops (σ.app oi.dst δi) oj δ ∧ sAny P St ops K f ((listed.setIfInBounds i true).setIfInBounds j true) ((σ.app oi.dst δi).app oj.dst δ) := by
          rcases hH with h | h
          · exact h
          · obtain ⟨h, hst, _⟩ := h
            rw [hnd hst] at h; cases h
        obtain ⟨s1, s2, s3⟩ := swap hap hm hw hy hdj
        refine ⟨oj, hoj, Or.inl ⟨δj, s1, ?_⟩⟩
        refine ih (listed.setIfInBounds j true) _ (wf_app hw oj.dst s1.fits s1.set_some) ?_ (closed_set hc hj) (ready_mono hr (Ne.symm hji)) s2 ?_
        · intro k ok hk hki hkun
          refine hfree k ok hk hki ?_
          by_cases hjk : j = k
          · subst hjk; exact hjun
          · rw [getD_set_ne true hjk] at hkun; exact hkun
        · rw [Array.setIfInBounds_comm _ _ hji, ← s3]
          exact hrest
      · have hl := anc_ready hc ha hj
        rcases Nat.lt_or_ge i listed.size with h' | h'
        · simp [h'] at hun hl; rw [hun] at hl; cases hl
        · simp [Array.getElem?_eq_none h'] at hl
/-! ### The order of the text -/
def sLex (P : Program) (St : Prop) (ops : Array Oper) (K : SS → Prop) : List Oper → SS → Prop
  | [], σ => K σ
  | o :: rest, σ => (∃ δ, DoesG P ops σ o δ ∧ sLex P St ops K rest (σ.app o.dst δ)) ∨ (isDyn o = true ∧ St ∧ GuardYes ops σ o ∧ eS P σ o fun σ' => sLex P St ops K rest σ')
def pairOK (st : Bool) (ops : Array Oper) (oi : Oper) (i : Nat) : List Oper → Nat → Bool
  | [], _ => true
  | oj :: rest, j => (anc ops 1 i j || (oi.apart ops oj && memOK (dcls oi) (dcls oj) && (!st || (!isDyn oi && !isDyn oj))) || anc ops 3 i j || anc ops 9 i j) && pairOK st ops oi i rest (j + 1)
def goOK (st : Bool) (ops : Array Oper) : List Oper → Nat → Bool
  | [], _ => true
  | o :: rest, i => (o.after.toList.all fun e => !Region.binds .any e || decide (e.on < i)) && pairOK st ops o i rest (i + 1) && goOK st ops rest (i + 1)
def drawOK (ops : Array Oper) : Bool := goOK true ops ops.toList 0
def drawD (ops : Array Oper) : Bool := goOK false ops ops.toList 0
theorem pairOK_spec {st : Bool} {oi : Oper} {i : Nat} : ∀ {l : List Oper} {k : Nat}, pairOK st ops oi i l k = true → ∀ j oj, l[j]? = some oj → (oi.apart ops oj = true ∧ memOK (dcls oi) (dcls oj) = true ∧ (st = true → isDyn oi = false ∧ isDyn oj = false)) ∨ ∃ f, anc ops f i (k + j) = true
  | [], _, _, j, oj, hj => by simp at hj
  | o :: l, k, h, j, oj, hj => by
    simp only [pairOK, Bool.and_eq_true, Bool.or_eq_true] at h
    cases j with
    | zero =>
      simp at hj; subst hj
      rcases h.1 with ((h1 | h1) | h1) | h1
      · exact Or.inr ⟨1, h1⟩
      · exact Or.inl ⟨h1.1.1, h1.1.2, fun e => by subst e; simpa using h1.2⟩
      · exact Or.inr ⟨3, h1⟩
      · exact Or.inr ⟨9, h1⟩
    | succ j =>
      have := pairOK_spec h.2 j oj (by simpa using hj)
      rw [show k + 1 + j = k + (j + 1) by omega] at this
      exact this
theorem goOK_spec {st : Bool} : ∀ {l : List Oper} {k : Nat}, goOK st ops l k = true → ∀ (i : Nat) (oi : Oper), l[i]? = some oi → (∀ e ∈ oi.after, Region.binds .any e = true → e.on < k + i) ∧
    ∀ j oj, l[j]? = some oj → i < j → (oi.apart ops oj = true ∧ memOK (dcls oi) (dcls oj) = true ∧ (st = true → isDyn oi = false ∧ isDyn oj = false)) ∨ ∃ f, anc ops f (k + i) (k + j) = true
  | [], _, _, i, oi, hi => by simp at hi
  | o :: l, k, h, i, oi, hi => by
    simp only [goOK, Bool.and_eq_true] at h
    cases i with
    | zero =>
      simp at hi; subst hi
      refine ⟨fun e he hb => ?_, fun j oj hj hij => ?_⟩
      · have := List.all_eq_true.1 h.1.1 e (by simpa using he)
        simpa [hb] using this
      · obtain ⟨j, rfl⟩ : ∃ j', j = j' + 1 := ⟨j - 1, by omega⟩
        have := pairOK_spec h.1.2 j oj (by simpa using hj)
        rw [show k + 1 + j = k + (j + 1) by omega] at this
        exact this
    | succ i =>
      obtain ⟨g1, g2⟩ := goOK_spec h.2 i oi (by simpa using hi)
      refine ⟨fun e he hb => by have := g1 e he hb; omega, fun j oj hj hij => ?_⟩
      obtain ⟨j, rfl⟩ : ∃ j', j = j' + 1 := ⟨j - 1, by omega⟩
      have := g2 j oj (by simpa using hj) (by omega)
      rw [show k + 1 + j = k + (j + 1) by omega, show k + 1 + i = k + (i + 1) by omega] at this
      exact this
theorem drawOK_spec {st : Bool} (h : goOK st ops ops.toList 0 = true) {i : Nat} {oi : Oper} (hi : ops[i]? = some oi) :
    (∀ e ∈ oi.after, Region.binds .any e = true → e.on < i) ∧ ∀ j oj, ops[j]? = some oj → i < j → (oi.apart ops oj = true ∧ memOK (dcls oi) (dcls oj) = true ∧ (st = true → isDyn oi = false ∧ isDyn oj = false)) ∨ ∃ f, anc ops f i j = true := by
  have := goOK_spec h i oi (by simpa using hi)
  simp only [Nat.zero_add] at this
  exact ⟨this.1, fun j oj hj => this.2 j oj (by simpa using hj)⟩
theorem lex_any {st : Bool} {St : Prop} (hst : St → st = true) (hok : goOK st ops ops.toList 0 = true) {K : SS → Prop} : ∀ (rest : List Oper) (k : Nat) (listed : Array Bool) (σ : SS), ops.toList.drop k = rest → k + rest.length = ops.size → (∀ j, j < ops.size → listed[j]? = some (decide (j < k))) → σ.wf →
    sLex P St ops K rest σ → sAny P St ops K rest.length listed σ := by
  intro rest
  induction rest with
  | nil =>
    intro k listed σ hdrop hlen hl hw h
    refine ⟨?_, h⟩
    cases hr : Region.ready .any ops listed with
    | nil => rfl
    | cons j l =>
      have hj : j ∈ Region.ready .any ops listed := by rw [hr]; simp
      obtain ⟨hun, o, ho, _⟩ := mem_ready.1 hj
      have hlt := (Array.getElem?_eq_some_iff.1 ho).1
      have := hl j hlt
      simp at hlen
      simp only [Array.getD_eq_getD_getElem?, this, Option.getD_some, decide_eq_false_iff_not] at hun
      omega
  | cons o rest ih =>
    intro k listed σ hdrop hlen hl hw h
    have hk : ops[k]? = some o := by
      have : (ops.toList.drop k)[0]? = some o := by rw [hdrop]; rfl
      simpa using this
    simp only [List.length_cons] at hlen
    obtain ⟨c1, c2⟩ := drawOK_spec hok hk
    have hready : k ∈ Region.ready .any ops listed := mem_ready.2 ⟨by simp [Array.getD_eq_getD_getElem?, hl k (by omega)], o, hk, fun e he hb => by
      have := c1 e he hb
      simp [Array.getD_eq_getD_getElem?, hl e.on (by omega), this]⟩
    have hnext : ∀ j, j < ops.size → (listed.setIfInBounds k true)[j]? = some (decide (j < k + 1)) := by
      intro j hj
      rw [Array.getElem?_setIfInBounds]
      by_cases e : k = j
      · subst e
        have hs : k < listed.size := by
          have := hl k hj
          exact (Array.getElem?_eq_some_iff.1 this).1
        simp [hs]
      · rw [if_neg e, hl j hj]
        congr 1
        simp; omega
    have hcl : Closed ops listed := by
      intro j oj hj hlj e he hb
      have hlt := (Array.getElem?_eq_some_iff.1 hj).1
      simp only [Array.getD_eq_getD_getElem?, hl j hlt, Option.getD_some, decide_eq_true_eq] at hlj
      have := (drawOK_spec hok hj).1 e he hb
      simp [Array.getD_eq_getD_getElem?, hl e.on (by omega)]
      omega
    have hdr : ops.toList.drop (k + 1) = rest := by rw [← List.drop_drop, hdrop]; rfl
    rcases h with ⟨δ, h1, h2⟩ | ⟨hdy, hS, hg, hx⟩
    · refine first hk rest.length listed σ hw ?_ hcl hready h1 (ih (k + 1) _ _ hdr (by omega) hnext (wf_app hw o.dst h1.fits h1.set_some) h2)
      intro j oj hj hjk hun
      have hlt := (Array.getElem?_eq_some_iff.1 hj).1
      simp only [Array.getD_eq_getD_getElem?, hl j hlt, Option.getD_some, decide_eq_false_iff_not] at hun
      exact (c2 j oj hj (by omega)).imp (fun h => ⟨h.1, h.2.1, fun e => (h.2.2 (hst e)).2⟩) id
    · refine ⟨fun h0 => (by rw [h0] at hready; cases hready), fun j hj => ?_⟩
      have hjk : j = k := by
        by_cases e : j = k
        · exact e
        · exfalso
          obtain ⟨hjun, oj, hoj, _⟩ := mem_ready.1 hj
          have hlt := (Array.getElem?_eq_some_iff.1 hoj).1
          simp only [Array.getD_eq_getD_getElem?, hl j hlt, Option.getD_some, decide_eq_false_iff_not] at hjun
          rcases c2 j oj hoj (by omega) with ⟨_, _, h3⟩ | ⟨f, ha⟩
          · have h3 := (h3 (hst hS)).1; rw [hdy] at h3; cases h3
          · have := anc_ready hcl ha hj
            have hkl : k < ops.size := (Array.getElem?_eq_some_iff.1 hk).1
            simp [Array.getD_eq_getD_getElem?, hl k hkl] at this
      subst hjk
      exact ⟨o, hk, Or.inr ⟨hdy, hS, hg, eS_mono hx (fun σ' _ _ _ _ _ hi hq => ih (j + 1) _ _ hdr (by omega) hnext hi.wf hq)⟩⟩
theorem draw_wp {w0 : W0} {w : World} {ok0 : Bool → Nat → Prop} {a : Act} {id : Nat} {K : SS → Prop} {Q : Exit → Act → World → Prop} (hm : P.follows .mixedOrders = true) (hok : drawD ops = true) (hd : dstsOK N ops.toList = true) (hi : Inv w0 ok0 N σ a w)
    (hK : ∀ σ' a' w', K σ' → Inv w0 ok0 N σ' a' w' → Q .normal a' w') (h : sLex P (drawOK ops = true) ops K ops.toList σ) : (Code.region id ops true).wpIn (Fw w0.rho) 0 P Q a w := by
  refine wpIn_region_any hm ?_
  have hw : σ.wf := fun i hn => by obtain ⟨mu, hmm⟩ := hi.mem; exact (hmm.fresh i hn).1
  have : sAny P (drawOK ops = true) ops K ops.toList.length (Array.replicate ops.size false) σ := by
    by_cases hs : drawOK ops = true
    · exact lex_any (fun _ => rfl) hs ops.toList 0 (Array.replicate ops.size false) σ rfl (by simp) (by intro j hj; simp [Array.getElem?_replicate, hj]) hw h
    · exact lex_any (fun e => absurd e hs) hok ops.toList 0 (Array.replicate ops.size false) σ rfl (by simp) (by intro j hj; simp [Array.getElem?_replicate, hj]) hw h
  simp only [Array.length_toList] at this
  exact sAny_wp (fun i o t ho ht => by
    have := List.all_eq_true.1 hd o (by simpa using Array.mem_of_getElem? ho)
    simp only [Bool.and_eq_true] at this
    simpa [ht] using this.2) (fun i o ho => by
    have := List.all_eq_true.1 hd o (by simpa using Array.mem_of_getElem? ho)
    simp only [Bool.and_eq_true] at this
    exact this.1) hK _ _ _ _ _ hi.drew this
end
end Go.Proofs.YtaljbebkooppiaaGreat.Sh

namespace Go.Proofs.YtaljbebkooppiaaGreat.Sh
open Go Go.RowKit
section
variable {N : Nat} {σ σ' : SS} {P : Program}
def stOK (fz : Bool) (ops : List Oper) : Prop := fz = true ∨ drawOK ops.toArray = true
@[simp] theorem stOK_true (ops : List Oper) : stOK true ops = True := by simp [stOK]
def eOps (P : Program) (fz : Bool) (ops : List Oper) : List Oper → SS → (SS → Prop) → Prop
  | [], σ, K => K σ
  | o :: rest, σ, K => match o.guard with
    | none => eOp P fz (stOK fz ops) σ o fun σ' => eOps P fz ops rest σ' K
    | some (j, want) => onO ((ops[j]?).bind (·.dst)) fun d => onG (σ.t d) (fun b => match want with
      | true => br b (eOp P fz (stOK fz ops) (σ.put (some d) (B true)) o fun σ' => eOps P fz ops rest σ' K) (eOps P fz ops rest ((σ.put (some d) (B false)).put o.dst ST.no) K)
      | false => br b (eOps P fz ops rest ((σ.put (some d) (B true)).put o.dst ST.no) K) (eOp P fz (stOK fz ops) (σ.put (some d) (B false)) o fun σ' => eOps P fz ops rest σ' K)) (eOps P fz ops rest (σ.put o.dst ST.no) K)
theorem put_same {d : Nat} {x : ST} (h : σ.t d = x) : σ.put (some d) x = σ := by
  have : (fun i => if i = d then x else σ.t i) = σ.t := by funext i; split <;> simp_all
  simp only [SS.put, this]
theorem br_want {b want : Bool} {X Y : SS → Prop} {d : Nat} (hb : σ.t d = B b) (h : match want with | true => br b (X (σ.put (some d) (B true))) (Y (σ.put (some d) (B false))) | false => br b (Y (σ.put (some d) (B true))) (X (σ.put (some d) (B false)))) : (b = want → X σ) ∧ (b = (!want) → Y σ) := by
  cases want
  · refine ⟨fun e => ?_, fun e => ?_⟩
    · have := h.2 e; rwa [put_same (by rw [hb, e])] at this
    · have := h.1 e; rwa [put_same (by rw [hb, e]; rfl)] at this
  · refine ⟨fun e => ?_, fun e => ?_⟩
    · have := h.1 e; rwa [put_same (by rw [hb, e])] at this
    · have := h.2 e; rwa [put_same (by rw [hb, e]; rfl)] at this
theorem eOps_wp {w0 : W0} {ok0 : Bool → Nat → Prop} (ops : Array Oper) {K : SS → Prop} {Q : Exit → Act → World → Prop} (hK : ∀ σ' a' w', K σ' → Inv w0 ok0 N σ' a' w' → Q .normal a' w') :
    ∀ (l : List Oper) (σ : SS) (a : Act) (w : World), dstsOK N l = true → Inv w0 ok0 N σ a w → eOps P true ops.toList l σ K → wpListIn (Fw w0.rho) 0 P ops Q l a w
  | [], σ, a, w, _, h, hs => hK σ a w hs h
  | o :: rest, σ, a, w, hd, h, hs => by
    obtain ⟨⟨hd1, hnd⟩, hd2⟩ := dstsOK_cons hd
    have step : ∀ {K' : SS → Prop}, eOp P true (stOK true ops.toList) σ o K' → (∀ σ' a' w', K' σ' → Inv w0 ok0 N σ' a' w' → wpListIn (Fw w0.rho) 0 P ops Q rest a' w') → o.wpIn (Fw w0.rho) 0 P a w (wpListIn (Fw w0.rho) 0 P ops Q rest) Q := fun hp hk => by
      rcases eOp_does' hp rfl with ⟨δ, h1, h2⟩ | ⟨_, hx⟩ | ⟨_, hx⟩
      · exact toIn hnd (h1.wp h.fzB hd1 (fun a' w' hi' => hk _ a' w' h2 hi'))
      · exact toIn hnd (isX_wp h hx hd1 hk)
      · exact hx _ _ _ _ _ _ _ h hd1 hk
    simp only [eOps] at hs
    simp only [wpListIn]
    split at hs
    · rename_i hg
      rw [if_pos (by simp [Region.wanted, hg])]
      exact (step hs (fun σ' a' w' h1 h2 => eOps_wp ops hK rest σ' a' w' hd2 h2 h1))
    · rename_i j want hg
      obtain ⟨d, hdj, hs⟩ := onO_elim hs
      obtain ⟨mu, him⟩ := h.im
      rcases onG_elim hs with ⟨b, hb, hbr⟩ | ⟨hb, hs⟩
      case inr =>
        have hy := guard_no him hdj hb
        rw [if_neg (by simp [Region.wanted, hg, hy])]
        exact ⟨fun _ _ => trivial, eOps_wp ops hK rest _ _ _ hd2 (h.put o.dst hd1 undef ST.no (fun _ _ => RT.no)) hs⟩
      obtain ⟨hyes, hno⟩ := br_want (X := fun σ => eOp P true (stOK true ops.toList) σ o fun σ' => eOps P true ops.toList rest σ' K) (Y := fun σ => eOps P true ops.toList rest (σ.put o.dst ST.no) K) hb hbr
      have hy := guard_yes him hdj hb
      by_cases e : b = want
      · rw [if_pos (by simp [Region.wanted, hg, hy, e])]
        exact (step (hyes e) (fun σ' a' w' h1 h2 => eOps_wp ops hK rest σ' a' w' hd2 h2 h1))
      · rw [if_neg (by simp [Region.wanted, hg, hy, e])]
        exact ⟨fun _ _ => trivial, eOps_wp ops hK rest _ _ _ hd2 (h.put o.dst hd1 undef ST.no (fun _ _ => RT.no)) (hno (by cases b <;> cases want <;> simp_all))⟩
theorem st_lex {ops : Array Oper} (h : stOK false ops.toList) : drawOK ops = true := by simpa [stOK] using h
theorem eOps_lex (ops : Array Oper) {K : SS → Prop} : ∀ (l : List Oper) (σ : SS), eOps P false ops.toList l σ K → sLex P (drawOK ops = true) ops K l σ
  | [], σ, hs => hs
  | o :: rest, σ, hs => by
    simp only [eOps] at hs
    simp only [sLex]
    split at hs
    · rename_i hg
      rcases eOp_does hs with ⟨δ, h1, h2⟩ | ⟨hdy, hst, hx⟩
      · exact Or.inl ⟨δ, by unfold DoesG; simp only [hg]; exact h1, eOps_lex ops rest _ h2⟩
      · exact Or.inr ⟨hdy, st_lex hst, by unfold GuardYes; simp only [hg], eS_mono hx (fun σ' _ _ _ _ _ _ hq => eOps_lex ops rest _ hq)⟩
    · rename_i j want hg
      obtain ⟨d, hdj, hs⟩ := onO_elim hs
      have hdj' : (ops[j]?).bind (·.dst) = some d := by simpa using hdj
      rcases onG_elim hs with ⟨b, hb, hbr⟩ | ⟨hb, hs⟩
      case inr => exact Or.inl ⟨.pure ST.no, by unfold DoesG; simp only [hg]; exact ⟨d, hdj', Or.inr ⟨Or.inr hb, trivial⟩⟩, eOps_lex ops rest _ hs⟩
      obtain ⟨hyes, hno⟩ := br_want (X := fun σ => eOp P false (stOK false ops.toList) σ o fun σ' => eOps P false ops.toList rest σ' K) (Y := fun σ => eOps P false ops.toList rest (σ.put o.dst ST.no) K) hb hbr
      by_cases e : b = want
      · rcases eOp_does (hyes e) with ⟨δ, h1, h2⟩ | ⟨hdy, hst, hx⟩
        · subst e
          exact Or.inl ⟨δ, by unfold DoesG; simp only [hg]; exact ⟨d, hdj', Or.inl ⟨hb, h1⟩⟩, eOps_lex ops rest _ h2⟩
        · subst e
          exact Or.inr ⟨hdy, st_lex hst, by unfold GuardYes; simp only [hg]; exact ⟨d, hdj', hb⟩, eS_mono hx (fun σ' _ _ _ _ _ _ hq => eOps_lex ops rest _ hq)⟩
      · have e' : b = !want := by cases b <;> cases want <;> simp_all
        exact Or.inl ⟨.pure ST.no, by unfold DoesG; simp only [hg]; exact ⟨d, hdj', Or.inr ⟨Or.inl (by rw [hb, e']), trivial⟩⟩, eOps_lex ops rest _ (hno e')⟩
/-! ### Code without loops -/
def codeOK (N : Nat) : Code → Bool
  | .region _ ops d => dstsOK N ops.toList && (!d || drawD ops)
  | .seq x y => codeOK N x && codeOK N y
  | .cond _ x y => codeOK N x && codeOK N y
  | .block _ c => codeOK N c
  | .loop _ => true
  | _ => true
def hold {α : Type} (a : α) (_t : Tok a := ⟨⟩) : α := a
def holdP (a : Prop) (_t : Tok a := ⟨⟩) : Prop := a
def eC (P : Program) (N : Nat) : Code → (Exit → SS → Prop) → SS → Prop
  | .region id ops d, Q, σ => match d with
    | false => eOps P true ops.toList ops.toList σ (Q .normal)
    | true => P.follows .mixedOrders = true ∧ eOps P false ops.toList ops.toList σ (Q .normal)
  | .seq x y, Q, σ => eC P N x (thenQ (hold (eC P N y Q)) Q) σ
  | .cond o x y, Q, σ => onB (σ.ev o) fun b => br b (eC P N x Q σ) (eC P N y Q σ)
  | .block id c, Q, σ => eC P N c (blockQ id Q) σ
  | .skip, Q, σ => Q .normal σ
  | .ret, Q, σ => Q .ret σ
  | .exit id, Q, σ => Q (.exit id) σ
  | .label _, Q, σ => Q .normal σ
  | c, Q, σ => holdP (sw P N c Q σ)
theorem eC_sound : ∀ (c : Code) (Q : Exit → SS → Prop) (σ : SS), codeOK N c = true → eC P N c Q σ → sw P N c Q σ := by
  intro c
  induction c with
  | region id ops d =>
    intro Q σ hc h
    cases d with
    | false =>
      simp only [codeOK, Bool.and_eq_true] at hc
      intro w0 ok0 a w hi
      exact wpIn_region_list (eOps_wp ops (K := Q .normal) (fun σ' a' w' h1 h2 => ⟨σ', h1, h2⟩) ops.toList σ a w hc.1 hi h)
    | true =>
      simp only [codeOK, Bool.and_eq_true] at hc
      intro w0 ok0 a w hi
      exact draw_wp h.1 (by simpa using hc.2) hc.1 hi (fun σ' a' w' h1 h2 => ⟨σ', h1, h2⟩) (eOps_lex ops ops.toList σ h.2)
  | seq x y ihx ihy =>
    intro Q σ hc h
    simp only [codeOK, Bool.and_eq_true] at hc
    refine sw_seq (sw_mono (ihx _ σ hc.1 h) ?_)
    intro e σ' hq
    cases e with
    | normal => exact ihy Q σ' hc.2 hq
    | exit => exact hq
    | goto => exact hq
    | ret => exact hq
    | panic => exact hq
    | outgrown => exact hq
  | cond o x y ihx ihy =>
    intro Q σ hc h
    simp only [codeOK, Bool.and_eq_true] at hc
    simp only [eC] at h
    obtain ⟨b, hb, h⟩ := onB_elim h
    exact sw_cond hb (fun e => ihx Q σ hc.1 (h.1 e)) (fun e => ihy Q σ hc.2 (h.2 e))
  | block id c ih => intro Q σ hc h; exact sw_block (ih _ σ hc h)
  | skip => intro Q σ hc h; exact sw_skip h
  | ret => intro Q σ hc h; exact sw_ret h
  | exit id => intro Q σ hc h; exact sw_exit h
  | label l => intro Q σ hc h; exact sw_label h
  | _ => intro Q σ hc h; exact h
end
end Go.Proofs.YtaljbebkooppiaaGreat.Sh

namespace Go.Proofs.YtaljbebkooppiaaGreat.Sh
open Go Go.RowKit
def rowsN (cs : List S1) (z len : Nat) : List (List S1) := rowsOf cs 0 z len
@[simp] theorem rowsN_0 (cs : List S1) (z : Nat) : rowsN cs z 0 = [] := rfl
@[simp] theorem rowsN_1 (cs : List S1) (z : Nat) : rowsN cs z 1 = [cs.take z] := by simp [rowsN, rowsOf]
@[simp] theorem rowsN_2 (cs : List S1) (z : Nat) : rowsN cs z 2 = [cs.take z, (cs.drop z).take z] := by
  simp [rowsN, rowsOf, List.range_succ]
@[simp] theorem rowsN_3 (cs : List S1) (z : Nat) : rowsN cs z 3 = [cs.take z, (cs.drop z).take z, (cs.drop (2 * z)).take z] := by
  simp [rowsN, rowsOf, List.range_succ]
section
variable {P : Program} {N : Nat} {σ : SS}
@[simp] theorem of_t (l : List (Nat × ST)) (ol : List (Nat × SObj)) (n i : Nat) : (SS.of l ol n).t i = lookT l i := rfl
@[simp] theorem of_objs (l : List (Nat × ST)) (ol : List (Nat × SObj)) (n i : Nat) : (SS.of l ol n).objs i = lookO ol i := rfl
@[simp] theorem of_n (l : List (Nat × ST)) (ol : List (Nat × SObj)) (n : Nat) : (SS.of l ol n).n = n := rfl
@[simp] theorem put_none (x : ST) : σ.put none x = σ := rfl
@[simp] theorem put_t (d i : Nat) (x : ST) : (σ.put (some d) x).t i = if i = d then x else σ.t i := rfl
@[simp] theorem put_objs (d : Option Nat) (x : ST) (i : Nat) : (σ.put d x).objs i = σ.objs i := by cases d <;> rfl
@[simp] theorem put_n (d : Option Nat) (x : ST) : (σ.put d x).n = σ.n := by cases d <;> rfl
@[simp] theorem new_t (ob : SObj) (i : Nat) : (σ.new ob).t i = σ.t i := rfl
@[simp] theorem new_objs (ob : SObj) (i : Nat) : (σ.new ob).objs i = if i = σ.n then some ob else σ.objs i := rfl
@[simp] theorem new_n (ob : SObj) : (σ.new ob).n = σ.n + 1 := rfl
@[simp] theorem setObj_t (o : Nat) (ob : SObj) (i : Nat) : (σ.setObj o ob).t i = σ.t i := rfl
@[simp] theorem setObj_objs (o : Nat) (ob : SObj) (i : Nat) : (σ.setObj o ob).objs i = if i = o then some ob else σ.objs i := rfl
@[simp] theorem setObj_n (o : Nat) (ob : SObj) : (σ.setObj o ob).n = σ.n := rfl
@[simp] theorem fzB_true (l : List Operand) : σ.fzB true l = σ.fzA l := rfl
@[simp] theorem fzB_false (l : List Operand) : σ.fzB false l = σ := rfl
@[simp] theorem kill_none : σ.kill none = σ := rfl
@[simp] theorem kill_t (o : Option Nat) (i : Nat) : (σ.kill o).t i = σ.t i := by cases o <;> rfl
@[simp] theorem kill_objs (o i : Nat) : (σ.kill (some o)).objs i = if i = o then none else σ.objs i := rfl
@[simp] theorem kill_n (o : Option Nat) : (σ.kill o).n = σ.n := by cases o <;> rfl
@[simp] theorem freeze_t (o : Nat) (cs : List S1) (i : Nat) : (σ.freeze o cs).t i = (σ.t i).frz o cs := rfl
@[simp] theorem freeze_objs (o : Nat) (cs : List S1) (i : Nat) : (σ.freeze o cs).objs i = if i = o then none else (σ.objs i).map fun ob => { ob with cells := ob.cells.map (S1.frz o cs) } := rfl
@[simp] theorem freeze_n (o : Nat) (cs : List S1) : (σ.freeze o cs).n = σ.n := rfl
@[simp] theorem of_x (l : List (Nat × ST)) (ol : List (Nat × SObj)) (n : Nat) : (SS.of l ol n).x = .nil := rfl
@[simp] theorem put_x (d : Option Nat) (x : ST) : (σ.put d x).x = σ.x := by cases d <;> rfl
@[simp] theorem new_x (ob : SObj) : (σ.new ob).x = σ.x := rfl
@[simp] theorem setObj_x (o : Nat) (ob : SObj) : (σ.setObj o ob).x = σ.x := rfl
@[simp] theorem kill_x (o : Option Nat) : (σ.kill o).x = σ.x := by cases o <;> rfl
@[simp] theorem freeze_x (o : Nat) (cs : List S1) : (σ.freeze o cs).x = σ.x := rfl
@[simp] theorem wx_t (x : XS) (i : Nat) : (σ.wx x).t i = σ.t i := rfl
@[simp] theorem wx_objs (x : XS) (i : Nat) : (σ.wx x).objs i = σ.objs i := rfl
@[simp] theorem wx_n (x : XS) : (σ.wx x).n = σ.n := rfl
@[simp] theorem wx_x (x : XS) : (σ.wx x).x = x := rfl
@[simp] theorem ev_func (f : Nat) : σ.ev (.func f) = .v (.one (.fn f [])) := rfl
@[simp] theorem ev_tmp (t : Nat) : σ.ev (.tmp t) = σ.t t := rfl
@[simp] theorem ev_const (v : Value) : σ.ev (.const v) = ofVal v := rfl
@[simp] theorem ofVal_int (k : IntKind) (n : Int) : ofVal (.int k n) = I k n := rfl
@[simp] theorem ofVal_bool (b : Bool) : ofVal (.bool b) = B b := rfl
@[simp] theorem ofVal_str (b : ByteArray) : ofVal (.string b) = .v (.one (.str b)) := rfl
@[simp] theorem ofVal_nils : ofVal (.slice none 0 0) = .v (.one .nils) := rfl
@[simp] theorem ofVal_agg (l : List Value) : ofVal (.agg l.toArray) = .v (.agg (l.map ofVal1)) := rfl
@[simp] theorem ofVal1_int (k : IntKind) (n : Int) : ofVal1 (.int k n) = .int k n := rfl
@[simp] theorem ofVal1_bool (b : Bool) : ofVal1 (.bool b) = .bool b := rfl
@[simp] theorem ofVal1_str (b : ByteArray) : ofVal1 (.string b) = .str b := rfl
@[simp] theorem ofVal1_nils : ofVal1 (.slice none 0 0) = .nils := rfl
@[simp] theorem hold_app (K : SS → Prop) (σ : SS) (t : Tok K) : hold K t σ = K σ := rfl
@[simp ↓] theorem eC_region (id : Nat) (ops : Array Oper) (Q : Exit → SS → Prop) : eC P N (.region id ops false) Q σ = eOps P true ops.toList ops.toList σ (Q .normal) := rfl
@[simp ↓] theorem eC_draws (id : Nat) (ops : Array Oper) (Q : Exit → SS → Prop) : eC P N (.region id ops true) Q σ = (P.follows .mixedOrders = true ∧ eOps P false ops.toList ops.toList σ (Q .normal)) := rfl
@[simp ↓] theorem eC_seq (x y : Code) (Q : Exit → SS → Prop) : eC P N (.seq x y) Q σ = eC P N x (thenQ (hold (eC P N y Q)) Q) σ := rfl
@[simp ↓] theorem eC_cond (o : Operand) (x y : Code) (Q : Exit → SS → Prop) : eC P N (.cond o x y) Q σ = onB (σ.ev o) fun b => br b (eC P N x Q σ) (eC P N y Q σ) := rfl
@[simp ↓] theorem eC_block (id : Nat) (c : Code) (Q : Exit → SS → Prop) : eC P N (.block id c) Q σ = eC P N c (blockQ id Q) σ := rfl
@[simp ↓] theorem eC_loop (c : Code) (Q : Exit → SS → Prop) : eC P N (.loop c) Q σ = holdP (sw P N (.loop c) Q σ) := rfl
@[simp ↓] theorem eC_range (f : Operand) (ps : Array Nat) (x c : Code) (Q : Exit → SS → Prop) : eC P N (.rangeFunc f ps x c) Q σ = holdP (sw P N (.rangeFunc f ps x c) Q σ) := rfl
@[simp ↓] theorem eC_skip (Q : Exit → SS → Prop) : eC P N .skip Q σ = Q .normal σ := rfl
@[simp ↓] theorem eC_ret (Q : Exit → SS → Prop) : eC P N .ret Q σ = Q .ret σ := rfl
@[simp ↓] theorem eC_exit (id : Nat) (Q : Exit → SS → Prop) : eC P N (.exit id) Q σ = Q (.exit id) σ := rfl
@[simp ↓] theorem eC_label (id : Nat) (Q : Exit → SS → Prop) : eC P N (.label id) Q σ = Q .normal σ := rfl
@[simp ↓] theorem eOps_nil (fz : Bool) (ops : List Oper) (K : SS → Prop) : eOps P fz ops [] σ K = K σ := rfl
@[simp ↓] theorem eOps_cons (fz : Bool) (ops rest : List Oper) (K : SS → Prop) (d : Option Nat) (op : Op) (ty : Nat) (pos : String) (af : Array Edge) :
    eOps P fz ops (⟨d, op, ty, pos, af, none⟩ :: rest) σ K = eOp P fz (stOK fz ops) σ ⟨d, op, ty, pos, af, none⟩ fun σ' => eOps P fz ops rest σ' K := rfl
@[simp ↓] theorem eOps_guard (fz : Bool) (ops rest : List Oper) (K : SS → Prop) (d : Option Nat) (op : Op) (ty : Nat) (pos : String) (af : Array Edge) (j : Nat) :
    eOps P fz ops (⟨d, op, ty, pos, af, some (j, true)⟩ :: rest) σ K = onO ((ops[j]?).bind (·.dst)) fun d' => onG (σ.t d') (fun b => br b (eOp P fz (stOK fz ops) (σ.put (some d') (B true)) ⟨d, op, ty, pos, af, some (j, true)⟩ fun σ' => eOps P fz ops rest σ' K) (eOps P fz ops rest ((σ.put (some d') (B false)).put d ST.no) K)) (eOps P fz ops rest (σ.put d ST.no) K) := rfl
@[simp ↓] theorem eOps_guard' (fz : Bool) (ops rest : List Oper) (K : SS → Prop) (d : Option Nat) (op : Op) (ty : Nat) (pos : String) (af : Array Edge) (j : Nat) :
    eOps P fz ops (⟨d, op, ty, pos, af, some (j, false)⟩ :: rest) σ K = onO ((ops[j]?).bind (·.dst)) fun d' => onG (σ.t d') (fun b => br b (eOps P fz ops rest ((σ.put (some d') (B true)).put d ST.no) K) (eOp P fz (stOK fz ops) (σ.put (some d') (B false)) ⟨d, op, ty, pos, af, some (j, false)⟩ fun σ' => eOps P fz ops rest σ' K)) (eOps P fz ops rest (σ.put d ST.no) K) := rfl
@[simp] theorem thenQ_normal (K : SS → Prop) (Q : Exit → SS → Prop) : thenQ K Q .normal σ = K σ := rfl
@[simp] theorem thenQ_ret (K : SS → Prop) (Q : Exit → SS → Prop) : thenQ K Q .ret σ = Q .ret σ := rfl
@[simp] theorem thenQ_exit (K : SS → Prop) (Q : Exit → SS → Prop) (i : Nat) : thenQ K Q (.exit i) σ = Q (.exit i) σ := rfl
@[simp] theorem blockQ_normal (Q : Exit → SS → Prop) (i : Nat) : blockQ i Q .normal σ = Q .normal σ := rfl
@[simp] theorem blockQ_ret (Q : Exit → SS → Prop) (i : Nat) : blockQ i Q .ret σ = Q .ret σ := rfl
@[simp] theorem blockQ_exit (Q : Exit → SS → Prop) (i j : Nat) : blockQ i Q (.exit j) σ = if j = i then Q .normal σ else Q (.exit j) σ := rfl
section
variable {fz : Bool} {St : Prop} {K : SS → Prop} {d : Option Nat} {ty : Nat} {pos : String} {af : Array Edge} {g : Option (Nat × Bool)}
@[simp ↓] theorem eOp_move (x : Operand) : eOp P fz St σ ⟨d, .move x, ty, pos, af, g⟩ K = (K (σ.put d (σ.ev x))) := rfl
@[simp ↓] theorem eOp_assign (x : Operand) : eOp P fz St σ ⟨d, .assign x, ty, pos, af, g⟩ K = (K (σ.put d (σ.ev x))) := rfl
@[simp ↓] theorem eOp_pick (c x y : Operand) : eOp P fz St σ ⟨d, .pick c x y, ty, pos, af, g⟩ K = (onB (σ.ev c) fun t => K (σ.put d (if t = true then σ.ev x else σ.ev y))) := rfl
@[simp ↓] theorem eOp_load (t : Nat) (x : Operand) : eOp P fz St σ ⟨d, .load t x, ty, pos, af, g⟩ K = (onO (tyOf P t) fun τ => onO (sLoad σ τ (σ.ev x)) fun y => K (σ.put d (.v y))) := rfl
@[simp ↓] theorem eOp_binOp (op : BinOp) (t : Nat) (x y : Operand) (t2 : Nat) : eOp P fz St σ ⟨d, .binOp op t x y t2, ty, pos, af, g⟩ K = (eBin P t op (σ.ev x) (σ.ev y) fun s => K (σ.put d (.v (.one s)))) := rfl
@[simp ↓] theorem eOp_unOp (op : UnOp) (t : Nat) (x : Operand) : eOp P fz St σ ⟨d, .unOp op t x, ty, pos, af, g⟩ K = (onO (sUn op (σ.ev x)) fun s => K (σ.put d (.v (.one s)))) := rfl
@[simp ↓] theorem eOp_convert (src t : Nat) (x : Operand) : eOp P fz St σ ⟨d, .convert src t x, ty, pos, af, g⟩ K = (onO (tyOf P src) fun τs => onO (tyOf P t) fun τ => onCv (σ.ev x) (fun n => onO τ.asInt fun k => K (σ.put d (I k (k.wrap n)))) (fun n => onO τs.asSlice fun p => onO (tyOf P p.1) fun τe => (p.2 = 1 ∧ τe.asInt = some .u8 ∧ τ.isStr = true) ∧ K (σ.put d (.v (.one (.str (ByteArray.empty.push (UInt8.ofNat n.toNat)))))))) := rfl
@[simp ↓] theorem eOp_fieldAddr (t : Nat) (x : Operand) (f : Nat) : eOp P fz St σ ⟨d, .fieldAddr t x f, ty, pos, af, g⟩ K = (onO (tyOf P t) fun τ => onO (sFieldAddr τ f (σ.ev x)) fun s => K (σ.put d (.v (.one s)))) := rfl
@[simp ↓] theorem eOp_indexAddr (t : Nat) (x i : Operand) : eOp P fz St σ ⟨d, .indexAddr t x i, ty, pos, af, g⟩ K = (onO (tyOf P t) fun τ => onI (σ.ev i) fun _ n => onO (sIndexAddr τ n (σ.ev x)) fun p => (0 ≤ n ∧ n < (p.1 : Nat)) ∧ K (σ.put d (.v (.one p.2)))) := rfl
@[simp ↓] theorem eOp_slice (t : Nat) (x : Operand) (lo hi mx : Option Operand) : eOp P fz St σ ⟨d, .slice t x lo hi mx, ty, pos, af, g⟩ K = (onO (tyOf P t) fun τ => onO (optInt σ lo) fun l => onO (optInt σ hi) fun h => onO (optInt σ mx) fun m => onO (sCut σ τ l h m (σ.ev x)) fun p => cutOK p.1 l h m ∧ K (σ.put d (.v (.one p.2)))) := rfl
@[simp ↓] theorem eOp_field (t : Nat) (x : Operand) (f : Nat) : eOp P fz St σ ⟨d, .field t x f, ty, pos, af, g⟩ K = (onO (fldOf P t f) fun p => onA (σ.ev x) fun l => onO (sPart p.2 p.1 l) fun y => K (σ.put d (.v y))) := rfl
@[simp ↓] theorem eOp_extract (x : Operand) (i : Nat) : eOp P fz St σ ⟨d, .extract x i, ty, pos, af, g⟩ K = (onT (σ.ev x) fun l => onO l[i]? fun y => K (σ.put d (.v y))) := rfl
@[simp ↓] theorem eOp_build (t : Nat) (parts : Array (Nat × Operand)) : eOp P fz St σ ⟨d, .build t parts, ty, pos, af, g⟩ K = (onO (tyOf P t) fun τ => onO τ.asStruct fun fs => (τ.zero.isEmpty = false ∧ (fs.all fun p => p.2 != 0) = true) ∧ onO (fillS fs σ (τ.zero.map ofVal1) parts.toList) fun cs => K (σ.put d (.v (.agg cs)))) := rfl
@[simp ↓] theorem eOp_index (t : Nat) (x i : Operand) : eOp P fz St σ ⟨d, .index t x i, ty, pos, af, g⟩ K = (onO (tyOf P t) fun τ => onSA (σ.ev x) (fun s => onI (σ.ev i) fun _ n => (τ.isStr = true ∧ 0 ≤ n ∧ n < (s.size : Nat)) ∧ K (σ.put d (I .u8 (byteAt s n)))) (fun l => onI (σ.ev i) fun _ n => onO (sItem P t n l) fun y => K (σ.put d (.v y)))) := rfl
@[simp ↓] theorem eOp_nilCheck (x : Operand) : eOp P fz St σ ⟨d, .nilCheck x, ty, pos, af, g⟩ K = (onO (sPtr (σ.ev x)) fun s => K (σ.put d (.v (.one s)))) := rfl
@[simp ↓] theorem eOp_store (t : Nat) (x y : Operand) : eOp P fz St σ ⟨d, .store t x y, ty, pos, af, g⟩ K = (onO (tyOf P t) fun τ => onM (σ.ev x) fun i off => onO (σ.objs i) fun ob => onV (σ.ev y) fun z => (z.known = true ∧ z.cells.all S1.known = true) ∧ (z.cells.length = τ.size ∧ off + τ.size ≤ ob.cells.length) ∧
    K ((σ.setObj i { ob with cells := putL ob.cells off z.cells }).put d .any)) := rfl
@[simp ↓] theorem eOp_box (t : Nat) (y : Operand) : eOp P fz St σ ⟨d, .box t y, ty, pos, af, g⟩ K = (onV (σ.ev y) fun z => z.known = true ∧ K ((σ.new ⟨t, z.cells⟩).put d (.v (.one (.mp σ.n 0))))) := rfl
@[simp ↓] theorem eOp_alloc (t : Nat) : eOp P fz St σ ⟨d, .alloc t, ty, pos, af, g⟩ K = (onO (tyOf P t) fun τ => τ.zero.isEmpty = false ∧ K ((σ.new ⟨t, τ.zero.map ofVal1⟩).put d (.v (.one (.mp σ.n 0))))) := rfl
@[simp ↓] theorem eOp_makeSlice (t : Nat) (l c : Operand) : eOp P fz St σ ⟨d, .makeSlice t l c, ty, pos, af, g⟩ K = (onO (tyOf P t) fun τ => onO τ.asSlice fun p => onO (tyOf P p.1) fun τe => onI (σ.ev l) fun k n => onI (σ.ev c) fun k' m => (k = .i64 ∧ k' = .i64 ∧ n ≤ m) ∧ (τe.zero.length = p.2 ∧ p.2 ≠ 0) ∧ (0 ≤ n ∧ τe.bytes * m ≤ 281474976710656 ∧ m ≤ 281474976710656) ∧
    K ((σ.new ⟨p.1, (List.replicate n.toNat (τe.zero.map ofVal1)).flatten⟩).put d (.v (.one (.ms σ.n 0 n.toNat p.2 true))))) := rfl
@[simp ↓] theorem eOp_buildSlice (t len : Nat) (ps : Array (Nat × Operand)) : eOp P true St σ ⟨d, .buildSlice t len ps, ty, pos, af, g⟩ K = (onO (tyOf P t) fun τ => onO τ.asSlice fun p => onO (tyOf P p.1) fun τe => τe.zero.isEmpty = false ∧ (p.2 ≠ 0 ∧ len * p.2 ≤ 2 ^ 24) ∧ onO (fillS (slots p.2 len) (σ.fzB true (ps.toList.map (·.2))) (List.replicate (len * p.2) .any) ps.toList) fun cs =>
    K (((σ.fzB true (ps.toList.map (·.2))).new ⟨p.1, cs⟩).put d (.v (.one (.ms (σ.fzB true (ps.toList.map (·.2))).n 0 len p.2 true))))) := rfl
@[simp ↓] theorem eOp_buildSl (t len : Nat) (ps : Array (Nat × Operand)) : eOp P false St σ ⟨d, .buildSlice t len ps, ty, pos, af, g⟩ K = (onO (tyOf P t) fun τ => onO τ.asSlice fun p => onO (tyOf P p.1) fun τe => τe.zero.isEmpty = false ∧ (p.2 ≠ 0 ∧ len * p.2 ≤ 2 ^ 24) ∧ onO (fillS (slots p.2 len) σ (List.replicate (len * p.2) .any) ps.toList) fun cs =>
    cs.all S1.closed = true ∧ K (σ.put d (.v (.one (.sl true p.2 (rowsN cs p.2 len)))))) := rfl
@[simp ↓] theorem eOp_call (f : Nat) (as : Array Operand) (ts : Array Nat) : eOp P fz St σ ⟨d, .call ⟨.value (.func f), as, ts⟩, ty, pos, af, g⟩ K = (onO (argsOf (σ.fzB fz as.toList) as.toList) fun ys => eCall P f ys (fun r => K ((σ.fzB fz as.toList).put d r)) (fz = true ∧ eX P σ f as.toList d K)) := rfl
@[simp ↓] theorem eOp_makeFunc (f : Nat) (first caps : Array Operand) : eOp P fz St σ ⟨d, .makeFunc (.func f) first caps, ty, pos, af, g⟩ K = (first.size = 0 ∧ onO (argsOf (σ.fzB fz caps.toList) caps.toList) fun ys => onO (onesOf ys) fun cs => K ((σ.fzB fz caps.toList).put d (.v (.one (.fn f cs))))) := rfl
@[simp ↓] theorem eOp_makeMap (t : Nat) (r : Option Operand) : eOp P fz St σ ⟨d, .makeMap t r, ty, pos, af, g⟩ K = (fz = true ∧ eS P σ ⟨d, .makeMap t r, ty, pos, af, g⟩ K) := rfl
@[simp ↓] theorem eOp_lookup (t : Nat) (m k : Operand) (ok : Bool) : eOp P fz St σ ⟨d, .lookup t m k ok, ty, pos, af, g⟩ K = (fz = true ∧ eS P σ ⟨d, .lookup t m k ok, ty, pos, af, g⟩ K) := rfl
@[simp ↓] theorem eOp_mapUpdate (t : Nat) (m k v : Operand) : eOp P fz St σ ⟨d, .mapUpdate t m k v, ty, pos, af, g⟩ K = (fz = true ∧ eS P σ ⟨d, .mapUpdate t m k v, ty, pos, af, g⟩ K) := rfl
@[simp ↓] theorem eOp_dyn (t : Nat) (as : Array Operand) (ts : Array Nat) : eOp P fz St σ ⟨d, .call ⟨.value (.tmp t), as, ts⟩, ty, pos, af, g⟩ K = (onFn ((σ.fzB fz as.toList).t t) (fun f cs => onO (argsOf (σ.fzB fz as.toList) as.toList) fun ys => eCall P f (ys ++ cs.map SV.one) (fun r => K ((σ.fzB fz as.toList).put d r)) False) (St ∧ eS P σ ⟨d, .call ⟨.value (.tmp t), as, ts⟩, ty, pos, af, g⟩ K)) := rfl
@[simp ↓] theorem eOp_append (as : Array Operand) (ts : Array Nat) : eOp P true St σ ⟨d, .call ⟨.builtin .append, as, ts⟩, ty, pos, af, g⟩ K = (eAppend P σ ⟨.builtin .append, as, ts⟩ fun ob bo x => K (((σ.kill bo).new ob).put d (.v (.one x)))) := rfl
@[simp ↓] theorem eOp_append_tmp (x : Nat) (y : Operand) (ts : Array Nat) : eOp P false St σ ⟨d, .call ⟨.builtin .append, #[.tmp x, y], ts⟩, ty, pos, af, g⟩ K = (eAppend P σ ⟨.builtin .append, #[.tmp x, y], ts⟩ fun ob bo x => K (((σ.kill bo).new ob).put d (.v (.one x)))) := rfl
@[simp ↓] theorem eOp_append_nil (y : Operand) (ts : Array Nat) : eOp P false St σ ⟨d, .call ⟨.builtin .append, #[.const (.slice none 0 0), y], ts⟩, ty, pos, af, g⟩ K = (eNilApp P σ ⟨.builtin .append, #[.const (.slice none 0 0), y], ts⟩ fun r => K (σ.put d r)) := rfl
@[simp ↓] theorem eOp_copy (as : Array Operand) (ts : Array Nat) : eOp P fz St σ ⟨d, .call ⟨.builtin .copy, as, ts⟩, ty, pos, af, g⟩ K = (eCopy P σ ⟨.builtin .copy, as, ts⟩ fun σ' n => K (σ'.put d (I .i64 n))) := rfl
@[simp ↓] theorem eOp_len (as : Array Operand) (ts : Array Nat) : eOp P fz St σ ⟨d, .call ⟨.builtin .len, as, ts⟩, ty, pos, af, g⟩ K = (onO (sBuiltin P σ .len as.toList ts.toList) fun s => K (σ.put d (.v (.one s)))) := rfl
@[simp ↓] theorem eOp_min (as : Array Operand) (ts : Array Nat) : eOp P fz St σ ⟨d, .call ⟨.builtin .min, as, ts⟩, ty, pos, af, g⟩ K = (onO (sBuiltin P σ .min as.toList ts.toList) fun s => K (σ.put d (.v (.one s)))) := rfl
@[simp ↓] theorem eOp_max (as : Array Operand) (ts : Array Nat) : eOp P fz St σ ⟨d, .call ⟨.builtin .max, as, ts⟩, ty, pos, af, g⟩ K = (onO (sBuiltin P σ .max as.toList ts.toList) fun s => K (σ.put d (.v (.one s)))) := rfl
@[simp ↓] theorem eOp_cap (as : Array Operand) (ts : Array Nat) : eOp P fz St σ ⟨d, .call ⟨.builtin .cap, as, ts⟩, ty, pos, af, g⟩ K = (onO (sBuiltin P σ .cap as.toList ts.toList) fun s => K (σ.put d (.v (.one s)))) := rfl
@[simp ↓] theorem eBin_andNot (t : Nat) (x y : ST) (K : S1 → Prop) : eBin P t .andNot x y K = (onI x fun k a => onI y fun k' b => k = k' ∧ K (.int k (bitsOf .andNot k a b))) := rfl
@[simp ↓] theorem eBin_shl (t : Nat) (x y : ST) (K : S1 → Prop) : eBin P t .shl x y K = (onI x fun k a => onI y fun _ b => 0 ≤ b ∧ K (.int k (k.wrap (a * 2 ^ (min b.toNat k.bits))))) := rfl
@[simp ↓] theorem eBin_shr (t : Nat) (x y : ST) (K : S1 → Prop) : eBin P t .shr x y K = (onI x fun k a => onI y fun _ b => 0 ≤ b ∧ K (.int k (a.fdiv (2 ^ (min b.toNat k.bits))))) := rfl
@[simp ↓] theorem eBin_quo (t : Nat) (x y : ST) (K : S1 → Prop) : eBin P t .quo x y K = (onI x fun k a => onI y fun k' b => k = k' ∧ b ≠ 0 ∧ K (.int k (k.wrap (a.tdiv b)))) := rfl
@[simp ↓] theorem eBin_rem (t : Nat) (x y : ST) (K : S1 → Prop) : eBin P t .rem x y K = (onI x fun k a => onI y fun k' b => k = k' ∧ b ≠ 0 ∧ K (.int k (a.tmod b))) := rfl
@[simp ↓] theorem eBin_add (t : Nat) (x y : ST) (K : S1 → Prop) : eBin P t .add x y K = onAdd x y K := rfl
@[simp ↓] theorem eBin_sub (t : Nat) (x y : ST) (K : S1 → Prop) : eBin P t .sub x y K = (onI x fun k a => onI y fun k' b => k = k' ∧ K (.int k (k.wrap (a - b)))) := rfl
@[simp ↓] theorem eBin_mul (t : Nat) (x y : ST) (K : S1 → Prop) : eBin P t .mul x y K = (onI x fun k a => onI y fun k' b => k = k' ∧ K (.int k (k.wrap (a * b)))) := rfl
@[simp ↓] theorem eBin_lss (t : Nat) (x y : ST) (K : S1 → Prop) : eBin P t .lss x y K = (onI x fun k a => onI y fun k' b => k = k' ∧ K (.bool (decide (a < b)))) := rfl
@[simp ↓] theorem eBin_leq (t : Nat) (x y : ST) (K : S1 → Prop) : eBin P t .leq x y K = (onI x fun k a => onI y fun k' b => k = k' ∧ K (.bool (decide (a ≤ b)))) := rfl
@[simp ↓] theorem eBin_gtr (t : Nat) (x y : ST) (K : S1 → Prop) : eBin P t .gtr x y K = (onI x fun k a => onI y fun k' b => k = k' ∧ K (.bool (decide (b < a)))) := rfl
@[simp ↓] theorem eBin_geq (t : Nat) (x y : ST) (K : S1 → Prop) : eBin P t .geq x y K = (onI x fun k a => onI y fun k' b => k = k' ∧ K (.bool (decide (b ≤ a)))) := rfl
@[simp ↓] theorem eBin_and (t : Nat) (x y : ST) (K : S1 → Prop) : eBin P t .and x y K = (onI x fun k a => onI y fun k' b => k = k' ∧ K (.int k (bitsOf .and k a b))) := rfl
@[simp ↓] theorem eBin_or (t : Nat) (x y : ST) (K : S1 → Prop) : eBin P t .or x y K = (onI x fun k a => onI y fun k' b => k = k' ∧ K (.int k (bitsOf .or k a b))) := rfl
@[simp ↓] theorem eBin_xor (t : Nat) (x y : ST) (K : S1 → Prop) : eBin P t .xor x y K = (onI x fun k a => onI y fun k' b => k = k' ∧ K (.int k (bitsOf .xor k a b))) := rfl
@[simp ↓] theorem eBin_eql (t : Nat) (x y : ST) (K : S1 → Prop) : eBin P t .eql x y K = (onO (sEq2 P t x y) fun p => K (.bool p)) := rfl
@[simp ↓] theorem eBin_neq (t : Nat) (x y : ST) (K : S1 → Prop) : eBin P t .neq x y K = (onO (sEq2 P t x y) fun p => K (.bool (!p))) := rfl
end
attribute [simp ↓] eAppend eCopy eNilApp
attribute [simp] Int.ofNat_inj
attribute [simp] onesOf sPart
@[simp] theorem arrParts_one (z : Nat) : arrParts 1 z = [(0, z)] := by simp [arrParts]
@[simp] theorem arrParts_two (z : Nat) : arrParts 2 z = [(0, z), (z, z)] := by simp [arrParts, List.range_succ]
@[simp] theorem arrParts_three (z : Nat) : arrParts 3 z = [(0, z), (z, z), (2 * z, z)] := by simp [arrParts, List.range_succ]
attribute [simp] sEq2 sEqP sPtr sItem TyI.isStr TyI.asInt TyI.asStruct TyI.asSlice lookT lookO argList sLoad SS.at sFieldAddr sIndexAddr sCut optInt TyI.agg SV.cells SV.known S1.known SV.closed S1.closed sBuiltin sLen sStrLen sMinMax sUn sEq sNil sRes sResult SS.fzR SS.fzA SS.fzT SS.fzL SS.fz1
  ST.frz SV.frz S1.frz S1.close argsOf fillS putL cutOK ST.any SS.cellsOf SS.base
def Again {X : Type} (st : X → SS) (m : X → Nat) (n : Nat) (σ : SS) (_t : Tok st := ⟨⟩) (_t2 : Tok m := ⟨⟩) (_t3 : Tok n := ⟨⟩) : Prop := ∃ x', Le σ (st x') ∧ m x' < n
theorem Again.by {X : Type} {st : X → SS} {m : X → Nat} {n : Nat} {σ : SS} {t : Tok st} {t2 : Tok m} {t3 : Tok n} (x' : X) (h : Le σ (st x')) (h2 : m x' < n) : Again st m n σ t t2 t3 := ⟨x', h, h2⟩
theorem sw_loop_e {X : Type} {Q : Exit → SS → Prop} {c : Code} (st : X → SS) (m : X → Nat) (x0 : X) (hc : codeOK N c = true) (h0 : Le σ (st x0)) (round : ∀ x, eC P N c (thenQ (Again st m (m x)) Q) (st x)) : holdP (sw P N (.loop c) Q σ) :=
  sw_loop st m x0 h0 (fun x => eC_sound c _ _ hc (round x))
theorem wrap_i64 (n : Int) (h0 : -9223372036854775808 ≤ n) (h1 : n < 9223372036854775808) : IntKind.i64.wrap n = n := by
  simp [IntKind.wrap, IntKind.bits, IntKind.signed]
  split <;> omega
theorem wrap_u64 (n : Int) : IntKind.u64.wrap n = n % 18446744073709551616 := by simp [IntKind.wrap, IntKind.bits, IntKind.signed]
theorem wrap_u32 (n : Int) : IntKind.u32.wrap n = n % 4294967296 := by simp [IntKind.wrap, IntKind.bits, IntKind.signed]
end
end Go.Proofs.YtaljbebkooppiaaGreat.Sh

namespace Go.Proofs.YtaljbebkooppiaaGreat.Sh
open Go Go.RowKit
section
variable {w w' : World} {mu : Nat → Option (Nat × Nat)} {ok : Bool → Nat → Prop} {P : Program} {N : Nat} {σ : SS}
theorem eCall.of {f : Nat} {ys args : List SV} {K : ST → Prop} {alt : Prop} {r : ST} {t : Tok K} {t2 : Tok alt} (h : CallsS P f args r) (hs : subV ys args) (k : K r) : eCall P f ys K alt t t2 := Or.inl ⟨r, h.args hs, k⟩
def Ret (P : Program) (l : List ResultVar) (r : ST) (e : Exit) (σ : SS) : Prop := (e = .normal ∨ e = .ret) ∧ onO (sResult P (SS.fzR P σ l) l) fun r' => r'.sub r
@[simp] theorem Ret_ret (l : List ResultVar) (r : ST) : Ret P l r .ret σ = onO (sResult P (SS.fzR P σ l) l) fun r' => r'.sub r := by simp [Ret]
@[simp] theorem Ret_normal (l : List ResultVar) (r : ST) : Ret P l r .normal σ = onO (sResult P (SS.fzR P σ l) l) fun r' => r'.sub r := by simp [Ret]
theorem calls {f : Nat} {fn : Func} {c : Code} {args : List SV} {r : ST} (hf : P.funcs[f]? = some fn) (hb : fn.body = some c) (hname : (fn.name == "runtime.NumGoroutine") = false) (hN : decide (args.length ≤ fn.ntmps) = true) (hc : codeOK fn.ntmps c = true)
    (h : eC P fn.ntmps c (Ret P fn.results.toList r) (SS.of (argList args 0) [] 0)) : CallsS P f args r :=
  calls_of_sw' (fun r' => r'.sub r) (fun _ _ _ _ _ h hs => RT.sub h hs) hf hb hname (of_decide_eq_true hN)
    (sw_mono (eC_sound c _ _ hc h) fun _ _ ⟨h1, h2⟩ => ⟨h1, onO_elim h2⟩)
/-! ### States told with less -/
def leT (σ : SS) : List (Nat × ST) → Prop
  | [] => True
  | (t, x) :: l => (σ.t t).sub x ∧ leT σ l
def leO (σ : SS) : List (Nat × SObj) → Prop
  | [] => True
  | (t, x) :: l => (∃ ob, σ.objs t = some ob ∧ ob.ty = x.ty ∧ subL ob.cells x.cells) ∧ leO σ l
@[simp] theorem leT_nil : leT σ [] = True := rfl
@[simp] theorem leT_cons (t : Nat) (x : ST) (l : List (Nat × ST)) : leT σ ((t, x) :: l) = ((σ.t t).sub x ∧ leT σ l) := rfl
@[simp] theorem leO_nil : leO σ [] = True := rfl
@[simp] theorem leO_cons (t : Nat) (x : SObj) (l : List (Nat × SObj)) : leO σ ((t, x) :: l) = ((∃ ob, σ.objs t = some ob ∧ ob.ty = x.ty ∧ subL ob.cells x.cells) ∧ leO σ l) := rfl
theorem Le.to {l : List (Nat × ST)} {ol : List (Nat × SObj)} {n : Nat} (ht : leT σ l) (ho : leO σ ol) (hn : σ.n ≤ n) : Le σ (SS.of l ol n) := by
  intro w0 ok0 N a w ⟨hb, hs, hd, mu, hm⟩
  have lt : ∀ (l : List (Nat × ST)) (t : Nat), leT σ l → (σ.t t).sub (lookT l t) ∨ lookT l t = .any := by
    intro l t
    induction l with
    | nil => intro _; exact Or.inr rfl
    | cons p l ih =>
      obtain ⟨d, x⟩ := p
      intro h
      simp only [lookT]
      by_cases e : t = d
      · rw [if_pos e]; subst e; exact Or.inl h.1
      · rw [if_neg e]; exact ih h.2
  have lo : ∀ (l : List (Nat × SObj)) (t : Nat) (x : SObj), leO σ l → lookO l t = some x → ∃ ob, σ.objs t = some ob ∧ ob.ty = x.ty ∧ subL ob.cells x.cells := by
    intro l t x
    induction l with
    | nil => intro _ h; cases h
    | cons p l ih =>
      obtain ⟨d, y⟩ := p
      simp only [lookO]
      intro h1 h
      split at h
      · rename_i e; cases h; subst e; exact h1.1
      · exact ih h1.2 h
  have hmo : ∀ fr b, okOf w0 ok0 σ mu w fr b → okOf w0 ok0 (SS.of l ol n) mu w fr b := fun fr b ⟨h1, h2, h3⟩ => ⟨h1, h2, fun o ob cc h => by
    obtain ⟨ob', g, _⟩ := lo ol o ob ho h
    exact h3 o ob' cc g⟩
  refine ⟨hb, hs, hd, mu, fun t => ?_, fun o ob h => ?_, fun o o' ob ob' b c c' h1 h2 => ?_, fun o hno => ?_, hm.lent, hm.ext.nil⟩
  · show RT w mu _ _ (lookT l t)
    rcases lt l t ht with h | h
    · exact RT.sub (RT.mono hmo (fun _ _ _ => rfl) (fun _ _ h => h) (hm.tmps t)) h
    · rw [h]; exact RT.any _
  · obtain ⟨ob', k1, k2, k3⟩ := lo ol o ob ho h
    obtain ⟨b, cur, g1, g2, g3, g4, g5⟩ := hm.objs o ob' k1
    obtain ⟨s1, s2⟩ := subL_spec k3
    refine ⟨b, cur, g1, g2, by rw [← k2]; exact g3, by rw [← s1]; exact g4, fun j s hj => ?_⟩
    obtain ⟨s', hs', hsub⟩ := s2 j s hj
    obtain ⟨u, hu, hr⟩ := g5 j s' hs'
    exact ⟨u, hu, R1.sub (R1.mono hmo (fun _ _ _ => rfl) (fun _ _ h => h) hr) hsub⟩
  · obtain ⟨x, k1, _⟩ := lo ol o ob ho h1
    obtain ⟨y, k2, _⟩ := lo ol o' ob' ho h2
    exact hm.inj o o' x y b c c' k1 k2
  · have h1 := hm.fresh o (Nat.le_trans hn hno)
    refine ⟨?_, h1.2⟩
    cases hlo : (SS.of l ol n).objs o with
    | none => rfl
    | some ob => obtain ⟨x, k1, _⟩ := lo ol o ob ho hlo; rw [k1] at h1; cases h1.1
theorem Le.toX {l : List (Nat × ST)} {ol : List (Nat × SObj)} {n : Nat} {x : XS} (ht : leT σ l) (ho : leO σ ol) (hn : σ.n ≤ n) (hx : σ.x = x) : Le σ ((SS.of l ol n).wx x) := by
  intro w0 ok0 N a w ⟨hb, hs, hd, mu, hm⟩
  have lt : ∀ (l : List (Nat × ST)) (t : Nat), leT σ l → (σ.t t).sub (lookT l t) ∨ lookT l t = .any := by
    intro l t
    induction l with
    | nil => intro _; exact Or.inr rfl
    | cons p l ih =>
      obtain ⟨d, x⟩ := p
      intro h
      simp only [lookT]
      by_cases e : t = d
      · rw [if_pos e]; subst e; exact Or.inl h.1
      · rw [if_neg e]; exact ih h.2
  have lo : ∀ (l : List (Nat × SObj)) (t : Nat) (x : SObj), leO σ l → lookO l t = some x → ∃ ob, σ.objs t = some ob ∧ ob.ty = x.ty ∧ subL ob.cells x.cells := by
    intro l t x
    induction l with
    | nil => intro _ h; cases h
    | cons p l ih =>
      obtain ⟨d, y⟩ := p
      simp only [lookO]
      intro h1 h
      split at h
      · rename_i e; cases h; subst e; exact h1.1
      · exact ih h1.2 h
  have hmo : ∀ fr b, okOf w0 ok0 σ mu w fr b → okOf w0 ok0 ((SS.of l ol n).wx x) mu w fr b := fun fr b ⟨h1, h2, h3⟩ => ⟨h1, h2, fun o ob cc h => by
    obtain ⟨ob', g, _⟩ := lo ol o ob ho h
    exact h3 o ob' cc g⟩
  refine ⟨hb, hs, hd, mu, fun t => ?_, fun o ob h => ?_, fun o o' ob ob' b c c' h1 h2 => ?_, fun o hno => ?_, hm.lent, hm.ext.step (σ' := (SS.of l ol n).wx x) hx.symm (HS.refl w) hmo (fun _ _ _ => rfl) (fun _ _ h => h) hb.size (fun _ h => h.elim)⟩
  · show RT w mu _ _ (lookT l t)
    rcases lt l t ht with h | h
    · exact RT.sub (RT.mono hmo (fun _ _ _ => rfl) (fun _ _ h => h) (hm.tmps t)) h
    · rw [h]; exact RT.any _
  · obtain ⟨ob', k1, k2, k3⟩ := lo ol o ob ho h
    obtain ⟨b, cur, g1, g2, g3, g4, g5⟩ := hm.objs o ob' k1
    obtain ⟨s1, s2⟩ := subL_spec k3
    refine ⟨b, cur, g1, g2, by rw [← k2]; exact g3, by rw [← s1]; exact g4, fun j s hj => ?_⟩
    obtain ⟨s', hs', hsub⟩ := s2 j s hj
    obtain ⟨u, hu, hr⟩ := g5 j s' hs'
    exact ⟨u, hu, R1.sub (R1.mono hmo (fun _ _ _ => rfl) (fun _ _ h => h) hr) hsub⟩
  · obtain ⟨x, k1, _⟩ := lo ol o ob ho h1
    obtain ⟨y, k2, _⟩ := lo ol o' ob' ho h2
    exact hm.inj o o' x y b c c' k1 k2
  · have h1 := hm.fresh o (Nat.le_trans hn hno)
    refine ⟨?_, h1.2⟩
    cases hlo : ((SS.of l ol n).wx x).objs o with
    | none => rfl
    | some ob => obtain ⟨x, k1, _⟩ := lo ol o ob ho hlo; rw [k1] at h1; cases h1.1
end
end Go.Proofs.YtaljbebkooppiaaGreat.Sh

