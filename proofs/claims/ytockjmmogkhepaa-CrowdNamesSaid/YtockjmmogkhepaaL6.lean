/- A part of the proof: Sh20, Sh21, Sh22, Sh23, RowA, RowB, RowC -/
import Derived.Test.YtockjmmogkhepaaL5
import Derived.Deep.Slices
import Derived.ChangeOld
import Derived.Carry
import Derived.SizedLaws
import Derived.ProofKit
import Derived.OpenShut
set_option linter.unusedSimpArgs false
set_option linter.unusedVariables false
/- The logic of shadows, twentieth part: the contract, out of its code, of a function to which objects are lent or that hands over new ones. -/
namespace Go.Proofs.Ytockjmmogkhepaa.Sh
open Go Go.RowKit

section
variable {w0 : W0} {w w' : World} {ok0 : Bool → Nat → Prop} {N : Nat} {σ : SS} {a : Act} {mu : Nat → Option (Nat × Nat)} {P : Program}

@[simp] theorem ren_ms (ρ : Nat → Nat) (o off len e : Nat) (full : Bool) : (S1.ms o off len e full).ren ρ = .ms (ρ o) off len e full := rfl
@[simp] theorem ren_mp (ρ : Nat → Nat) (o off : Nat) : (S1.mp o off).ren ρ = .mp (ρ o) off := rfl
@[simp] theorem ren_int (ρ : Nat → Nat) (k : IntKind) (n : Int) : (S1.int k n).ren ρ = .int k n := rfl
@[simp] theorem ren_bool (ρ : Nat → Nat) (b : Bool) : (S1.bool b).ren ρ = .bool b := rfl
@[simp] theorem ren_str (ρ : Nat → Nat) (b : ByteArray) : (S1.str b).ren ρ = .str b := rfl
@[simp] theorem ren_nils (ρ : Nat → Nat) : S1.nils.ren ρ = .nils := rfl
@[simp] theorem ren_any (ρ : Nat → Nat) : S1.any.ren ρ = .any := rfl
@[simp] theorem ren_val (ρ : Nat → Nat) (v : Value) : (S1.val v).ren ρ = .val v := rfl
@[simp] theorem ren_sl (ρ : Nat → Nat) (fr : Bool) (e : Nat) (l : List (List S1)) : (S1.sl fr e l).ren ρ = .sl fr e l := rfl
@[simp] theorem ren_rp (ρ : Nat → Nat) (fr : Bool) (l : List S1) : (S1.rp fr l).ren ρ = .rp fr l := rfl
@[simp] theorem SV.ren_one (ρ : Nat → Nat) (s : S1) : (SV.one s).ren ρ = .one (s.ren ρ) := rfl
@[simp] theorem SV.ren_agg (ρ : Nat → Nat) (l : List S1) : (SV.agg l).ren ρ = .agg (l.map (S1.ren ρ)) := rfl
@[simp] theorem ST.ren_v (ρ : Nat → Nat) (x : SV) : (ST.v x).ren ρ = .v (x.ren ρ) := rfl
@[simp] theorem ST.ren_tup (ρ : Nat → Nat) (l : List SV) : (ST.tup l).ren ρ = .tup (l.map (SV.ren ρ)) := rfl
@[simp] theorem SObj.ren_ty (ρ : Nat → Nat) (ob : SObj) : (ob.ren ρ).ty = ob.ty := rfl
@[simp] theorem SObj.ren_cells (ρ : Nat → Nat) (ob : SObj) : (ob.ren ρ).cells = ob.cells.map (S1.ren ρ) := rfl
/-- Cells that lead to no object keep their form. -/
theorem ren_closed (ρ : Nat → Nat) (l : List S1) (h : ∀ s ∈ l, s.closed = true) : l.map (S1.ren ρ) = l := by
  refine (List.map_congr_left (fun s hs => ?_)).trans (List.map_id l)
  have := h s hs
  cases s <;> first | rfl | cases this
@[simp] theorem ren_ints (ρ : Nat → Nat) (k : IntKind) {α : Type} (f : α → Int) (l : List α) : (l.map fun x => S1.int k (f x)).map (S1.ren ρ) = l.map fun x => S1.int k (f x) := by simp
@[simp] theorem ren_comp_int (ρ : Nat → Nat) (k : IntKind) {α : Type} (f : α → Int) : (S1.ren ρ ∘ fun x => S1.int k (f x)) = fun x => S1.int k (f x) := rfl
@[simp] theorem ren_comp_int' (ρ : Nat → Nat) (k : IntKind) : S1.ren ρ ∘ S1.int k = S1.int k := rfl
@[simp] theorem ren_comp_int2 (ρ : Nat → Nat) (k : IntKind) : (S1.ren ρ ∘ fun x => S1.int k x) = S1.int k := rfl
@[simp] theorem frz_comp_int (o : Nat) (cs : List S1) (k : IntKind) {α : Type} (f : α → Int) : (S1.frz o cs ∘ fun x => S1.int k (f x)) = fun x => S1.int k (f x) := rfl
@[simp] theorem frz_comp_int' (o : Nat) (cs : List S1) (k : IntKind) : S1.frz o cs ∘ S1.int k = S1.int k := rfl
@[simp] theorem frz_comp_int2 (o : Nat) (cs : List S1) (k : IntKind) : (S1.frz o cs ∘ fun x => S1.int k x) = S1.int k := rfl
@[simp] theorem afterX_t (L : List Nat) (l : List (Option SObj)) (i : Nat) : (σ.afterX L l).t i = σ.t i := rfl
@[simp] theorem afterX_n (L : List Nat) (l : List (Option SObj)) : (σ.afterX L l).n = σ.n + (l.length - L.length) := rfl
@[simp] theorem afterX_o (L : List Nat) (l : List (Option SObj)) (o : Nat) : (σ.afterX L l).objs o = setX (nm L σ.n) L l (fun o => if σ.n ≤ o then newX (nm L σ.n) l (L.length + (o - σ.n)) else σ.objs o) o := rfl
attribute [simp] setX nm argsX

/-- Objects of one's own, that are written no more from here on. -/
def SS.fzF (σ : SS) (F : List Nat) : SS := F.foldl (fun s o => match s.objs o with | some ob => s.freeze o ob.cells | none => s) σ
@[simp] theorem fzF_nil : σ.fzF [] = σ := rfl
@[simp] theorem fzF_cons (o : Nat) (F : List Nat) : σ.fzF (o :: F) = (match σ.objs o with | some ob => σ.freeze o ob.cells | none => σ).fzF F := rfl
theorem Inv.fzF (F : List Nat) : ∀ {σ : SS}, Inv w0 ok0 N σ a w → Inv w0 ok0 N (σ.fzF F) a w := by
  induction F with
  | nil => intro σ h; exact h
  | cons o F ih =>
    intro σ h
    refine ih ?_
    simp only
    split
    · rename_i ob ho; exact h.freeze o ob ho
    · exact h
theorem Le.fzF (F : List Nat) {σ' : SS} (h : Le (σ.fzF F) σ') : Le σ σ' := fun _ _ _ _ _ hi => h _ _ _ _ _ (hi.fzF F)

/-- The objects that the code leaves, by the names of the contract. -/
def outX (σ : SS) (ρ : Nat → Nat) : List (Option SObj) → Nat → Prop
  | [], _ => True
  | none :: l, i => outX σ ρ l (i + 1)
  | some ob :: l, i => (∃ ob', σ.objs (ρ i) = some ob' ∧ ob'.ty = ob.ty ∧ subL ob'.cells (ob.cells.map (S1.ren ρ))) ∧ outX σ ρ l (i + 1)
@[simp] theorem outX_nil (ρ : Nat → Nat) (i : Nat) : outX σ ρ [] i = True := rfl
@[simp] theorem outX_none (ρ : Nat → Nat) (l : List (Option SObj)) (i : Nat) : outX σ ρ (none :: l) i = outX σ ρ l (i + 1) := rfl
@[simp] theorem outX_some (ρ : Nat → Nat) (ob : SObj) (l : List (Option SObj)) (i : Nat) : outX σ ρ (some ob :: l) i = ((∃ ob', σ.objs (ρ i) = some ob' ∧ ob'.ty = ob.ty ∧ subL ob'.cells (ob.cells.map (S1.ren ρ))) ∧ outX σ ρ l (i + 1)) := rfl

theorem outX_spec {ρ : Nat → Nat} : ∀ {l : List (Option SObj)} {k : Nat}, outX σ ρ l k → ∀ (i : Nat) (ob : SObj), l[i]? = some (some ob) → ∃ ob', σ.objs (ρ (k + i)) = some ob' ∧ ob'.ty = ob.ty ∧ subL ob'.cells (ob.cells.map (S1.ren ρ))
  | [], _, _, i, ob, h => by simp at h
  | none :: l, k, hx, i, ob, h => by
    cases i with
    | zero => simp at h
    | succ i => rw [show k + (i + 1) = k + 1 + i by omega]; exact outX_spec (show outX σ ρ l (k + 1) from hx) i ob (by simpa using h)
  | some ob0 :: l, k, ⟨hx, hy⟩, i, ob, h => by
    cases i with
    | zero => simp at h; subst h; exact hx
    | succ i => rw [show k + (i + 1) = k + 1 + i by omega]; exact outX_spec hy i ob (by simpa using h)

/-- The names of the contract's objects with the code: the first k as they are, then those of M. -/
def nmO (k n : Nat) (M : List Nat) (o : Nat) : Nat := if o < k then o else match M[o - k]? with | some i => i | none => n + o
attribute [simp] nmO

def sResX (P : Program) (σ : SS) : List ResultVar → Option (List SV)
  | [] => some []
  | r :: l => match r, sResX P σ l with
    | .tmp t, some ys => match σ.t t with | .v y => some (y :: ys) | _ => none
    | .cell a t, some ys => match tyOf P t with
      | some τ => match sLoad σ τ (σ.t a) with | some y => some (y :: ys) | none => none
      | none => none
    | _, none => none
attribute [simp] sResX

theorem run_resX (h : IM w0 ok0 N σ mu a w) : ∀ (l : List ResultVar) (ys : List SV), sResX P σ l = some ys → ∃ vs : List Value, (l.mapM (resOne a.tmps)).run P w = .ok vs w ∧ vs.length = ys.length ∧ ∀ (i : Nat) (y : SV), ys[i]? = some y → ∃ v, vs[i]? = some v ∧ RV w mu (okOf w0 ok0 σ mu w) v y
  | [], ys, e => by cases e; exact ⟨[], rfl, rfl, fun i y hi => by simp at hi⟩
  | r :: l, ys, e => by
    have fin : ∀ (y : SV) (zs : List SV) (v : Value), sResX P σ l = some zs → ys = y :: zs → (resOne a.tmps r).run P w = .ok v w → RV w mu (okOf w0 ok0 σ mu w) v y →
        ∃ vs : List Value, ((r :: l).mapM (resOne a.tmps)).run P w = .ok vs w ∧ vs.length = ys.length ∧ ∀ (i : Nat) (y : SV), ys[i]? = some y → ∃ v, vs[i]? = some v ∧ RV w mu (okOf w0 ok0 σ mu w) v y := by
      intro y zs v hz hys hr hv
      obtain ⟨vs, h1, h2, h3⟩ := run_resX h l zs hz
      refine ⟨v :: vs, ?_, by rw [hys]; simp [h2], fun i y' hi => ?_⟩
      · simp only [List.mapM_cons, Sem.run_bind, hr, Result.andThen_ok, h1, Sem.run_pure]
      · subst hys
        cases i with
        | zero => simp at hi; subst hi; exact ⟨v, rfl, hv⟩
        | succ i => simp at hi; obtain ⟨v', g1, g2⟩ := h3 i y' hi; exact ⟨v', by simpa using g1, g2⟩
    cases r with
    | tmp t =>
      cases hz : sResX P σ l with
      | none => simp [sResX, hz] at e
      | some zs =>
        simp only [sResX, hz] at e
        split at e
        · rename_i y hy
          have := h.m.tmps t
          rw [hy] at this
          exact fin y zs _ hz (Option.some.inj e).symm rfl this
        · cases e
    | cell x t =>
      cases hz : sResX P σ l with
      | none => simp [sResX, hz] at e
      | some zs =>
        simp only [sResX, hz] at e
        split at e
        · rename_i τ ht
          split at e
          · rename_i y hy
            obtain ⟨u, hu, hr⟩ := run_load_sh h ht (h.m.tmps x) hy
            refine fin y zs u hz (Option.some.inj e).symm ?_ hr
            have hp : ∃ ad, a.tmps.getD x undef = .pointer (some ad) := by
              unfold sLoad at hy
              split at hy
              · rename_i cs hcs
                obtain ⟨b, off, f, hv, _⟩ := h.at (h.m.tmps x) hcs
                exact ⟨_, hv⟩
              · cases hy
            obtain ⟨ad, had⟩ := hp
            simp only [resOne, had, asAddr, Sem.run_bind, Sem.run_pure, Result.andThen_ok]
            rw [had] at hu
            simpa only [Instr.loadAt, Instr.sureAddr, Sem.run_bind, Sem.run_pure, Result.andThen_ok] using hu
          · cases e
        · cases e

def resTup : List SV → ST
  | [y] => .v y
  | ys => .tup ys
@[simp] theorem resTup_one (y : SV) : resTup [y] = .v y := rfl
@[simp] theorem resTup_nil : resTup [] = .tup [] := rfl
@[simp] theorem resTup_two (y z : SV) (l : List SV) : resTup (y :: z :: l) = .tup (y :: z :: l) := rfl

theorem run_resultsX (h : IM w0 ok0 N σ mu a w) {fn : Func} {ys : List SV} (hr : sResX P σ fn.results.toList = some ys) : ∃ v, (results fn a.tmps).run P w = .ok v w ∧ RT w mu (okOf w0 ok0 σ mu w) v (resTup ys) := by
  have hres : ∀ vs : List Value, (fn.results.toList.mapM (resOne a.tmps)).run P w = .ok vs w → (results fn a.tmps).run P w = .ok (if h : vs.toArray.size = 1 then vs.toArray[0] else .tuple vs.toArray) w := by
    intro vs hvs
    have : (fn.results.mapM (resOne a.tmps)).run P w = .ok vs.toArray w := by
      rw [Array.mapM_eq_mapM_toList]
      show (Sem.bind _ _).run P w = _
      rw [Sem.run_bind', hvs]
      rfl
    show (Sem.bind (fn.results.mapM (resOne a.tmps)) _).run P w = _
    rw [Sem.run_bind', this]
    rfl
  obtain ⟨vs, h1, h2, h3⟩ := run_resX h _ _ hr
  by_cases e : ∃ y, ys = [y]
  · obtain ⟨y, rfl⟩ := e
    obtain ⟨v, hv, hrv⟩ := h3 0 y rfl
    obtain ⟨v', rfl⟩ : ∃ v', vs = [v'] := List.length_eq_one_iff.1 h2
    simp at hv; subst hv
    exact ⟨v', hres _ h1, hrv⟩
  · have hn1 : ¬ vs.toArray.size = 1 := by
      intro e'
      simp only [List.size_toArray] at e'
      exact e (List.length_eq_one_iff.1 (h2.symm.trans e'))
    have hrt : resTup ys = .tup ys := by
      unfold resTup
      split
      · rename_i y; exact absurd ⟨y, rfl⟩ e
      · rfl
    refine ⟨.tuple vs.toArray, by rw [hres _ h1, dif_neg hn1], ?_⟩
    rw [hrt]
    refine ⟨vs.toArray, rfl, by simpa using h2, fun j x hj => ?_⟩
    obtain ⟨v, hv, hr⟩ := h3 j x hj
    exact ⟨v, by simpa using hv, hr⟩

def objList : List SObj → Nat → List (Nat × SObj)
  | [], _ => []
  | x :: l, k => (k, x) :: objList l (k + 1)
@[simp] theorem objList_nil (k : Nat) : objList [] k = [] := rfl
@[simp] theorem objList_cons (x : SObj) (l : List SObj) (k : Nat) : objList (x :: l) k = (k, x) :: objList l (k + 1) := rfl

theorem look_objs : ∀ (l : List SObj) (k t : Nat), lookO (objList l k) t = if k ≤ t then l[t - k]? else none
  | [], k, t => by simp [objList, lookO]
  | x :: l, k, t => by
    simp only [objList, lookO]
    by_cases e : t = k
    · subst e; simp
    · rw [if_neg e, look_objs l (k + 1) t]
      by_cases h : k ≤ t
      · rw [if_pos h, if_pos (by omega)]
        have : t - k = (t - (k + 1)) + 1 := by omega
        rw [this]; simp
      · rw [if_neg h, if_neg (by omega)]

/-- A function's results and what it leaves. F: what is written no more; M: where the new objects are. -/
def RetX (P : Program) (l : List ResultVar) (k : Nat) (r : ST) (objs1 : List (Option SObj)) (e : Exit) (σ : SS) : Prop :=
  (e = .normal ∨ e = .ret) ∧ ∃ F M : List Nat, (M.Nodup ∧ (∀ i ∈ M, k ≤ i ∧ i < σ.n) ∧ k + M.length = objs1.length) ∧ onO (sResX P (σ.fzF F) l) (fun ys => (resTup ys).sub (r.ren (nmO k σ.n M))) ∧ outX (σ.fzF F) (nmO k σ.n M) objs1 0
theorem RetX.by {l : List ResultVar} {k : Nat} {r : ST} {objs1 : List (Option SObj)} {e : Exit} (F M : List Nat) (he : e = .normal ∨ e = .ret) (h1 : M.Nodup ∧ (∀ i ∈ M, k ≤ i ∧ i < σ.n) ∧ k + M.length = objs1.length) (h2 : onO (sResX P (σ.fzF F) l) (fun ys => (resTup ys).sub (r.ren (nmO k σ.n M)))) (h3 : outX (σ.fzF F) (nmO k σ.n M) objs1 0) :
    RetX P l k r objs1 e σ := ⟨he, F, M, h1, h2, h3⟩

theorem fzF_n (F : List Nat) : ∀ {σ : SS}, (σ.fzF F).n = σ.n := by
  induction F with
  | nil => intro σ; rfl
  | cons o F ih =>
    intro σ
    simp only [fzF_cons]
    rw [ih]
    split <;> rfl

/-- A function's contract, out of its code. -/
theorem callsX {f : Nat} {fn : Func} {c : Code} {args : List SV} {objs0 : List SObj} {r : ST} {objs1 : List (Option SObj)} (hf : P.funcs[f]? = some fn) (hb : fn.body = some c) (hname : (fn.name == "runtime.NumGoroutine") = false) (hN : decide (args.length ≤ fn.ntmps) = true) (hc : codeOK fn.ntmps c = true) (hk : objs0.length ≤ objs1.length)
    (h : eC P fn.ntmps c (RetX P fn.results.toList objs0.length r objs1) (SS.of (argList args 0) (objList objs0 0) objs0.length)) : CallsX P f args objs0 r objs1 := by
  have hN' := of_decide_eq_true hN
  refine ⟨⟨fn, hf, hname, by rw [hb]; rfl⟩, hk, fun w vals ok mu hin hlen hargs => ?_⟩
  refine calls_of_wp hf hb ?_
  have hlook : ∀ o ob, (SS.of (argList args 0) (objList objs0 0) objs0.length).objs o = some ob → objs0[o]? = some ob := by
    intro o ob h
    have h : lookO (objList objs0 0) o = some ob := h
    rwa [look_objs, if_pos (Nat.zero_le _), Nat.sub_zero] at h
  have hmo : ∀ fr b, ok fr b → okOf ⟨w, mu⟩ ok (SS.of (argList args 0) (objList objs0 0) objs0.length) mu w fr b := fun fr b h => ⟨Or.inl h, (hin.ok fr b h).1, fun o ob cc _ => (hin.ok fr b h).2 o cc⟩
  have hinv : Inv ⟨w, mu⟩ ok fn.ntmps (SS.of (argList args 0) (objList objs0 0) objs0.length) { tmps := vals ++ Array.replicate (fn.ntmps - vals.size) undef, defers := [] } w := by
    refine ⟨Bel.refl _ _, by simp; omega, rfl, mu, fun t => ?_, fun o ob ho => ?_, fun o o' ob ob' b c c' _ _ => hin.inj o o' b c c', fun o ho => ⟨?_, hin.none o ho⟩, fun o p h => h⟩
    · show RT w mu _ _ (lookT (argList args 0) t)
      rw [look_args, if_pos (Nat.zero_le _), Nat.sub_zero]
      cases hx : args[t]? with
      | none => exact RT.any _
      | some x =>
        have htl := (List.getElem?_eq_some_iff.1 hx).1
        have e : (vals ++ Array.replicate (fn.ntmps - vals.size) undef).getD t undef = vals.getD t undef := by
          simp only [Array.getD_eq_getD_getElem?]
          rw [Array.getElem?_append_left (by omega)]
        rw [e]
        exact RV.mono hmo (fun _ _ _ => rfl) (fun _ _ h => h) (hargs t x hx)
    · obtain ⟨b, cur, k1, k2, k3, k4⟩ := hin.objs o ob (hlook o ob ho)
      refine ⟨b, cur, k1, Or.inr ⟨o, _, k1⟩, k2, k3, fun j s hj => ?_⟩
      obtain ⟨u, hu, hr⟩ := k4 j s hj
      exact ⟨u, hu, R1.mono hmo (fun _ _ _ => rfl) (fun _ _ h => h) hr⟩
    · have ho' : objs0.length ≤ o := ho
      show lookO (objList objs0 0) o = none
      rw [look_objs, if_pos (Nat.zero_le _), Nat.sub_zero]
      exact List.getElem?_eq_none ho'
  refine Code.wp_mono ?_ (sw_mono (eC_sound c _ _ hc h) (fun _ _ h => h) ⟨w, mu⟩ ok _ w hinv)
  rintro e a' w' ⟨σ, ⟨he, F, M, ⟨hMn, hMk, hMl⟩, hres, hout⟩, hi⟩
  have hi2 : Inv ⟨w, mu⟩ ok fn.ntmps (σ.fzF F) a' w' := hi.fzF F
  obtain ⟨mu1, him⟩ := hi2.im
  obtain ⟨ys, hys, hsub⟩ := onO_elim hres
  obtain ⟨v, hv, hrv⟩ := run_resultsX (P := P) him hys
  have hk0 : objs0.length ≤ objs1.length := hk
  -- the names of the contract
  have hnmM : ∀ o, objs0.length ≤ o → o < objs1.length → ∃ h : o - objs0.length < M.length, nmO objs0.length σ.n M o = M[o - objs0.length] := fun o h1 h2 =>
    ⟨by omega, by simp only [nmO]; rw [if_neg (by omega), List.getElem?_eq_getElem (by omega)]⟩
  have hnml : ∀ o, o < objs0.length → nmO objs0.length σ.n M o = o := fun o h => by simp [h]
  have hinjn : ∀ o o', o < objs1.length → o' < objs1.length → nmO objs0.length σ.n M o = nmO objs0.length σ.n M o' → o = o' := by
    intro o o' h1 h2 e
    by_cases g1 : o < objs0.length <;> by_cases g2 : o' < objs0.length
    · rwa [hnml o g1, hnml o' g2] at e
    · obtain ⟨q, e'⟩ := hnmM o' (by omega) h2
      rw [hnml o g1, e'] at e
      have := (hMk _ (List.getElem_mem q)).1; omega
    · obtain ⟨q, e'⟩ := hnmM o (by omega) h1
      rw [hnml o' g2, e'] at e
      have := (hMk _ (List.getElem_mem q)).1; omega
    · obtain ⟨q, e1⟩ := hnmM o (by omega) h1
      obtain ⟨q', e2⟩ := hnmM o' (by omega) h2
      rw [e1, e2] at e
      have := (List.getElem_inj hMn).1 e
      omega
  let mu' : Nat → Option (Nat × Nat) := fun o => if o < objs1.length then mu1 (nmO objs0.length σ.n M o) else none
  have hmup : ∀ o, o < objs1.length → mu' o = mu1 (nmO objs0.length σ.n M o) := fun o h => if_pos h
  have hback : ∀ o p, mu1 (nmO objs0.length σ.n M o) = some p → mu' o = some p := by
    intro o p hp
    by_cases e : o < objs1.length
    · rw [hmup o e]; exact hp
    · exfalso
      have : nmO objs0.length σ.n M o = σ.n + o := by simp only [nmO]; rw [if_neg (by omega), List.getElem?_eq_none (by omega)]
      rw [this, (him.m.fresh _ (by rw [fzF_n]; omega)).2] at hp
      cases hp
  have hlive : ∀ o ob, objs1[o]? = some (some ob) → o < objs1.length ∧ ∃ ob', (σ.fzF F).objs (nmO objs0.length σ.n M o) = some ob' ∧ ob'.ty = ob.ty ∧ subL ob'.cells (ob.cells.map (S1.ren (nmO objs0.length σ.n M))) := fun o ob h =>
    ⟨(List.getElem?_eq_some_iff.1 h).1, by have := outX_spec hout o ob h; rwa [Nat.zero_add] at this⟩
  have hok : ∀ fr b, okOf ⟨w, mu⟩ ok (σ.fzF F) mu1 w' fr b → okX w ok mu w' mu' objs1 fr b := by
    intro fr b ⟨h1, h2, h3⟩
    refine ⟨h1, h2, fun o ob cc ho hm => ?_⟩
    obtain ⟨l, ob', g, _⟩ := hlive o ob ho
    rw [hmup o l] at hm
    exact h3 _ ob' cc g hm
  have hsame : ∀ o, o < objs0.length → mu' o = mu o := fun o ho => by
    obtain ⟨b, cur, k1, _⟩ := hin.objs o objs0[o] (List.getElem?_eq_getElem ho)
    rw [hmup o (by omega), hnml o ho, him.m.lent o _ k1, k1]
  have fin : a'.defers = [] ∧ ∃ v, (results fn a'.tmps).run P w' = .ok v w' ∧ ∃ v' mu', Ending.returned v = .returned v' ∧ LentOut w ok mu objs0.length w' mu' objs1 ∧ RT w' mu' (okX w ok mu w' mu' objs1) v' r := by
    refine ⟨him.defers, v, hv, v, mu', rfl, ⟨hsame, fun o ho => if_neg (by omega), fun o o' ob ob' b c c' h1 h2 h3 h4 => ?_, fun o ob ho => ?_, fun o ob b cc ho hm => ?_, him.below⟩, ?_⟩
    · obtain ⟨l1, x1, g1, _⟩ := hlive o ob h1
      obtain ⟨l2, x2, g2, _⟩ := hlive o' ob' h2
      rw [hmup o l1] at h3
      rw [hmup o' l2] at h4
      exact hinjn o o' l1 l2 (him.m.inj _ _ x1 x2 b c c' g1 g2 h3 h4)
    · obtain ⟨l, ob', g1, g2, g3⟩ := hlive o ob ho
      obtain ⟨b, cur, k1, _, k3, k4, k5⟩ := him.m.objs _ ob' g1
      obtain ⟨s1, s2⟩ := subL_spec g3
      refine ⟨b, cur, by rw [hmup o l]; exact k1, by rw [← g2]; exact k3, by simpa [s1] using k4, fun j s hj => ?_⟩
      obtain ⟨s', hs', hsb⟩ := s2 j (s.ren (nmO objs0.length σ.n M)) (by simp [hj])
      obtain ⟨u, hu, hr⟩ := k5 j s' hs'
      exact ⟨u, hu, R1.mono hok (fun _ _ _ => rfl) (fun _ _ h => h) (R1.unren hback (R1.sub hr hsb))⟩
    · obtain ⟨l, ob', g1, _⟩ := hlive o ob ho
      obtain ⟨b', cur, k1, k2, _⟩ := him.m.objs _ ob' g1
      rw [hmup o l, k1] at hm
      obtain ⟨rfl, _⟩ := Prod.mk.inj (Option.some.inj hm)
      exact k2
    · exact RT.mono hok (fun _ _ _ => rfl) (fun _ _ h => h) (RT.unren hback (RT.sub hrv hsub))
  rcases he with rfl | rfl
  · exact fin
  · exact fin
end
end Go.Proofs.Ytockjmmogkhepaa.Sh

/- The logic of shadows, twenty-first part: a state in between, at which ways meet. -/
namespace Go.Proofs.Ytockjmmogkhepaa.Sh
open Go Go.RowKit

section
variable {P : Program} {N : Nat} {σ : SS} {Q : Exit → SS → Prop}

/-- The state is one of a family. -/
def Cut {Y : Type} (mid : Y → SS) (σ : SS) (_t : Tok mid := ⟨⟩) : Prop := ∃ y, Le σ (mid y)
theorem Cut.by {Y : Type} {mid : Y → SS} {t : Tok mid} (y : Y) (h : Le σ (mid y)) : Cut mid σ t := ⟨y, h⟩

def cutQ {Y : Type} (mid : Y → SS) (R : Exit → SS → Prop) (_t : Tok mid := ⟨⟩) (_t2 : Tok R := ⟨⟩) : Exit → SS → Prop
  | .normal, σ => Cut mid σ
  | e, σ => R e σ
@[simp] theorem cutQ_normal {Y : Type} (mid : Y → SS) (R : Exit → SS → Prop) (t : Tok mid) (t2 : Tok R) : cutQ mid R t t2 .normal σ = Cut mid σ := rfl
@[simp] theorem cutQ_ret {Y : Type} (mid : Y → SS) (R : Exit → SS → Prop) (t : Tok mid) (t2 : Tok R) : cutQ mid R t t2 .ret σ = R .ret σ := rfl
@[simp] theorem cutQ_exit {Y : Type} (mid : Y → SS) (R : Exit → SS → Prop) (t : Tok mid) (t2 : Tok R) (j : Nat) : cutQ mid R t t2 (.exit j) σ = R (.exit j) σ := rfl

theorem sw_mono_le {Q' : Exit → SS → Prop} {c : Code} (h : sw P N c Q σ) (k : ∀ e σ', Q e σ' → ∃ σ'', Le σ' σ'' ∧ Q' e σ'') : sw P N c Q' σ :=
  fun w0 ok0 a w hi => wp_mono (h w0 ok0 a w hi) fun e _ _ ⟨σ', h1, h2⟩ => by
    obtain ⟨σ'', h3, h4⟩ := k e σ' h1
    exact ⟨σ'', h4, h3 _ _ _ _ _ h2⟩

theorem cutQ_to {Y : Type} {mid : Y → SS} {R : Exit → SS → Prop} (k : ∀ y, R .normal (mid y)) : ∀ e σ', cutQ mid R ⟨⟩ ⟨⟩ e σ' → ∃ σ'', Le σ' σ'' ∧ R e σ'' := by
  intro e σ' h
  cases e with
  | normal => obtain ⟨y, hy⟩ := h; exact ⟨_, hy, k y⟩
  | exit => exact ⟨_, Le.refl _, h⟩
  | goto => exact ⟨_, Le.refl _, h⟩
  | ret => exact ⟨_, Le.refl _, h⟩
  | panic => exact ⟨_, Le.refl _, h⟩
  | outgrown => exact ⟨_, Le.refl _, h⟩

/-- Behind a block all ways meet in a family of states. -/
theorem sw_cut {Y : Type} {c : Code} {id : Nat} {R : Exit → SS → Prop} (mid : Y → SS) (h : holdP (sw P N c (blockQ id (cutQ mid R)) σ)) (k : ∀ y, R .normal (mid y)) : holdP (sw P N c (blockQ id R) σ) := by
  refine sw_mono_le h fun e σ' hq => ?_
  cases e with
  | normal => exact cutQ_to k .normal σ' hq
  | exit j =>
    have hq : (if j = id then cutQ mid R ⟨⟩ ⟨⟩ .normal σ' else cutQ mid R ⟨⟩ ⟨⟩ (.exit j) σ') := hq
    show ∃ σ'', Le σ' σ'' ∧ (if j = id then R .normal σ'' else R (.exit j) σ'')
    split at hq
    · rename_i e; simp only [if_pos e]; exact cutQ_to k .normal σ' hq
    · rename_i e; simp only [if_neg e]; exact ⟨_, Le.refl _, hq⟩
  | goto => exact ⟨_, Le.refl _, hq⟩
  | ret => exact ⟨_, Le.refl _, hq⟩
  | panic => exact ⟨_, Le.refl _, hq⟩
  | outgrown => exact ⟨_, Le.refl _, hq⟩
end
end Go.Proofs.Ytockjmmogkhepaa.Sh

/- The logic of shadows, twenty-second part: rows of cells in one object. -/
namespace Go.Proofs.Ytockjmmogkhepaa.Sh
open Go Go.RowKit

/-- A form of rows: each has so many cells, and leads to no object. -/
class RowF {α : Type} (e : outParam Nat) (f : α → List S1) : Prop where
  len : ∀ x, (f x).length = e
  cl : ∀ x, ∀ s ∈ f x, s.closed = true

/-- The cells of rows, one behind the other. -/
def flat {α : Type} (f : α → List S1) (l : List α) : List S1 := (l.map f).flatten

section
variable {α : Type}

theorem flat_nil {f : α → List S1} : flat f [] = [] := rfl
theorem flat_cons {e : Nat} {f : α → List S1} [RowF e f] (x : α) (l : List α) : flat f (x :: l) = f x ++ flat f l := by simp [flat]
theorem flat_snoc {e : Nat} {f : α → List S1} [RowF e f] (x : α) (l : List α) : flat f (l ++ [x]) = flat f l ++ f x := by simp [flat]

@[simp] theorem flat_len {e : Nat} {f : α → List S1} [RowF e f] (l : List α) : (flat f l).length = l.length * e := by
  induction l with
  | nil => simp [flat]
  | cons x l ih => rw [flat_cons, List.length_append, ih, RowF.len (f := f), List.length_cons, Nat.add_mul, Nat.one_mul, Nat.add_comm]

theorem flat_closed {e : Nat} {f : α → List S1} [RowF e f] (l : List α) : ∀ s ∈ flat f l, s.closed = true := by
  intro s hs
  simp only [flat, List.mem_flatten, List.mem_map] at hs
  obtain ⟨r, ⟨x, _, rfl⟩, hs⟩ := hs
  exact RowF.cl (f := f) x s hs

@[simp] theorem ren_flat {e : Nat} {f : α → List S1} [RowF e f] (ρ : Nat → Nat) (l : List α) : (flat f l).map (S1.ren ρ) = flat f l := ren_closed ρ _ (flat_closed l)
theorem map_closed (g : S1 → S1) (hg : ∀ s : S1, s.closed = true → g s = s) (l : List S1) (h : ∀ s ∈ l, s.closed = true) : l.map g = l :=
  (List.map_congr_left (fun s hs => hg s (h s hs))).trans (List.map_id l)
@[simp] theorem close_flat {e : Nat} {f : α → List S1} [RowF e f] (l : List α) : (flat f l).map S1.close = flat f l := map_closed _ (fun s h => by cases s <;> first | rfl | cases h) _ (flat_closed l)
@[simp] theorem frz_flat {e : Nat} {f : α → List S1} [RowF e f] (o : Nat) (cs : List S1) (l : List α) : (flat f l).map (S1.frz o cs) = flat f l := map_closed _ (fun s h => by cases s <;> first | rfl | cases h) _ (flat_closed l)

theorem flat_drop {e : Nat} {f : α → List S1} [RowF e f] (l : List α) (i : Nat) : (flat f l).drop (i * e) = flat f (l.drop i) := by
  induction i generalizing l with
  | zero => simp
  | succ i ih =>
    cases l with
    | nil => simp [flat]
    | cons x l =>
      rw [flat_cons, List.drop_succ_cons, ← ih l, Nat.add_mul, Nat.one_mul, Nat.add_comm, ← List.drop_drop]
      congr 1
      exact List.drop_left' (RowF.len (f := f) x)

theorem flat_row {e : Nat} {f : α → List S1} [RowF e f] (l : List α) (i : Nat) (h : i < l.length) : ((flat f l).drop (i * e)).take e = f l[i] := by
  rw [flat_drop, List.drop_eq_getElem_cons h, flat_cons]
  exact List.take_left' (RowF.len (f := f) _)

@[simp] theorem rowsOf_flat {e : Nat} {f : α → List S1} [RowF e f] (l : List α) (n : Nat) (h : n = l.length) : rowsOf (flat f l) 0 e n = l.map f := by
  subst h
  unfold rowsOf
  apply List.ext_getElem
  · simp
  · intro i h1 h2
    simp at h1
    simp only [List.getElem_map, List.getElem_range, Nat.zero_add]
    exact flat_row l i h1

theorem flat_set {e : Nat} {f : α → List S1} [RowF e f] (l : List α) (i : Nat) (x : α) (h : i < l.length) : flat f (l.set i x) = (flat f l).take (i * e) ++ (f x ++ (flat f l).drop (i * e + e)) := by
  have ht : (flat f l).take (i * e) = flat f (l.take i) := by
    have e1 : flat f l = flat f (l.take i) ++ flat f (l.drop i) := by
      conv => lhs; rw [← List.take_append_drop i l]
      simp only [flat, List.map_append, List.flatten_append]
    rw [e1]
    exact List.take_left' (by rw [flat_len, List.length_take, Nat.min_eq_left (by omega)])
  have hd : (flat f l).drop (i * e + e) = flat f (l.drop (i + 1)) := by
    rw [show i * e + e = (i + 1) * e by rw [Nat.add_mul, Nat.one_mul], flat_drop]
  rw [ht, hd, ← flat_cons]
  rw [List.set_eq_take_append_cons_drop, if_pos h]
  simp [flat]

/-- Cells are written over others. -/
theorem putL_eq : ∀ (r cs : List S1) (off : Nat), off + r.length ≤ cs.length → putL cs off r = cs.take off ++ (r ++ cs.drop (off + r.length))
  | [], cs, off, _ => by simp [putL]
  | s :: r, cs, off, h => by
    simp only [List.length_cons] at h
    simp only [putL]
    rw [putL_eq r _ (off + 1) (by simp; omega)]
    rw [List.take_set, List.drop_set, if_pos (by omega), List.length_cons, List.take_add_one]
    have : (List.take off cs ++ cs[off]?.toList).set off s = List.take off cs ++ [s] := by
      rw [List.getElem?_eq_getElem (by omega)]
      simp only [Option.toList]
      rw [List.set_append_right _ _ (by rw [List.length_take]; omega)]
      rw [List.length_take, Nat.min_eq_left (by omega), Nat.sub_self]
      rfl
    rw [this, List.append_assoc, show off + 1 + r.length = off + (r.length + 1) by omega]
    rfl

theorem putL_flat {e : Nat} {f : α → List S1} [RowF e f] (l : List α) (i : Nat) (x : α) (h : i < l.length) : putL (flat f l) (i * e) (f x) = flat f (l.set i x) := by
  have hl : (i + 1) * e ≤ l.length * e := Nat.mul_le_mul_right e h
  rw [Nat.add_mul, Nat.one_mul] at hl
  rw [flat_set l i x h, putL_eq _ _ _ (by rw [flat_len, RowF.len (f := f)]; exact hl), RowF.len (f := f)]

theorem set3_flat {f : α → List S1} [RowF 3 f] (l : List α) (i : Nat) (x : α) {a b c : S1} (hx : f x = [a, b, c]) (h : i < l.length) : (((flat f l).set (i * 3) a).set (i * 3 + 1) b).set (i * 3 + 1 + 1) c = flat f (l.set i x) := by
  rw [← putL_flat l i x h, hx]; rfl
end
end Go.Proofs.Ytockjmmogkhepaa.Sh

/- The logic of shadows, twenty-third part: a call that only reads an object of one's own. -/
namespace Go.Proofs.Ytockjmmogkhepaa.Sh
open Go Go.RowKit

/-- All memory that it leads to bears the label true. -/
inductive LabT : S1 → Prop where
  | any : LabT .any
  | int (k : IntKind) (n : Int) : LabT (.int k n)
  | bool (b : Bool) : LabT (.bool b)
  | str (s : ByteArray) : LabT (.str s)
  | val (v : Value) : LabT (.val v)
  | nils : LabT .nils
  | sl (e : Nat) (rows : List (List S1)) (h : ∀ row ∈ rows, ∀ s ∈ row, LabT s) : LabT (.sl true e rows)
  | rp (cs : List S1) (h : ∀ s ∈ cs, LabT s) : LabT (.rp true cs)

def SV.LabT : SV → Prop
  | .one s => Sh.LabT s
  | .agg l => ∀ s ∈ l, Sh.LabT s
def ST.LabT : ST → Prop
  | .v x => x.LabT
  | .tup l => ∀ x ∈ l, SV.LabT x

section
variable {w w' : World} {mu mu' : Nat → Option (Nat × Nat)} {ok ok' : Bool → Nat → Prop}

theorem R0.lab (hok : ∀ b, ok true b → ok' true b) : ∀ {v s}, R0 w ok v s → LabT s → R0 w ok' v s := by
  intro v s h
  induction h with
  | any v => intro _; exact .any v
  | int k n => intro _; exact .int k n
  | bool b => intro _; exact .bool b
  | str s => intro _; exact .str s
  | val v h => intro _; exact .val v h
  | nils => intro _; exact .nils
  | nilsl fr e => intro _; exact .nilsl fr e
  | emp fr e A cap => intro _; exact .emp fr e A cap
  | sl fr e rows b off cap f hcap hlen hb hrow hc hr ih =>
    intro hl
    cases hl with
    | sl _ _ hl =>
      exact .sl true e rows b off cap f hcap hlen (fun h => hok b (hb h)) hrow hc (fun i row hi j s hj => ih i row hi j s hj (hl row (List.mem_of_getElem? hi) s (List.mem_of_getElem? hj)))
  | rp fr cs b off f hb hc hr ih =>
    intro hl
    cases hl with
    | rp _ hl => exact .rp true cs b off f (hok b hb) hc (fun j s hj => ih j s hj (hl s (List.mem_of_getElem? hj)))

theorem LabT.closed {s : S1} (h : LabT s) : s.closed = true := by cases h <;> rfl

theorem R1.lab (hok : ∀ b, ok true b → ok' true b) {v : Value} {s : S1} (h : R1 w mu ok v s) (hl : LabT s) : R1 w mu' ok' v s := .c (R0.lab hok (h.c0 hl.closed) hl)
theorem RV.lab (hok : ∀ b, ok true b → ok' true b) {v : Value} : ∀ {x : SV}, RV w mu ok v x → x.LabT → RV w mu' ok' v x
  | .one _, h, hl => R1.lab hok h hl
  | .agg l, ⟨arr, h1, h2, h3⟩, hl => ⟨arr, h1, h2, fun j s hj => by
      obtain ⟨u, hu, hr⟩ := h3 j s hj
      exact ⟨u, hu, R1.lab hok hr (hl s (List.mem_of_getElem? hj))⟩⟩
theorem RT.lab (hok : ∀ b, ok true b → ok' true b) {v : Value} : ∀ {x : ST}, RT w mu ok v x → x.LabT → RT w mu' ok' v x
  | .v _, h, hl => RV.lab hok h hl
  | .tup l, ⟨arr, h1, h2, h3⟩, hl => ⟨arr, h1, h2, fun j s hj => by
      obtain ⟨u, hu, hr⟩ := h3 j s hj
      exact ⟨u, hu, RV.lab hok hr (hl s (List.mem_of_getElem? hj))⟩⟩

/-- What an object of one's own looks like to a reader. -/
def S1.peek (objs : List SObj) : S1 → S1
  | .ms o off len e full => match objs[o]? with
    | some ob => if off + len * e ≤ ob.cells.length then .sl false e (rowsOf (ob.cells.map S1.close) off e len) else .any
    | none => .any
  | .mp _ _ => .any
  | s => s
def SV.peek (objs : List SObj) : SV → SV
  | .one s => .one (s.peek objs)
  | .agg l => .agg (l.map (S1.peek objs))

theorem CallsX.peek {P : Program} {f : Nat} {ys : List SV} {objs : List SObj} {r : ST} (h : CallsS P f (ys.map (SV.peek objs)) r) (hr : r.LabT) : CallsX P f ys objs r (objs.map some) := by
  obtain ⟨hf, hcall⟩ := h
  refine ⟨hf, by simp, fun w vals ok mu hin hlen hargs => ?_⟩
  have hlt : ∀ o b cc, mu o = some (b, cc) → b < w.heap.size := fun o b cc ho => by
    by_cases hol : o < objs.length
    · obtain ⟨b', cur, h1, h2, _⟩ := hin.objs o objs[o] (List.getElem?_eq_getElem hol)
      rw [ho] at h1
      obtain ⟨rfl, _⟩ := Prod.mk.inj (Option.some.inj h1)
      exact (Array.getElem?_eq_some_iff.1 h2).1
    · rw [hin.none o (by omega)] at ho; cases ho
  let ok2 : Bool → Nat → Prop := fun fr b => ok fr b ∨ (fr = false ∧ ∃ o cc, mu o = some (b, cc))
  have hmono : ∀ fr b, ok fr b → ok2 fr b := fun fr b h => Or.inl h
  have one : ∀ (v : Value) (s : S1), R1 w mu ok v s → R1 w mu0 ok2 v (s.peek objs) := by
    intro v s hs
    cases hs with
    | c h =>
      have : s.peek objs = s := by cases h <;> rfl
      rw [this]
      exact .c (h.mono hmono (fun _ _ _ => rfl))
    | mp o off b cc h1 => exact .c (.any _)
    | ms o off len e full b cc cap off' h1 h2 h3 h4 h5 h6 =>
      simp only [S1.peek]
      split
      · rename_i ob ho
        split
        · rename_i hle
          obtain ⟨b', cur, k1, k2, k3, k4⟩ := hin.objs o ob ho
          rw [h1] at k1
          obtain ⟨rfl, rfl⟩ := Prod.mk.inj (Option.some.inj k1)
          have hrl : (rowsOf (ob.cells.map S1.close) off e len).length = len := by simp [rowsOf]
          by_cases h0 : len = 0
          · subst h0
            have : rowsOf (ob.cells.map S1.close) off e 0 = [] := rfl
            rw [this]
            exact .c (.emp _ _ _ _)
          · have hoff := h6 (Or.inl h0)
            subst hoff
            have hrow : ∀ (i : Nat) (row : List S1), (rowsOf (ob.cells.map S1.close) off' e len)[i]? = some row → i < len ∧ row = ((ob.cells.map S1.close).drop (off' + i * e)).take e := by
              intro i row hi
              simp only [rowsOf, List.getElem?_map, Option.map_eq_some_iff] at hi
              obtain ⟨i', hi', rfl⟩ := hi
              obtain ⟨hlt', hi'⟩ := List.getElem?_eq_some_iff.1 hi'
              simp at hi' hlt'
              subst hi'
              exact ⟨hlt', rfl⟩
            have hcell : ∀ (i : Nat) (row : List S1), (rowsOf (ob.cells.map S1.close) off' e len)[i]? = some row → ∀ (j : Nat) (s : S1), row[j]? = some s → ∃ u, cur[off' + (i * e + j)]? = some u ∧ R0 w ok2 u s := by
              intro i row hi j s hj
              obtain ⟨g1, rfl⟩ := hrow i row hi
              rw [List.getElem?_take] at hj
              split at hj
              · rw [List.getElem?_drop, List.getElem?_map, Option.map_eq_some_iff] at hj
                obtain ⟨s', hj, rfl⟩ := hj
                obtain ⟨u, hu, hr⟩ := k4 _ s' hj
                exact ⟨u, by rw [← Nat.add_assoc]; exact hu, (R1.close hr).mono hmono (fun _ _ _ => rfl)⟩
              · cases hj
            have key := R0.sl (w := w) (ok := ok2) false e (rowsOf (ob.cells.map S1.close) off' e len) b off' cap (fun i j => cur[off' + (i * e + j)]?.getD undef) (by rw [hrl]; exact h2) (by rw [hrl]; exact h3) (fun _ => Or.inr ⟨rfl, o, cur.size, h1⟩)
              (fun i row hi => by
                obtain ⟨g1, rfl⟩ := hrow i row hi
                rw [List.length_take, List.length_drop, List.length_map]
                have : (i + 1) * e ≤ len * e := Nat.mul_le_mul_right e g1
                rw [Nat.add_mul, Nat.one_mul] at this
                omega)
              (fun i row hi j s hj => by
                obtain ⟨u, hu, _⟩ := hcell i row hi j s hj
                rw [cell_of_row w b _ cur ob.ty (0, 0) k2, hu]; rfl)
              (fun i row hi j s hj => by
                obtain ⟨u, hu, hr⟩ := hcell i row hi j s hj
                rw [hu]; exact hr)
            rw [hrl] at key
            exact .c key
        · exact .c (.any _)
      · exact .c (.any _)
  have hargs2 : ∀ (i : Nat) (x : SV), (ys.map (SV.peek objs))[i]? = some x → RV w mu0 ok2 (vals.getD i undef) x := by
    intro i x hi
    rw [List.getElem?_map, Option.map_eq_some_iff] at hi
    obtain ⟨y, hi, rfl⟩ := hi
    have h1 := hargs i y hi
    cases y with
    | one s => exact one _ _ h1
    | agg l =>
      obtain ⟨arr, g1, g2, g3⟩ := h1
      refine ⟨arr, g1, by simpa using g2, fun j s hj => ?_⟩
      rw [List.getElem?_map, Option.map_eq_some_iff] at hj
      obtain ⟨s', hj, rfl⟩ := hj
      obtain ⟨u, hu, hr⟩ := g3 j s' hj
      exact ⟨u, hu, one _ _ hr⟩
  refine (hcall w vals ok2 (fun fr b h => ?_) (by simpa using hlen) hargs2).mono ?_
  · rcases h with h | ⟨_, o, cc, h⟩
    · exact (hin.ok fr b h).1
    · exact hlt o b cc h
  · rintro e w' ⟨v, rfl, hv, hb⟩
    have hobj : ∀ (o : Nat) (ob : SObj), (objs.map some)[o]? = some (some ob) → objs[o]? = some ob := fun o ob h => by
      rw [List.getElem?_map, Option.map_eq_some_iff] at h
      obtain ⟨ob', h, e⟩ := h
      cases e; exact h
    have hokX : ∀ fr b, ok fr b → okX w ok mu w' mu (objs.map some) fr b := fun fr b h =>
      ⟨Or.inl h, Nat.lt_of_lt_of_le (hin.ok fr b h).1 hb.size, fun o ob cc _ hm => (hin.ok fr b h).2 o cc hm⟩
    refine ⟨v, mu, rfl, ⟨fun _ _ => rfl, fun o ho => hin.none o (by simpa using ho), fun o o' ob ob' b c c' _ _ => hin.inj o o' b c c', fun o ob ho => ?_, fun o ob b cc _ hm => Or.inr ⟨o, cc, hm⟩, ?_⟩, ?_⟩
    · obtain ⟨b, cur, k1, k2, k3, k4⟩ := hin.objs o ob (hobj o ob ho)
      refine ⟨b, cur, k1, (hb.block b (hlt o b _ k1)).trans k2, k3, fun j s hj => ?_⟩
      obtain ⟨u, hu, hr⟩ := k4 j s hj
      exact ⟨u, hu, R1.mono hokX (fun fr b h => hb.block b (hin.ok fr b h).1) (fun _ _ h => h) hr⟩
    · exact ⟨hb.os, hb.tape, hb.output, hb.size, fun k hk _ => hb.block k hk⟩
    · refine RT.lab (fun b h => ?_) hv hr
      obtain ⟨h1, h2⟩ := h
      rcases h1 with (h1 | ⟨h1, _⟩) | h1
      · exact hokX true b h1
      · cases h1
      · exact ⟨Or.inr (Or.inl h1), h2, fun o ob cc _ hm => by have := hlt o b cc hm; omega⟩

theorem LabT.words (l : List (List S1)) (e : Nat) (h : ∀ row ∈ l, ∀ s ∈ row, LabT s) : LabT (.sl true e l) := .sl e l h
theorem LabT.ints (k : IntKind) (l : List Int) : LabT (.sl true 1 (l.map fun x => [S1.int k x])) := .sl _ _ (fun row hr s hs => by
  obtain ⟨x, _, rfl⟩ := List.mem_map.1 hr
  simp at hs; subst hs; exact .int _ _)
end
end Go.Proofs.Ytockjmmogkhepaa.Sh

/- Arguments that are handed in, as data: what they are as shadows. -/
namespace Go.Proofs.Ytockjmmogkhepaa.Sh
open Go Go.RowKit Go.ChangeShapes Go.WideShapes

mutual
/-- The form of a type. -/
inductive Shp where
  | int (k : IntKind)
  | bool
  | str
  | slice (e : Nat) (s : Shp)
  | agg (fs : Shps)
inductive Shps where
  | nil
  | cons (z : Nat) (s : Shp) (r : Shps)
end

mutual
/-- Is it a type's form? -/
def Shp.fits (P : Program) : Shp → Nat → Bool
  | .int k, t => match P.underlying t with | some (.int k') => k == k' | _ => false
  | .bool, t => match P.underlying t with | some .bool => true | _ => false
  | .str, t => match P.underlying t with | some .string => true | _ => false
  | .slice e s, t => match P.underlying t with | some (.slice el) => ((P.cellsOf el == e && e != 0) && P.bytesOf el != 0) && s.fits P el | _ => false
  | .agg fs, t => match P.underlying t with | some (.struct fields) => fs.fits P fields.toList 0 (P.cellsOf t) | _ => false
def Shps.fits (P : Program) : Shps → List Field → Nat → Nat → Bool
  | .nil, [], off, n => off == n
  | .cons z s r, f :: fs, off, n => f.offset == off && P.cellsOf f.type == z && s.fits P f.type && r.fits P fs (off + z) n
  | _, _, _, _ => false
end

section
variable {H : Type}
mutual
/-- The cells of a datum, as shadows. -/
def Shp.cells : Shp → DataW H → List S1
  | .int k, d => match d with | .lit (.int _ n) => [.int k n] | _ => [.any]
  | .bool, d => match d with | .lit (.bool b) => [.bool b] | _ => [.any]
  | .str, d => match d with | .lit (.string b) => [.str ⟨b.toArray⟩] | _ => [.any]
  | .slice e s, d => match d with | .slice elems _ => [.sl true e (elems.map fun x => s.cells x)] | _ => [.sl true e []]
  | .agg fs, d => match d with | .agg parts => fs.cells parts | _ => []
def Shps.cells : Shps → List (DataW H) → List S1
  | .cons _ s r, d :: ds => s.cells d ++ r.cells ds
  | _, _ => []
end

mutual
/-- It is a datum of that form. -/
def Shp.ok : Shp → DataW H → Prop
  | .int k, d => ∃ n, d = .lit (.int k n) ∧ (Lit.int k n).wf = true
  | .bool, d => ∃ b, d = .lit (.bool b)
  | .str, d => ∃ b, d = .lit (.string b) ∧ b.length ≤ 140737488351232
  | .slice e s, d => d = .nil ∨ ∃ elems spare, d = .slice elems spare ∧ elems.length ≤ 140737488351232 ∧ ∀ x ∈ elems, s.ok x ∧ (s.cells x).length = e
  | .agg fs, d => ∃ parts, d = .agg parts ∧ fs.ok parts
def Shps.ok : Shps → List (DataW H) → Prop
  | .nil, ds => ds = []
  | .cons z s r, ds => ∃ d ds', ds = d :: ds' ∧ (s.ok d ∧ (s.cells d).length = z) ∧ r.ok ds'
end

variable {enc : TypeId × Value → H} {P : Program} {w : World}

/-- Cells and what is known of them. -/
def Cells (w : World) (cs : List Value) (l : List S1) : Prop := cs.length = l.length ∧ ∀ (j : Nat) (s : S1), l[j]? = some s → ∃ u, cs[j]? = some u ∧ R0 w (fun _ b => b < w.heap.size) u s

theorem Cells.one {u : Value} {s : S1} (h : R0 w (fun _ b => b < w.heap.size) u s) : Cells w [u] [s] := ⟨rfl, fun j s' hj => by
  cases j with
  | zero => simp at hj; subst hj; exact ⟨u, rfl, h⟩
  | succ j => simp at hj⟩

theorem spot_none {a : Addr} {v : Value} (h : w.cell? a = some v) : a.spot = none ∧ a.block < w.heap.size := by
  unfold World.cell? at h
  split at h
  · rename_i c e f hb
    split at h
    · cases h
    · rename_i hs
      exact ⟨by simpa using hs, (Array.getElem?_eq_some_iff.1 hb).1⟩
  · cases h

theorem Shps.fits_le : ∀ (sh : Shps) {fields : List Field} {off N : Nat}, sh.fits P fields off N = true → off ≤ N
  | .nil, [], off, N, h => by simp [Shps.fits] at h; omega
  | .nil, _ :: _, off, N, h => by simp [Shps.fits] at h
  | .cons z s r, [], off, N, h => by simp [Shps.fits] at h
  | .cons z s r, f :: fs, off, N, h => by
    simp only [Shps.fits, Bool.and_eq_true] at h
    have := Shps.fits_le r h.2
    omega

theorem weightsAll_mem {e : Nat} {d : DataW H} : ∀ {l : List (DataW H)}, d ∈ l → ∀ {n : Nat}, n ∈ d.weights P e → n ∈ DataW.weightsAll P e l
  | d' :: l, hd, n, hn => by
    simp only [DataW.weightsAll, List.mem_append]
    rcases List.mem_cons.1 hd with rfl | hd
    · exact Or.inl hn
    · exact Or.inr (weightsAll_mem hd hn)

mutual
theorem Shp.sound (enc : TypeId × Value → H) {spare : Nat → Bool} : ∀ (sh : Shp) {t fuel : Nat} {cs : List Value} {x : DataW H × List MemPlace}, sh.fits P t = true → (∀ n ∈ x.1.weights P t, n ≤ reachBytes) → DataW.trod enc P w 0 spare true fuel t cs = some x → sh.ok x.1 ∧ Cells w cs (sh.cells x.1)
  | .int k, t, fuel, cs, x, hf, hwt, h => by
    simp only [Shp.fits] at hf
    split at hf
    · rename_i k' hu
      have : k = k' := by simpa using hf
      subst this
      obtain ⟨n, rfl, rfl, hw⟩ := DataW.trod_int hu h
      exact ⟨⟨n, rfl, hw⟩, Cells.one (.int _ _)⟩
    · cases hf
  | .bool, t, fuel, cs, x, hf, hwt, h => by
    simp only [Shp.fits] at hf
    split at hf
    · rename_i hu
      obtain ⟨b, rfl, rfl⟩ := DataW.trod_bool hu h
      exact ⟨⟨b, rfl⟩, Cells.one (.bool _)⟩
    · cases hf
  | .str, t, fuel, cs, x, hf, hwt, h => by
    simp only [Shp.fits] at hf
    split at hf
    · rename_i hu
      obtain ⟨s, rfl, rfl, hs⟩ := DataW.trod_string hu h
      exact ⟨⟨_, rfl, by have := hwt s.data.toList.length (by simp [DataW.weights]); simp only [reachBytes] at this; simpa using this⟩, Cells.one (by simpa [Shp.cells] using R0.str s)⟩
    · cases hf
  | .slice e s, t, fuel, cs, x, hf, hwt, h => by
    simp only [Shp.fits] at hf
    split at hf
    · rename_i el hu
      simp only [Bool.and_eq_true, beq_iff_eq, bne_iff_ne] at hf
      obtain ⟨⟨⟨he, e0⟩, eb⟩, hs⟩ := hf
      rcases Deep.open_slice hu h with ⟨rfl, rfl⟩ | ⟨a, len, cap, m, n, D, Pl, rfl, hb, hl, hm, hmm, rfl, hx⟩
      · exact ⟨Or.inl rfl, Cells.one (.nilsl _ _)⟩
      · have hle : len ≤ m := by rw [hmm]; split <;> omega
        have hlb : len ≤ 140737488351232 := by
          have := hwt ((((List.range len).map D).length + ((List.range (m - len)).map fun j => D (len + j)).length) * P.bytesOf el) (by simp [DataW.weights, hu])
          simp only [List.length_map, List.length_range, reachBytes] at this
          have h2 : len * 1 ≤ (len + (m - len)) * P.bytesOf el := Nat.mul_le_mul (by omega) (by omega)
          omega
        have hww : ∀ i, i < len → ∀ n ∈ (D i).weights P el, n ≤ reachBytes := fun i hi n hn => hwt n (by
          simp only [DataW.weights, hu, List.mem_cons, List.mem_append]
          exact Or.inr (Or.inl (weightsAll_mem (List.mem_map.2 ⟨i, List.mem_range.2 hi, rfl⟩) hn)))
        have hel : ∀ i, i < len → ∃ cs', w.cells? 0 (a.add (i * P.cellsOf el)) (P.cellsOf el) = some cs' ∧ s.ok (D i) ∧ Cells w cs' (s.cells (D i)) := fun i hi => by
          obtain ⟨cs', g1, g2⟩ := hx i (by omega)
          exact ⟨cs', g1, Shp.sound enc s hs (hww i hi) g2⟩
        have hlen : ∀ i, i < len → (s.cells (D i)).length = e := fun i hi => by
          obtain ⟨cs', g1, g2, g3⟩ := hel i hi
          rw [← g3.1, (World.cells?_some g1).2.1, he]
        refine ⟨Or.inr ⟨_, _, rfl, by simpa using hlb, ?_⟩, ?_⟩
        · intro y hy
          obtain ⟨i, hi, rfl⟩ := List.mem_map.1 hy
          have hi' := List.mem_range.1 hi
          obtain ⟨cs', g1, g2, g3⟩ := hel i hi'
          exact ⟨g2, hlen i hi'⟩
        · refine Cells.one ?_
          by_cases h0 : len = 0
          · subst h0
            exact .emp true e a cap
          · · have hcell : ∀ i, i < len → ∀ j, j < e → ∃ u, w.cell? (a.add (i * e + j)) = some u ∧ ∀ s', (s.cells (D i))[j]? = some s' → R0 w (fun _ b => b < w.heap.size) u s' := fun i hi j hj => by
                obtain ⟨cs', g1, g2, g3, g4⟩ := hel i hi
                obtain ⟨k1, k2, k3⟩ := World.cells?_some g1
                have k4 := k3 j (by rw [he]; exact hj)
                rw [he, Deep.add_add, List.getElem?_eq_getElem (by rw [g3, hlen i hi]; exact hj)] at k4
                exact ⟨_, k4, fun s' hs' => by
                  obtain ⟨u, hu1, hu2⟩ := g4 j s' hs'
                  rw [List.getElem?_eq_getElem (by rw [g3, hlen i hi]; exact hj)] at hu1
                  cases hu1; exact hu2⟩
              obtain ⟨u0, hu0, _⟩ := hcell 0 (by omega) 0 (by omega)
              rw [Nat.zero_mul, Nat.zero_add, show a.add 0 = a from rfl] at hu0
              obtain ⟨hsp, hblk⟩ := spot_none hu0
              obtain ⟨b, off, sp⟩ := a
              simp only at hsp
              subst hsp
              have key := R0.sl (w := w) (ok := fun _ b => b < w.heap.size) true e ((List.range len).map fun i => s.cells (D i)) b off cap (fun i j => (w.cell? ⟨b, off + (i * e + j), none⟩).getD undef) (by simp; exact hl) (by simp; omega) (fun _ => hblk)
                (fun i row hr => by
                  simp only [List.getElem?_map, Option.map_eq_some_iff] at hr
                  obtain ⟨i', hi', rfl⟩ := hr
                  obtain ⟨hlt, hi'⟩ := List.getElem?_eq_some_iff.1 hi'
                  simp at hi' hlt
                  subst hi'
                  exact hlen i hlt)
                (fun i row hr j s' hj => by
                  simp only [List.getElem?_map, Option.map_eq_some_iff] at hr
                  obtain ⟨i', hi', rfl⟩ := hr
                  obtain ⟨hlt, hi'⟩ := List.getElem?_eq_some_iff.1 hi'
                  simp at hi' hlt
                  subst hi'
                  have hje := (List.getElem?_eq_some_iff.1 hj).1
                  rw [hlen i hlt] at hje
                  obtain ⟨u, hu, _⟩ := hcell i hlt j hje
                  rw [add_none] at hu
                  rw [hu]; rfl)
                (fun i row hr j s' hj => by
                  simp only [List.getElem?_map, Option.map_eq_some_iff] at hr
                  obtain ⟨i', hi', rfl⟩ := hr
                  obtain ⟨hlt, hi'⟩ := List.getElem?_eq_some_iff.1 hi'
                  simp at hi' hlt
                  subst hi'
                  have hje := (List.getElem?_eq_some_iff.1 hj).1
                  rw [hlen i hlt] at hje
                  obtain ⟨u, hu, hu2⟩ := hcell i hlt j hje
                  rw [add_none] at hu
                  rw [hu]; exact hu2 s' hj)
              simp only [List.length_map, List.length_range] at key
              show R0 w _ _ (S1.sl true e (((List.range len).map D).map fun x => s.cells x))
              rw [List.map_map]
              exact key
    · cases hf
  | .agg fs, t, fuel, cs, x, hf, hwt, h => by
    simp only [Shp.fits] at hf
    split at hf
    · rename_i fields hu
      obtain ⟨xs, n, rfl, rfl, hl, hxl, hx⟩ := DataW.trod_struct hu h
      obtain ⟨g1, g2⟩ := Shps.sound enc fs (off := 0) (xs := xs) (cs := cs) hf (by rw [hxl]; simp) hl (fun n hn => hwt n (by simpa [DataW.weights, hu] using hn)) (fun i f hi => by have := hx i f (by simpa using hi); simpa using this)
      exact ⟨⟨_, rfl, g1⟩, by rw [List.drop_zero] at g2; exact g2⟩
    · cases hf
theorem Shps.sound (enc : TypeId × Value → H) {spare : Nat → Bool} : ∀ (sh : Shps) {fields : List Field} {off N n : Nat} {cs : List Value} {xs : List (DataW H × List MemPlace)}, sh.fits P fields off N = true → xs.length = fields.length → cs.length = N → (∀ n ∈ DataW.weightsEach P (fields.map (·.type)) (xs.map (·.1)), n ≤ reachBytes) →
    (∀ (i : Nat) (f : Field), fields[i]? = some f → DataW.trod enc P w 0 spare true n f.type ((cs.drop f.offset).take (P.cellsOf f.type)) = xs[i]?) → sh.ok (xs.map (·.1)) ∧ Cells w (cs.drop off) (sh.cells (xs.map (·.1)))
  | .nil, fields, off, N, n, cs, xs, hf, hxl, hl, _, hx => by
    cases fields with
    | nil =>
      simp only [Shps.fits, beq_iff_eq] at hf
      have : xs = [] := List.length_eq_zero_iff.1 hxl
      subst this
      refine ⟨rfl, ?_, fun j s hj => by simp [Shps.cells] at hj⟩
      simp [Shps.cells]; omega
    | cons f fs => simp [Shps.fits] at hf
  | .cons z s r, fields, off, N, n, cs, xs, hf, hxl, hl, hwt, hx => by
    cases fields with
    | nil => simp [Shps.fits] at hf
    | cons f fs =>
      simp only [Shps.fits, Bool.and_eq_true, beq_iff_eq] at hf
      obtain ⟨⟨⟨h1, h2⟩, h3⟩, h4⟩ := hf
      cases xs with
      | nil => simp at hxl
      | cons x xs =>
        have g0 := hx 0 f rfl
        simp only [List.getElem?_cons_zero] at g0
        simp only [List.map_cons, DataW.weightsEach, List.mem_append] at hwt
        obtain ⟨k1, k2⟩ := Shp.sound enc s h3 (fun n hn => hwt n (Or.inl hn)) g0
        obtain ⟨k3, k4⟩ := Shps.sound enc r (off := off + z) (xs := xs) h4 (by simpa using hxl) hl (fun n hn => hwt n (Or.inr hn)) (fun i f' hi => by have := hx (i + 1) f' (by simpa using hi); simpa using this)
        have hle := Shps.fits_le r h4
        have hz : ((cs.drop f.offset).take (P.cellsOf f.type)).length = z := by rw [List.length_take, List.length_drop, h1, h2]; omega
        have hk : (s.cells x.1).length = z := by rw [← k2.1, hz]
        rw [h1, h2] at k2 hz
        refine ⟨⟨_, _, rfl, ⟨k1, hk⟩, k3⟩, ?_, ?_⟩
        · show (cs.drop off).length = (s.cells x.1 ++ r.cells (xs.map (·.1))).length
          rw [List.length_append, hk, ← k4.1, List.length_drop, List.length_drop]; omega
        · intro j s' hj
          have hj : (s.cells x.1 ++ r.cells (xs.map (·.1)))[j]? = some s' := hj
          by_cases hjz : j < z
          · rw [List.getElem?_append_left (by omega)] at hj
            obtain ⟨u, hu, hr⟩ := k2.2 j s' hj
            rw [List.getElem?_take, if_pos hjz] at hu
            exact ⟨u, hu, hr⟩
          · rw [List.getElem?_append_right (by omega), hk] at hj
            obtain ⟨u, hu, hr⟩ := k4.2 (j - z) s' hj
            rw [List.getElem?_drop] at hu ⊢
            rw [show off + z + (j - z) = off + j by omega] at hu
            exact ⟨u, hu, hr⟩
end
end
end Go.Proofs.Ytockjmmogkhepaa.Sh

/- A law's row, out of its contract over data. -/
namespace Go.Proofs.Ytockjmmogkhepaa.Sh
open Go Go.RowKit Go.ChangeShapes Go.WideShapes

def Shp.sv {H : Type} (sh : Shp) (d : DataW H) : SV := match sh with
  | .agg fs => .agg ((Shp.agg fs).cells d)
  | sh => .one ((sh.cells d).headD .any)

def Shp.fitsAll (P : Program) : List Shp → List Nat → Bool
  | [], [] => true
  | s :: ss, t :: ts => s.fits P t && Shp.fitsAll P ss ts
  | _, _ => false

def Shp.okAll {H : Type} : List Shp → List (DataW H) → Prop
  | [], [] => True
  | s :: ss, d :: ds => s.ok d ∧ Shp.okAll ss ds
  | _, _ => False

def Shp.svAll {H : Type} : List Shp → List (DataW H) → List SV
  | s :: ss, d :: ds => s.sv d :: Shp.svAll ss ds
  | _, _ => []

section
variable {H : Type} {enc : TypeId × Value → H} {P : Program} {w : World}

theorem Shp.sound1 {spare : Nat → Bool} {sh : Shp} {t : Nat} {v : Value} {d : DataW H} {p : List MemPlace} {b0 : Nat} (hf : sh.fits P t = true) (hv : Value.okWide P w .any b0 t v) (hwt : ∀ n ∈ d.weights P t, n ≤ reachBytes) (h : DataW.Trod enc P w 0 spare true t v d p) :
    sh.ok d ∧ RV w mu0 (fun _ b => b < w.heap.size) v (sh.sv d) := by
  obtain ⟨fuel, h⟩ := h
  obtain ⟨h1, h2⟩ := Shp.sound enc sh hf hwt h
  refine ⟨h1, ?_⟩
  have one : ∀ (s : S1) (l : List S1), sh.cells d = s :: l → v.cells = #[v] → RV w mu0 (fun _ b => b < w.heap.size) v (.one ((sh.cells d).headD .any)) := by
    intro s l e ev
    obtain ⟨u, hu, hr⟩ := h2.2 0 s (by rw [e]; rfl)
    rw [ev] at hu
    simp at hu
    subst hu
    rw [e]
    exact .c hr
  cases sh with
  | int k =>
    simp only [Shp.fits] at hf
    split at hf
    · rename_i k' hu
      obtain ⟨n, rfl, hw⟩ := h1
      obtain ⟨m, rfl⟩ := okWide_int hu hv
      exact one _ _ rfl rfl
    · cases hf
  | bool =>
    simp only [Shp.fits] at hf
    split at hf
    · rename_i hu
      obtain ⟨b, rfl⟩ := h1
      obtain ⟨m, rfl⟩ := okWide_bool hu hv
      exact one _ _ rfl rfl
    · cases hf
  | str =>
    simp only [Shp.fits] at hf
    split at hf
    · rename_i hu
      obtain ⟨b, rfl, hb⟩ := h1
      obtain ⟨m, rfl⟩ := okWide_string hu hv
      exact one _ _ rfl rfl
    · cases hf
  | slice e s =>
    simp only [Shp.fits] at hf
    split at hf
    · rename_i el hu
      obtain ⟨a, len, cap, rfl⟩ := okWide_slice hu hv
      rcases h1 with rfl | ⟨elems, sp, rfl, _⟩
      · exact one _ _ rfl rfl
      · exact one _ _ rfl rfl
    · cases hf
  | agg fs =>
    simp only [Shp.fits] at hf
    split at hf
    · rename_i fields hu
      obtain ⟨arr, rfl, _⟩ := okWide_struct hu hv
      refine ⟨arr, rfl, by simpa [Value.cells] using h2.1, fun j s hj => ?_⟩
      obtain ⟨u, hu, hr⟩ := h2.2 j s hj
      exact ⟨u, by simpa [Value.cells] using hu, .c hr⟩
    · cases hf

theorem Shp.soundAll {spare : Nat → Bool} {b0 : Nat} : ∀ {shs : List Shp} {ts : List Nat} {vs : List Value} {ds : List (DataW H)} {p : List MemPlace}, Shp.fitsAll P shs ts = true → (∀ n ∈ DataW.weightsEach P ts ds, n ≤ reachBytes) → DataW.TrodAll enc P w 0 spare true ts vs ds p →
    (∀ (j : Nat) t v, ts[j]? = some t → vs[j]? = some v → Value.okWide P w .any b0 t v) →
    Shp.okAll shs ds ∧ vs.length = (Shp.svAll shs ds).length ∧ ds.length = ts.length ∧ ∀ (i : Nat) (x : SV), (Shp.svAll shs ds)[i]? = some x → ∃ v, vs[i]? = some v ∧ RV w mu0 (fun _ b => b < w.heap.size) v x
  | [], [], vs, ds, p, _, _, h, _ => by
    obtain ⟨rfl, rfl, rfl⟩ := trodAll_nil h
    exact ⟨trivial, rfl, rfl, fun i x hi => by simp [Shp.svAll] at hi⟩
  | [], _ :: _, _, _, _, h, _, _, _ => by simp [Shp.fitsAll] at h
  | _ :: _, [], _, _, _, h, _, _, _ => by simp [Shp.fitsAll] at h
  | s :: shs, t :: ts, vs, ds, p, hf, hwt, h, hv => by
    simp only [Shp.fitsAll, Bool.and_eq_true] at hf
    obtain ⟨v, vs', d, ds', p', q, rfl, rfl, rfl, h1, h2⟩ := trodAll_cons h
    simp only [DataW.weightsEach, List.mem_append] at hwt
    obtain ⟨g1, g2⟩ := Shp.sound1 hf.1 (hv 0 t v rfl rfl) (fun n hn => hwt n (Or.inl hn)) h1
    obtain ⟨k1, k2, k3, k4⟩ := Shp.soundAll hf.2 (fun n hn => hwt n (Or.inr hn)) h2 (fun j t v h1 h2 => hv (j + 1) t v (by simpa using h1) (by simpa using h2))
    refine ⟨⟨g1, k1⟩, by simp [Shp.svAll, k2], by simp [k3], fun i x hi => ?_⟩
    cases i with
    | zero => simp [Shp.svAll] at hi; subst hi; exact ⟨v, rfl, g2⟩
    | succ i => simp [Shp.svAll] at hi; obtain ⟨v', h1, h2⟩ := k4 i x hi; exact ⟨v', by simpa using h1, h2⟩

theorem weightsEach_mem : ∀ {ts ts' : List Nat} {ds ds' : List (DataW H)} {n : Nat}, n ∈ DataW.weightsEach P ts ds → n ∈ DataW.weightsEach P (ts ++ ts') (ds ++ ds')
  | [], _, ds, _, n, h => by simp [DataW.weightsEach] at h
  | _ :: _, _, [], _, n, h => by simp [DataW.weightsEach] at h
  | t :: ts, ts', d :: ds, ds', n, h => by
    simp only [DataW.weightsEach, List.mem_append, List.cons_append] at h ⊢
    rcases h with h | h
    · exact Or.inl h
    · exact Or.inr (weightsEach_mem h)

theorem trodAll_stays (hl : laidOutB P = true) {w' : World} (hb : Below w.heap.size w w') : ∀ {ts : List Nat} {vs : List Value} {ds : List (DataW H)} {p : List MemPlace}, (ts.all fun t => P.readableRec t && decide (t < P.types.size)) = true → DataW.TrodAll enc P w 0 (fun _ => true) true ts vs ds p →
    DataW.TrodAll enc P w' 0 (fun b => decide (b < w.heap.size)) true ts vs ds p
  | [], vs, ds, p, _, h => by
    obtain ⟨rfl, rfl, rfl⟩ := trodAll_nil h
    exact trodAll_mk0
  | t :: ts, vs, ds, p, hr, h => by
    simp only [List.all_cons, Bool.and_eq_true] at hr
    obtain ⟨v, vs', d, ds', p', q, rfl, rfl, rfl, h1, h2⟩ := trodAll_cons h
    have hlt : ∀ x ∈ p', x.block < w.heap.size := by obtain ⟨m, hm⟩ := h1; exact DataW.trod_lt m _ _ _ hm
    exact trodAll_cons_mk (Below.trod hl hr.1.1 (of_decide_eq_true hr.1.2) h1 hb hlt) (trodAll_stays hl hb hr.2 h2)

/-- What a law's contract over data says of its row. -/
theorem law_post {f : Nat} {fn : Func} {s : ChangeSpec} {shs : List Shp} {tb : Nat} (hl : laidOutB P = true) (hr : (fn.params.toList.all fun t => P.readableRec t && decide (t < P.types.size)) = true) (hf : Shp.fitsAll P shs fn.params.toList = true)
    (hres : fn.resultTypes = #[tb]) (hb : P.underlying tb = some .bool) (hv : s.vars = []) (hs : ∀ ds : List (DataW H), ds.length = fn.params.toList.length → s.fn H ds = { results := [.lit (.bool true)], args := ds })
    (hcall : ∀ ds : List (DataW H), Shp.okAll shs ds → CallsS P f (Shp.svAll shs ds) (B true)) {base : Nat} {args : Array Value} {ds gs : List (DataW H)} {before : List MemPlace}
    (hval : ∀ (j : Nat) t v, fn.params[j]? = some t → args[j]? = some v → Value.okWide P w .any base t v) (hW : DataW.Whole enc P fn.params.toList s.vars false w args.toList ds gs before)
    (hsz : (DataW.weightsEach P (fn.params.toList ++ s.plain.varTypes P) (ds ++ gs)).all (· ≤ reachBytes) = true) :
    Calls P f args w fun e w' => ∃ v, e = .returned v ∧ s.post enc P fn false true false false w args v w' := by
  have hW' := hW
  obtain ⟨p, q, hA, hV, rfl, hfz, hnd⟩ := hW
  rw [hv] at hV
  obtain ⟨rfl, rfl⟩ := trodVars_none hV
  have hwt : ∀ n ∈ DataW.weightsEach P fn.params.toList ds, n ≤ reachBytes := fun n hn => by
    have := List.all_eq_true.1 hsz n (weightsEach_mem hn)
    simpa using this
  obtain ⟨k1, k2, k3, k4⟩ := Shp.soundAll hf hwt hA (fun j t v h1 h2 => hval j t v (by simpa using h1) (by simpa using h2))
  refine ((hcall ds k1).2 w args (fun _ b => b < w.heap.size) (fun _ _ h => h) (by simpa using k2) (fun i x hi => ?_)).mono fun e w' ⟨v, he, hr', bel⟩ => ?_
  · obtain ⟨v, hv, hr⟩ := k4 i x hi
    have : args.getD i undef = v := by
      have hv : args[i]? = some v := by simpa using hv
      simp [Array.getD_eq_getD_getElem?, hv]
    rw [this]; exact hr
  · have hvv : v = .bool true := by
      have := R1.c0 (show R1 _ _ _ _ (S1.bool true) from hr') rfl
      cases this; rfl
    subst hvv
    have hres2 : fn.resultTypes.toList = [tb] := by rw [hres]
    have hsz : fn.resultTypes.size = 1 := by rw [hres]; rfl
    refine ⟨_, he, ds, [], p ++ [], [], p, [], hW', ?_, ?_, ?_, ?_, fun h => by cases h⟩
    · rw [List.append_nil, hs ds (by rw [k3]), hres2, hsz]
      exact trodAll_mk1 (shut_bool hb true)
    · rw [List.append_nil, hs ds (by rw [k3])]
      exact trodAll_stays hl bel hr hA
    · rw [List.append_nil, hs ds (by rw [k3]), hv]
      rfl
    · exact bel.frame _
end
end Go.Proofs.Ytockjmmogkhepaa.Sh

/- Data of simple forms. -/
namespace Go.Proofs.Ytockjmmogkhepaa.Sh
open Go Go.RowKit

theorem wf_i64 {n : Int} (h : (Lit.int .i64 n).wf = true) : -9223372036854775808 ≤ n ∧ n < 9223372036854775808 := by
  simp [Lit.wf, IntKind.min, IntKind.max, IntKind.signed, IntKind.bits] at h; omega
theorem wf_u32 {n : Int} (h : (Lit.int .u32 n).wf = true) : 0 ≤ n ∧ n < 4294967296 := by
  simp [Lit.wf, IntKind.min, IntKind.max, IntKind.signed, IntKind.bits] at h; omega

section
variable {H : Type}

theorem okAll_cons {s : Shp} {ss : List Shp} {ds : List (DataW H)} (h : Shp.okAll (s :: ss) ds) : ∃ d ds', ds = d :: ds' ∧ s.ok d ∧ Shp.okAll ss ds' := by
  cases ds with
  | nil => exact h.elim
  | cons d ds => exact ⟨d, ds, rfl, h.1, h.2⟩
theorem okAll_nil {ds : List (DataW H)} (h : Shp.okAll [] ds) : ds = [] := by
  cases ds with
  | nil => rfl
  | cons d ds => exact h.elim
theorem svAll_cons (s : Shp) (ss : List Shp) (d : DataW H) (ds : List (DataW H)) : Shp.svAll (s :: ss) (d :: ds) = s.sv d :: Shp.svAll ss ds := rfl
theorem svAll_nil : Shp.svAll [] ([] : List (DataW H)) = [] := rfl
theorem sv_slice (e : Nat) (s : Shp) (d : DataW H) : (Shp.slice e s).sv d = .one (((Shp.slice e s).cells d).headD .any) := rfl
theorem sv_int (k : IntKind) (d : DataW H) : (Shp.int k).sv d = .one (((Shp.int k).cells d).headD .any) := rfl
theorem sv_bool (d : DataW H) : Shp.bool.sv d = .one ((Shp.bool.cells d).headD .any) := rfl
theorem sv_agg (fs : Shps) (d : DataW H) : (Shp.agg fs).sv d = .agg ((Shp.agg fs).cells d) := rfl

/-- A list of data, each of which has a meaning, has a list of meanings. -/
theorem list_of {α : Type} {s : Shp} {q : α → Prop} {f : α → List S1} (h : ∀ d : DataW H, s.ok d → ∃ x, s.cells d = f x ∧ q x) : ∀ (l : List (DataW H)), (∀ d ∈ l, s.ok d) → ∃ xs : List α, l.map (fun d => s.cells d) = xs.map f ∧ xs.length = l.length ∧ ∀ x ∈ xs, q x
  | [], _ => ⟨[], rfl, rfl, fun x hx => by cases hx⟩
  | d :: l, hd => by
    obtain ⟨x, h1, h2⟩ := h d (hd d (List.mem_cons_self ..))
    obtain ⟨xs, g1, g2, g3⟩ := list_of h l (fun d' hd' => hd d' (List.mem_cons_of_mem _ hd'))
    refine ⟨x :: xs, by simp [h1, g1], by simp [g2], fun y hy => ?_⟩
    rcases List.mem_cons.1 hy with rfl | hy
    · exact h2
    · exact g3 y hy

theorem slice_of_ok {α : Type} {e : Nat} {s : Shp} {q : α → Prop} {f : α → List S1} (h : ∀ d : DataW H, s.ok d → ∃ x, s.cells d = f x ∧ q x) {d : DataW H} (hd : (Shp.slice e s).ok d) : ∃ xs : List α, (Shp.slice e s).cells d = [.sl true e (xs.map f)] ∧ xs.length ≤ 140737488351232 ∧ ∀ x ∈ xs, q x := by
  rcases hd with rfl | ⟨elems, spare, rfl, h1, h2⟩
  · exact ⟨[], rfl, Nat.zero_le _, fun x hx => by cases hx⟩
  · obtain ⟨xs, g1, g2, g3⟩ := list_of h elems (fun d hd => (h2 d hd).1)
    exact ⟨xs, by simp only [Shp.cells, g1], by omega, g3⟩

theorem int_of_ok {k : IntKind} {d : DataW H} (hd : (Shp.int k).ok d) : ∃ n, (Shp.int k).cells d = [.int k n] ∧ (Lit.int k n).wf = true := by
  obtain ⟨n, rfl, hw⟩ := hd
  exact ⟨n, rfl, hw⟩
theorem bool_of_ok {d : DataW H} (hd : Shp.bool.ok d) : ∃ b, Shp.bool.cells d = [.bool b] := by
  obtain ⟨b, rfl⟩ := hd
  exact ⟨b, rfl⟩
theorem ints_of_ok {k : IntKind} {d : DataW H} (hd : (Shp.slice 1 (.int k)).ok d) : ∃ l : List Int, (Shp.slice 1 (.int k)).cells d = [.sl true 1 (l.map fun x => [.int k x])] ∧ l.length ≤ 140737488351232 ∧ ∀ x ∈ l, (Lit.int k x).wf = true :=
  slice_of_ok (f := fun x => [.int k x]) (fun _ h => int_of_ok h) hd
end
end Go.Proofs.Ytockjmmogkhepaa.Sh

