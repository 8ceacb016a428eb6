/- A part of the proof: Sh20, Sh21, Sh22, Sh23, Sh24 -/
import Derived.Test.YtaljbebkooppiaaGreatV6
import Derived.MapKept
set_option linter.unusedSimpArgs false
set_option linter.unusedVariables false
set_option linter.unusedSectionVars false
namespace Go.Proofs.YtaljbebkooppiaaGreat.Sh
open Go Go.RowKit
section
variable {w0 : W0} {w w' : World} {ok0 : Bool → Nat → Prop} {N : Nat} {σ : SS} {a : Act} {mu : Nat → Option (Nat × Nat)} {P : Program}
@[simp] theorem ren_ms (ρ : Nat → Nat) (o off len e : Nat) (full : Bool) : (S1.ms o off len e full).ren ρ = .ms (ρ o) off len e full := rfl
@[simp] theorem ren_mp (ρ : Nat → Nat) (o off : Nat) : (S1.mp o off).ren ρ = .mp (ρ o) off := rfl
@[simp] theorem ren_int (ρ : Nat → Nat) (k : IntKind) (n : Int) : (S1.int k n).ren ρ = .int k n := rfl
@[simp] theorem ren_bool (ρ : Nat → Nat) (b : Bool) : (S1.bool b).ren ρ = .bool b := rfl
@[simp] theorem ren_str (ρ : Nat → Nat) (b : ByteArray) : (S1.str b).ren ρ = .str b := rfl
@[simp] theorem ren_nils (ρ : Nat → Nat) : S1.nils.ren ρ = .nils := rfl
@[simp] theorem ren_any (ρ : Nat → Nat) : S1.any.ren ρ = .any := rfl
@[simp] theorem ren_val (ρ : Nat → Nat) (v : Value) : (S1.val v).ren ρ = .val v := rfl
@[simp] theorem ren_sl (ρ : Nat → Nat) (fr : Bool) (e : Nat) (l : List (List S1)) : (S1.sl fr e l).ren ρ = .sl fr e l := rfl
@[simp] theorem ren_rp (ρ : Nat → Nat) (fr : Bool) (l : List S1) : (S1.rp fr l).ren ρ = .rp fr l := rfl
@[simp] theorem SV.ren_one (ρ : Nat → Nat) (s : S1) : (SV.one s).ren ρ = .one (s.ren ρ) := rfl
@[simp] theorem SV.ren_agg (ρ : Nat → Nat) (l : List S1) : (SV.agg l).ren ρ = .agg (l.map (S1.ren ρ)) := rfl
@[simp] theorem ST.ren_v (ρ : Nat → Nat) (x : SV) : (ST.v x).ren ρ = .v (x.ren ρ) := rfl
@[simp] theorem ST.ren_tup (ρ : Nat → Nat) (l : List SV) : (ST.tup l).ren ρ = .tup (l.map (SV.ren ρ)) := rfl
@[simp] theorem SObj.ren_ty (ρ : Nat → Nat) (ob : SObj) : (ob.ren ρ).ty = ob.ty := rfl
@[simp] theorem SObj.ren_cells (ρ : Nat → Nat) (ob : SObj) : (ob.ren ρ).cells = ob.cells.map (S1.ren ρ) := rfl
theorem ren_closed (ρ : Nat → Nat) (l : List S1) (h : ∀ s ∈ l, s.closed = true) : l.map (S1.ren ρ) = l := by
  refine (List.map_congr_left (fun s hs => ?_)).trans (List.map_id l)
  have := h s hs
  cases s <;> first | rfl | cases this
@[simp] theorem ren_ints (ρ : Nat → Nat) (k : IntKind) {α : Type} (f : α → Int) (l : List α) : (l.map fun x => S1.int k (f x)).map (S1.ren ρ) = l.map fun x => S1.int k (f x) := by simp
@[simp] theorem ren_comp_int (ρ : Nat → Nat) (k : IntKind) {α : Type} (f : α → Int) : (S1.ren ρ ∘ fun x => S1.int k (f x)) = fun x => S1.int k (f x) := rfl
@[simp] theorem ren_comp_int' (ρ : Nat → Nat) (k : IntKind) : S1.ren ρ ∘ S1.int k = S1.int k := rfl
@[simp] theorem ren_comp_int2 (ρ : Nat → Nat) (k : IntKind) : (S1.ren ρ ∘ fun x => S1.int k x) = S1.int k := rfl
@[simp] theorem frz_comp_int (o : Nat) (cs : List S1) (k : IntKind) {α : Type} (f : α → Int) : (S1.frz o cs ∘ fun x => S1.int k (f x)) = fun x => S1.int k (f x) := rfl
@[simp] theorem frz_comp_int' (o : Nat) (cs : List S1) (k : IntKind) : S1.frz o cs ∘ S1.int k = S1.int k := rfl
@[simp] theorem frz_comp_int2 (o : Nat) (cs : List S1) (k : IntKind) : (S1.frz o cs ∘ fun x => S1.int k x) = S1.int k := rfl
@[simp] theorem afterX_t (L : List Nat) (l : List (Option SObj)) (i : Nat) : (σ.afterX L l).t i = σ.t i := rfl
@[simp] theorem afterX_n (L : List Nat) (l : List (Option SObj)) : (σ.afterX L l).n = σ.n + (l.length - L.length) := rfl
@[simp] theorem afterX_o (L : List Nat) (l : List (Option SObj)) (o : Nat) : (σ.afterX L l).objs o = setX (nm L σ.n) L l (fun o => if σ.n ≤ o then newX (nm L σ.n) l (L.length + (o - σ.n)) else σ.objs o) o := rfl
@[simp] theorem afterX_x (L : List Nat) (l : List (Option SObj)) : (σ.afterX L l).x = σ.x := rfl
attribute [simp] setX nm argsX
def SS.fzF (σ : SS) (F : List Nat) : SS := F.foldl (fun s o => match s.objs o with | some ob => s.freeze o ob.cells | none => s) σ
@[simp] theorem fzF_nil : σ.fzF [] = σ := rfl
@[simp] theorem fzF_cons (o : Nat) (F : List Nat) : σ.fzF (o :: F) = (match σ.objs o with | some ob => σ.freeze o ob.cells | none => σ).fzF F := rfl
theorem Inv.fzF (F : List Nat) : ∀ {σ : SS}, Inv w0 ok0 N σ a w → Inv w0 ok0 N (σ.fzF F) a w := by
  induction F with
  | nil => intro σ h; exact h
  | cons o F ih =>
    intro σ h
    refine ih ?_
    simp only
    split
    · rename_i ob ho; exact h.freeze o ob ho
    · exact h
theorem Le.fzF (F : List Nat) {σ' : SS} (h : Le (σ.fzF F) σ') : Le σ σ' := fun _ _ _ _ _ hi => h _ _ _ _ _ (hi.fzF F)
def outX (σ : SS) (ρ : Nat → Nat) : List (Option SObj) → Nat → Prop
  | [], _ => True
  | none :: l, i => outX σ ρ l (i + 1)
  | some ob :: l, i => (∃ ob', σ.objs (ρ i) = some ob' ∧ ob'.ty = ob.ty ∧ subL ob'.cells (ob.cells.map (S1.ren ρ))) ∧ outX σ ρ l (i + 1)
@[simp] theorem outX_nil (ρ : Nat → Nat) (i : Nat) : outX σ ρ [] i = True := rfl
@[simp] theorem outX_none (ρ : Nat → Nat) (l : List (Option SObj)) (i : Nat) : outX σ ρ (none :: l) i = outX σ ρ l (i + 1) := rfl
@[simp] theorem outX_some (ρ : Nat → Nat) (ob : SObj) (l : List (Option SObj)) (i : Nat) : outX σ ρ (some ob :: l) i = ((∃ ob', σ.objs (ρ i) = some ob' ∧ ob'.ty = ob.ty ∧ subL ob'.cells (ob.cells.map (S1.ren ρ))) ∧ outX σ ρ l (i + 1)) := rfl
theorem outX_spec {ρ : Nat → Nat} : ∀ {l : List (Option SObj)} {k : Nat}, outX σ ρ l k → ∀ (i : Nat) (ob : SObj), l[i]? = some (some ob) → ∃ ob', σ.objs (ρ (k + i)) = some ob' ∧ ob'.ty = ob.ty ∧ subL ob'.cells (ob.cells.map (S1.ren ρ))
  | [], _, _, i, ob, h => by simp at h
  | none :: l, k, hx, i, ob, h => by
    cases i with
    | zero => simp at h
    | succ i => rw [show k + (i + 1) = k + 1 + i by omega]; exact outX_spec (show outX σ ρ l (k + 1) from hx) i ob (by simpa using h)
  | some ob0 :: l, k, ⟨hx, hy⟩, i, ob, h => by
    cases i with
    | zero => simp at h; subst h; exact hx
    | succ i => rw [show k + (i + 1) = k + 1 + i by omega]; exact outX_spec hy i ob (by simpa using h)
def nmO (k n : Nat) (M : List Nat) (o : Nat) : Nat := if o < k then o else match M[o - k]? with | some i => i | none => n + o
attribute [simp] nmO
def sResX (P : Program) (σ : SS) : List ResultVar → Option (List SV)
  | [] => some []
  | r :: l => match r, sResX P σ l with
    | .tmp t, some ys => match σ.t t with | .v y => some (y :: ys) | _ => none
    | .cell a t, some ys => match tyOf P t with
      | some τ => match sLoad σ τ (σ.t a) with | some y => some (y :: ys) | none => none
      | none => none
    | _, none => none
attribute [simp] sResX
theorem run_resX (h : IM w0 ok0 N σ mu a w) : ∀ (l : List ResultVar) (ys : List SV), sResX P σ l = some ys → ∃ vs : List Value, (l.mapM (resOne a.tmps)).run P w = .ok vs w ∧ vs.length = ys.length ∧ ∀ (i : Nat) (y : SV), ys[i]? = some y → ∃ v, vs[i]? = some v ∧ RV w mu (okOf w0 ok0 σ mu w) v y
  | [], ys, e => by cases e; exact ⟨[], rfl, rfl, fun i y hi => by simp at hi⟩
  | r :: l, ys, e => by
    have fin : ∀ (y : SV) (zs : List SV) (v : Value), sResX P σ l = some zs → ys = y :: zs → (resOne a.tmps r).run P w = .ok v w → RV w mu (okOf w0 ok0 σ mu w) v y →
        ∃ vs : List Value, ((r :: l).mapM (resOne a.tmps)).run P w = .ok vs w ∧ vs.length = ys.length ∧ ∀ (i : Nat) (y : SV), ys[i]? = some y → ∃ v, vs[i]? = some v ∧ RV w mu (okOf w0 ok0 σ mu w) v y := by
      intro y zs v hz hys hr hv
      obtain ⟨vs, h1, h2, h3⟩ := run_resX h l zs hz
      refine ⟨v :: vs, ?_, by rw [hys]; simp [h2], fun i y' hi => ?_⟩
      · simp only [List.mapM_cons, Sem.run_bind, hr, Result.andThen_ok, h1, Sem.run_pure]
      · subst hys
        cases i with
        | zero => simp at hi; subst hi; exact ⟨v, rfl, hv⟩
        | succ i => simp at hi; obtain ⟨v', g1, g2⟩ := h3 i y' hi; exact ⟨v', by simpa using g1, g2⟩
    cases r with
    | tmp t =>
      cases hz : sResX P σ l with
      | none => simp [sResX, hz] at e
      | some zs =>
        simp only [sResX, hz] at e
        split at e
        · rename_i y hy
          have := h.m.tmps t
          rw [hy] at this
          exact fin y zs _ hz (Option.some.inj e).symm rfl this
        · cases e
    | cell x t =>
      cases hz : sResX P σ l with
      | none => simp [sResX, hz] at e
      | some zs =>
        simp only [sResX, hz] at e
        split at e
        · rename_i τ ht
          split at e
          · rename_i y hy
            obtain ⟨u, hu, hr⟩ := run_load_sh h ht (h.m.tmps x) hy
            refine fin y zs u hz (Option.some.inj e).symm ?_ hr
            have hp : ∃ ad, a.tmps.getD x undef = .pointer (some ad) := by
              unfold sLoad at hy
              split at hy
              · rename_i cs hcs
                obtain ⟨b, off, f, hv, _⟩ := h.at (h.m.tmps x) hcs
                exact ⟨_, hv⟩
              · cases hy
            obtain ⟨ad, had⟩ := hp
            simp only [resOne, had, asAddr, Sem.run_bind, Sem.run_pure, Result.andThen_ok]
            rw [had] at hu
            simpa only [Instr.loadAt, Instr.sureAddr, Sem.run_bind, Sem.run_pure, Result.andThen_ok] using hu
          · cases e
        · cases e
def resTup : List SV → ST
  | [y] => .v y
  | ys => .tup ys
@[simp] theorem resTup_one (y : SV) : resTup [y] = .v y := rfl
@[simp] theorem resTup_nil : resTup [] = .tup [] := rfl
@[simp] theorem resTup_two (y z : SV) (l : List SV) : resTup (y :: z :: l) = .tup (y :: z :: l) := rfl
theorem sResX_wx (x : XS) : ∀ l, sResX P (σ.wx x) l = sResX P σ l
  | [] => rfl
  | r :: l => by simp only [sResX, sResX_wx x l]; rfl
theorem run_resultsX (h : IM w0 ok0 N σ mu a w) {fn : Func} {ys : List SV} (hr : sResX P σ fn.results.toList = some ys) : ∃ v, (results fn a.tmps).run P w = .ok v w ∧ RT w mu (okOf w0 ok0 σ mu w) v (resTup ys) := by
  have hres : ∀ vs : List Value, (fn.results.toList.mapM (resOne a.tmps)).run P w = .ok vs w → (results fn a.tmps).run P w = .ok (if h : vs.toArray.size = 1 then vs.toArray[0] else .tuple vs.toArray) w := by
    intro vs hvs
    have : (fn.results.mapM (resOne a.tmps)).run P w = .ok vs.toArray w := by
      rw [Array.mapM_eq_mapM_toList]
      show (Sem.bind _ _).run P w = _
      rw [Sem.run_bind', hvs]
      rfl
    show (Sem.bind (fn.results.mapM (resOne a.tmps)) _).run P w = _
    rw [Sem.run_bind', this]
    rfl
  obtain ⟨vs, h1, h2, h3⟩ := run_resX h _ _ hr
  by_cases e : ∃ y, ys = [y]
  · obtain ⟨y, rfl⟩ := e
    obtain ⟨v, hv, hrv⟩ := h3 0 y rfl
    obtain ⟨v', rfl⟩ : ∃ v', vs = [v'] := List.length_eq_one_iff.1 h2
    simp at hv; subst hv
    exact ⟨v', hres _ h1, hrv⟩
  · have hn1 : ¬ vs.toArray.size = 1 := by
      intro e'
      simp only [List.size_toArray] at e'
      exact e (List.length_eq_one_iff.1 (h2.symm.trans e'))
    have hrt : resTup ys = .tup ys := by
      unfold resTup
      split
      · rename_i y; exact absurd ⟨y, rfl⟩ e
      · rfl
    refine ⟨.tuple vs.toArray, by rw [hres _ h1, dif_neg hn1], ?_⟩
    rw [hrt]
    refine ⟨vs.toArray, rfl, by simpa using h2, fun j x hj => ?_⟩
    obtain ⟨v, hv, hr⟩ := h3 j x hj
    exact ⟨v, by simpa using hv, hr⟩
def objList : List SObj → Nat → List (Nat × SObj)
  | [], _ => []
  | x :: l, k => (k, x) :: objList l (k + 1)
@[simp] theorem objList_nil (k : Nat) : objList [] k = [] := rfl
@[simp] theorem objList_cons (x : SObj) (l : List SObj) (k : Nat) : objList (x :: l) k = (k, x) :: objList l (k + 1) := rfl
theorem look_objs : ∀ (l : List SObj) (k t : Nat), lookO (objList l k) t = if k ≤ t then l[t - k]? else none
  | [], k, t => by simp [objList, lookO]
  | x :: l, k, t => by
    simp only [objList, lookO]
    by_cases e : t = k
    · subst e; simp
    · rw [if_neg e, look_objs l (k + 1) t]
      by_cases h : k ≤ t
      · rw [if_pos h, if_pos (by omega)]
        have : t - k = (t - (k + 1)) + 1 := by omega
        rw [this]; simp
      · rw [if_neg h, if_neg (by omega)]
def RetX (P : Program) (l : List ResultVar) (k : Nat) (r : ST) (objs1 : List (Option SObj)) (e : Exit) (σ : SS) : Prop :=
  (e = .normal ∨ e = .ret) ∧ ∃ F M : List Nat, (M.Nodup ∧ (∀ i ∈ M, k ≤ i ∧ i < σ.n) ∧ k + M.length = objs1.length) ∧ onO (sResX P (σ.fzF F) l) (fun ys => (resTup ys).sub (r.ren (nmO k σ.n M))) ∧ outX (σ.fzF F) (nmO k σ.n M) objs1 0
theorem RetX.by {l : List ResultVar} {k : Nat} {r : ST} {objs1 : List (Option SObj)} {e : Exit} (F M : List Nat) (he : e = .normal ∨ e = .ret) (h1 : M.Nodup ∧ (∀ i ∈ M, k ≤ i ∧ i < σ.n) ∧ k + M.length = objs1.length) (h2 : onO (sResX P (σ.fzF F) l) (fun ys => (resTup ys).sub (r.ren (nmO k σ.n M)))) (h3 : outX (σ.fzF F) (nmO k σ.n M) objs1 0) :
    RetX P l k r objs1 e σ := ⟨he, F, M, h1, h2, h3⟩
theorem fzF_n (F : List Nat) : ∀ {σ : SS}, (σ.fzF F).n = σ.n := by
  induction F with
  | nil => intro σ; rfl
  | cons o F ih =>
    intro σ
    simp only [fzF_cons]
    rw [ih]
    split <;> rfl
theorem callsX {f : Nat} {fn : Func} {c : Code} {args : List SV} {objs0 : List SObj} {r : ST} {objs1 : List (Option SObj)} (hf : P.funcs[f]? = some fn) (hb : fn.body = some c) (hname : (fn.name == "runtime.NumGoroutine") = false) (hN : decide (args.length ≤ fn.ntmps) = true) (hc : codeOK fn.ntmps c = true) (hk : objs0.length ≤ objs1.length)
    (h : eC P fn.ntmps c (RetX P fn.results.toList objs0.length r objs1) (SS.of (argList args 0) (objList objs0 0) objs0.length)) : CallsX P f args objs0 r objs1 := by
  have hN' := of_decide_eq_true hN
  refine ⟨⟨fn, hf, hname, by rw [hb]; rfl⟩, hk, fun w vals ok mu hin hlen hargs => ?_⟩
  refine calls_of_sh hf hb ?_
  have hlook : ∀ o ob, (SS.of (argList args 0) (objList objs0 0) objs0.length).objs o = some ob → objs0[o]? = some ob := by
    intro o ob h
    have h : lookO (objList objs0 0) o = some ob := h
    rwa [look_objs, if_pos (Nat.zero_le _), Nat.sub_zero] at h
  have hmo : ∀ fr b, ok fr b → okOf (.at w mu) ok (SS.of (argList args 0) (objList objs0 0) objs0.length) mu w fr b := fun fr b h => ⟨Or.inl h, (hin.ok fr b h).1, fun o ob cc _ => (hin.ok fr b h).2 o cc⟩
  have hinv : Inv (.at w mu) ok fn.ntmps (SS.of (argList args 0) (objList objs0 0) objs0.length) { tmps := vals ++ Array.replicate (fn.ntmps - vals.size) undef, defers := [] } w := by
    refine ⟨Bel.refl _ _, by simp; omega, DefOK.nil _ _, mu, fun t => ?_, fun o ob ho => ?_, fun o o' ob ob' b c c' _ _ => hin.inj o o' b c c', fun o ho => ⟨?_, hin.none o ho⟩, fun o p h => h, Ext.new _ _ _ _⟩
    · show RT w mu _ _ (lookT (argList args 0) t)
      rw [look_args, if_pos (Nat.zero_le _), Nat.sub_zero]
      cases hx : args[t]? with
      | none => exact RT.any _
      | some x =>
        have htl := (List.getElem?_eq_some_iff.1 hx).1
        have e : (vals ++ Array.replicate (fn.ntmps - vals.size) undef).getD t undef = vals.getD t undef := by
          simp only [Array.getD_eq_getD_getElem?]
          rw [Array.getElem?_append_left (by omega)]
        rw [e]
        exact RV.mono hmo (fun _ _ _ => rfl) (fun _ _ h => h) (hargs t x hx)
    · obtain ⟨b, cur, k1, k2, k3, k4⟩ := hin.objs o ob (hlook o ob ho)
      refine ⟨b, cur, k1, Or.inr ⟨o, _, k1⟩, k2, k3, fun j s hj => ?_⟩
      obtain ⟨u, hu, hr⟩ := k4 j s hj
      exact ⟨u, hu, R1.mono hmo (fun _ _ _ => rfl) (fun _ _ h => h) hr⟩
    · have ho' : objs0.length ≤ o := ho
      show lookO (objList objs0 0) o = none
      rw [look_objs, if_pos (Nat.zero_le _), Nat.sub_zero]
      exact List.getElem?_eq_none ho'
  refine wpIn_mono (sw_mono (eC_sound c _ _ hc h) (fun _ _ h => h) (.at w mu) ok _ w hinv) ?_
  rintro e a' w'' ⟨σ, ⟨he, F, M, ⟨hMn, hMk, hMl⟩, hres, hout⟩, hi⟩
  have hi2 : Inv (.at w mu) ok fn.ntmps (σ.fzF F) a' w'' := hi.fzF F
  obtain ⟨mu1, him0⟩ := hi2.im
  obtain ⟨ys, hys, hsub⟩ := onO_elim hres
  have fin : LeavesInM Fence.wide 0 P fn a'.tmps (fun e w' => ∃ v' mu', e = .returned v' ∧ LentOut w ok mu objs0.length w' mu' objs1 ∧ RT w' mu' (okX w ok mu w' mu' objs1) v' r) a'.defers .returning w'' := by
   refine leaves_marks a'.defers w'' him0.defers fun w' hkk => ?_
   have him := him0.kept hkk
   obtain ⟨v, hv, hrv⟩ := run_resultsX (P := P) him (fn := fn) (by rw [sResX_wx]; exact hys)
   refine ⟨v, hv, ?_⟩
   have hfzn : ((σ.fzF F).wx .nil).n = σ.n := fzF_n F
   generalize hgσ : (σ.fzF F).wx .nil = σf at him hfzn hrv
   have hobjs : ∀ o, (σ.fzF F).objs o = σf.objs o := fun o => by rw [← hgσ]; rfl
   have hk0 : objs0.length ≤ objs1.length := hk
   -- the names of the contract
   have hnmM : ∀ o, objs0.length ≤ o → o < objs1.length → ∃ h : o - objs0.length < M.length, nmO objs0.length σ.n M o = M[o - objs0.length] := fun o h1 h2 =>
     ⟨by omega, by simp only [nmO]; rw [if_neg (by omega), List.getElem?_eq_getElem (by omega)]⟩
   have hnml : ∀ o, o < objs0.length → nmO objs0.length σ.n M o = o := fun o h => by simp [h]
   have hinjn : ∀ o o', o < objs1.length → o' < objs1.length → nmO objs0.length σ.n M o = nmO objs0.length σ.n M o' → o = o' := by
     intro o o' h1 h2 e
     by_cases g1 : o < objs0.length <;> by_cases g2 : o' < objs0.length
     · rwa [hnml o g1, hnml o' g2] at e
     · obtain ⟨q, e'⟩ := hnmM o' (by omega) h2
       rw [hnml o g1, e'] at e
       have := (hMk _ (List.getElem_mem q)).1; omega
     · obtain ⟨q, e'⟩ := hnmM o (by omega) h1
       rw [hnml o' g2, e'] at e
       have := (hMk _ (List.getElem_mem q)).1; omega
     · obtain ⟨q, e1⟩ := hnmM o (by omega) h1
       obtain ⟨q', e2⟩ := hnmM o' (by omega) h2
       rw [e1, e2] at e
       have := (List.getElem_inj hMn).1 e
       omega
   let mu' : Nat → Option (Nat × Nat) := fun o => if o < objs1.length then mu1 (nmO objs0.length σ.n M o) else none
   have hmup : ∀ o, o < objs1.length → mu' o = mu1 (nmO objs0.length σ.n M o) := fun o h => if_pos h
   have hback : ∀ o p, mu1 (nmO objs0.length σ.n M o) = some p → mu' o = some p := by
     intro o p hp
     by_cases e : o < objs1.length
     · rw [hmup o e]; exact hp
     · exfalso
       have : nmO objs0.length σ.n M o = σ.n + o := by simp only [nmO]; rw [if_neg (by omega), List.getElem?_eq_none (by omega)]
       rw [this, (him.m.fresh _ (by rw [hfzn]; omega)).2] at hp
       cases hp
   have hlive : ∀ o ob, objs1[o]? = some (some ob) → o < objs1.length ∧ ∃ ob', σf.objs (nmO objs0.length σ.n M o) = some ob' ∧ ob'.ty = ob.ty ∧ subL ob'.cells (ob.cells.map (S1.ren (nmO objs0.length σ.n M))) := fun o ob h =>
     ⟨(List.getElem?_eq_some_iff.1 h).1, by have := outX_spec hout o ob h; rw [Nat.zero_add, hobjs] at this; exact this⟩
   have hok : ∀ fr b, okOf (.at w mu) ok σf mu1 w' fr b → okX w ok mu w' mu' objs1 fr b := by
     intro fr b ⟨h1, h2, h3⟩
     refine ⟨h1, h2, fun o ob cc ho hm => ?_⟩
     obtain ⟨l, ob', g, _⟩ := hlive o ob ho
     rw [hmup o l] at hm
     exact h3 _ ob' cc g hm
   have hsame : ∀ o, o < objs0.length → mu' o = mu o := fun o ho => by
     obtain ⟨b, cur, k1, _⟩ := hin.objs o objs0[o] (List.getElem?_eq_getElem ho)
     rw [hmup o (by omega), hnml o ho, him.m.lent o _ k1, k1]
   refine ⟨v, mu', rfl, ⟨hsame, fun o ho => if_neg (by omega), fun o o' ob ob' b c c' h1 h2 h3 h4 => ?_, fun o ob ho => ?_, fun o ob b cc ho hm => ?_, him.below⟩, ?_⟩
   · obtain ⟨l1, x1, g1, _⟩ := hlive o ob h1
     obtain ⟨l2, x2, g2, _⟩ := hlive o' ob' h2
     rw [hmup o l1] at h3
     rw [hmup o' l2] at h4
     exact hinjn o o' l1 l2 (him.m.inj _ _ x1 x2 b c c' g1 g2 h3 h4)
   · obtain ⟨l, ob', g1, g2, g3⟩ := hlive o ob ho
     obtain ⟨b, cur, k1, _, k3, k4, k5⟩ := him.m.objs _ ob' g1
     obtain ⟨s1, s2⟩ := subL_spec g3
     refine ⟨b, cur, by rw [hmup o l]; exact k1, by rw [← g2]; exact k3, by simpa [s1] using k4, fun j s hj => ?_⟩
     obtain ⟨s', hs', hsb⟩ := s2 j (s.ren (nmO objs0.length σ.n M)) (by simp [hj])
     obtain ⟨u, hu, hr⟩ := k5 j s' hs'
     exact ⟨u, hu, R1.mono hok (fun _ _ _ => rfl) (fun _ _ h => h) (R1.unren hback (R1.sub hr hsb))⟩
   · obtain ⟨l, ob', g1, _⟩ := hlive o ob ho
     obtain ⟨b', cur, k1, k2, _⟩ := him.m.objs _ ob' g1
     rw [hmup o l, k1] at hm
     obtain ⟨rfl, _⟩ := Prod.mk.inj (Option.some.inj hm)
     exact k2
   · exact RT.mono hok (fun _ _ _ => rfl) (fun _ _ h => h) (RT.unren hback (RT.sub hrv hsub))
  rcases he with rfl | rfl
  · exact fin
  · exact fin
end
end Go.Proofs.YtaljbebkooppiaaGreat.Sh

namespace Go.Proofs.YtaljbebkooppiaaGreat.Sh
open Go Go.RowKit
section
variable {P : Program} {N : Nat} {σ : SS} {Q : Exit → SS → Prop}
def Cut {Y : Type} (mid : Y → SS) (σ : SS) (_t : Tok mid := ⟨⟩) : Prop := ∃ y, Le σ (mid y)
theorem Cut.by {Y : Type} {mid : Y → SS} {t : Tok mid} (y : Y) (h : Le σ (mid y)) : Cut mid σ t := ⟨y, h⟩
def cutQ {Y : Type} (mid : Y → SS) (R : Exit → SS → Prop) (_t : Tok mid := ⟨⟩) (_t2 : Tok R := ⟨⟩) : Exit → SS → Prop
  | .normal, σ => Cut mid σ
  | e, σ => R e σ
@[simp] theorem cutQ_normal {Y : Type} (mid : Y → SS) (R : Exit → SS → Prop) (t : Tok mid) (t2 : Tok R) : cutQ mid R t t2 .normal σ = Cut mid σ := rfl
@[simp] theorem cutQ_ret {Y : Type} (mid : Y → SS) (R : Exit → SS → Prop) (t : Tok mid) (t2 : Tok R) : cutQ mid R t t2 .ret σ = R .ret σ := rfl
@[simp] theorem cutQ_exit {Y : Type} (mid : Y → SS) (R : Exit → SS → Prop) (t : Tok mid) (t2 : Tok R) (j : Nat) : cutQ mid R t t2 (.exit j) σ = R (.exit j) σ := rfl
theorem sw_mono_le {Q' : Exit → SS → Prop} {c : Code} (h : sw P N c Q σ) (k : ∀ e σ', Q e σ' → ∃ σ'', Le σ' σ'' ∧ Q' e σ'') : sw P N c Q' σ :=
  fun w0 ok0 a w hi => wpIn_mono (h w0 ok0 a w hi) fun e _ _ ⟨σ', h1, h2⟩ => by
    obtain ⟨σ'', h3, h4⟩ := k e σ' h1
    exact ⟨σ'', h4, h3 _ _ _ _ _ h2⟩
theorem cutQ_to {Y : Type} {mid : Y → SS} {R : Exit → SS → Prop} (k : ∀ y, R .normal (mid y)) : ∀ e σ', cutQ mid R ⟨⟩ ⟨⟩ e σ' → ∃ σ'', Le σ' σ'' ∧ R e σ'' := by
  intro e σ' h
  cases e with
  | normal => obtain ⟨y, hy⟩ := h; exact ⟨_, hy, k y⟩
  | exit => exact ⟨_, Le.refl _, h⟩
  | goto => exact ⟨_, Le.refl _, h⟩
  | ret => exact ⟨_, Le.refl _, h⟩
  | panic => exact ⟨_, Le.refl _, h⟩
  | outgrown => exact ⟨_, Le.refl _, h⟩
theorem sw_cut {Y : Type} {c : Code} {id : Nat} {R : Exit → SS → Prop} (mid : Y → SS) (h : holdP (sw P N c (blockQ id (cutQ mid R)) σ)) (k : ∀ y, R .normal (mid y)) : holdP (sw P N c (blockQ id R) σ) := by
  refine sw_mono_le h fun e σ' hq => ?_
  cases e with
  | normal => exact cutQ_to k .normal σ' hq
  | exit j =>
    have hq : (if j = id then cutQ mid R ⟨⟩ ⟨⟩ .normal σ' else cutQ mid R ⟨⟩ ⟨⟩ (.exit j) σ') := hq
    show ∃ σ'', Le σ' σ'' ∧ (if j = id then R .normal σ'' else R (.exit j) σ'')
    split at hq
    · rename_i e; simp only [if_pos e]; exact cutQ_to k .normal σ' hq
    · rename_i e; simp only [if_neg e]; exact ⟨_, Le.refl _, hq⟩
  | goto => exact ⟨_, Le.refl _, hq⟩
  | ret => exact ⟨_, Le.refl _, hq⟩
  | panic => exact ⟨_, Le.refl _, hq⟩
  | outgrown => exact ⟨_, Le.refl _, hq⟩
end
end Go.Proofs.YtaljbebkooppiaaGreat.Sh

namespace Go.Proofs.YtaljbebkooppiaaGreat.Sh
open Go Go.RowKit
class RowF {α : Type} (e : outParam Nat) (f : α → List S1) : Prop where
  len : ∀ x, (f x).length = e
  cl : ∀ x, ∀ s ∈ f x, s.closed = true
def flat {α : Type} (f : α → List S1) (l : List α) : List S1 := (l.map f).flatten
section
variable {α : Type}
theorem flat_nil {f : α → List S1} : flat f [] = [] := rfl
theorem flat_cons {e : Nat} {f : α → List S1} [RowF e f] (x : α) (l : List α) : flat f (x :: l) = f x ++ flat f l := by simp [flat]
theorem flat_snoc {e : Nat} {f : α → List S1} [RowF e f] (x : α) (l : List α) : flat f (l ++ [x]) = flat f l ++ f x := by simp [flat]
@[simp] theorem flat_len {e : Nat} {f : α → List S1} [RowF e f] (l : List α) : (flat f l).length = l.length * e := by
  induction l with
  | nil => simp [flat]
  | cons x l ih => rw [flat_cons, List.length_append, ih, RowF.len (f := f), List.length_cons, Nat.add_mul, Nat.one_mul, Nat.add_comm]
theorem flat_closed {e : Nat} {f : α → List S1} [RowF e f] (l : List α) : ∀ s ∈ flat f l, s.closed = true := by
  intro s hs
  simp only [flat, List.mem_flatten, List.mem_map] at hs
  obtain ⟨r, ⟨x, _, rfl⟩, hs⟩ := hs
  exact RowF.cl (f := f) x s hs
@[simp] theorem ren_flat {e : Nat} {f : α → List S1} [RowF e f] (ρ : Nat → Nat) (l : List α) : (flat f l).map (S1.ren ρ) = flat f l := ren_closed ρ _ (flat_closed l)
theorem map_closed (g : S1 → S1) (hg : ∀ s : S1, s.closed = true → g s = s) (l : List S1) (h : ∀ s ∈ l, s.closed = true) : l.map g = l :=
  (List.map_congr_left (fun s hs => hg s (h s hs))).trans (List.map_id l)
@[simp] theorem close_flat {e : Nat} {f : α → List S1} [RowF e f] (l : List α) : (flat f l).map S1.close = flat f l := map_closed _ (fun s h => by cases s <;> first | rfl | cases h) _ (flat_closed l)
@[simp] theorem frz_flat {e : Nat} {f : α → List S1} [RowF e f] (o : Nat) (cs : List S1) (l : List α) : (flat f l).map (S1.frz o cs) = flat f l := map_closed _ (fun s h => by cases s <;> first | rfl | cases h) _ (flat_closed l)
theorem flat_drop {e : Nat} {f : α → List S1} [RowF e f] (l : List α) (i : Nat) : (flat f l).drop (i * e) = flat f (l.drop i) := by
  induction i generalizing l with
  | zero => simp
  | succ i ih =>
    cases l with
    | nil => simp [flat]
    | cons x l =>
      rw [flat_cons, List.drop_succ_cons, ← ih l, Nat.add_mul, Nat.one_mul, Nat.add_comm, ← List.drop_drop]
      congr 1
      exact List.drop_left' (RowF.len (f := f) x)
theorem flat_row {e : Nat} {f : α → List S1} [RowF e f] (l : List α) (i : Nat) (h : i < l.length) : ((flat f l).drop (i * e)).take e = f l[i] := by
  rw [flat_drop, List.drop_eq_getElem_cons h, flat_cons]
  exact List.take_left' (RowF.len (f := f) _)
@[simp] theorem rowsOf_flat {e : Nat} {f : α → List S1} [RowF e f] (l : List α) (n : Nat) (h : n = l.length) : rowsOf (flat f l) 0 e n = l.map f := by
  subst h
  unfold rowsOf
  apply List.ext_getElem
  · simp
  · intro i h1 h2
    simp at h1
    simp only [List.getElem_map, List.getElem_range, Nat.zero_add]
    exact flat_row l i h1
theorem flat_set {e : Nat} {f : α → List S1} [RowF e f] (l : List α) (i : Nat) (x : α) (h : i < l.length) : flat f (l.set i x) = (flat f l).take (i * e) ++ (f x ++ (flat f l).drop (i * e + e)) := by
  have ht : (flat f l).take (i * e) = flat f (l.take i) := by
    have e1 : flat f l = flat f (l.take i) ++ flat f (l.drop i) := by
      conv => lhs; rw [← List.take_append_drop i l]
      simp only [flat, List.map_append, List.flatten_append]
    rw [e1]
    exact List.take_left' (by rw [flat_len, List.length_take, Nat.min_eq_left (by omega)])
  have hd : (flat f l).drop (i * e + e) = flat f (l.drop (i + 1)) := by
    rw [show i * e + e = (i + 1) * e by rw [Nat.add_mul, Nat.one_mul], flat_drop]
  rw [ht, hd, ← flat_cons]
  rw [List.set_eq_take_append_cons_drop, if_pos h]
  simp [flat]
theorem putL_eq : ∀ (r cs : List S1) (off : Nat), off + r.length ≤ cs.length → putL cs off r = cs.take off ++ (r ++ cs.drop (off + r.length))
  | [], cs, off, _ => by simp [putL]
  | s :: r, cs, off, h => by
    simp only [List.length_cons] at h
    simp only [putL]
    rw [putL_eq r _ (off + 1) (by simp; omega)]
    rw [List.take_set, List.drop_set, if_pos (by omega), List.length_cons, List.take_add_one]
    have : (List.take off cs ++ cs[off]?.toList).set off s = List.take off cs ++ [s] := by
      rw [List.getElem?_eq_getElem (by omega)]
      simp only [Option.toList]
      rw [List.set_append_right _ _ (by rw [List.length_take]; omega)]
      rw [List.length_take, Nat.min_eq_left (by omega), Nat.sub_self]
      rfl
    rw [this, List.append_assoc, show off + 1 + r.length = off + (r.length + 1) by omega]
    rfl
theorem putL_flat {e : Nat} {f : α → List S1} [RowF e f] (l : List α) (i : Nat) (x : α) (h : i < l.length) : putL (flat f l) (i * e) (f x) = flat f (l.set i x) := by
  have hl : (i + 1) * e ≤ l.length * e := Nat.mul_le_mul_right e h
  rw [Nat.add_mul, Nat.one_mul] at hl
  rw [flat_set l i x h, putL_eq _ _ _ (by rw [flat_len, RowF.len (f := f)]; exact hl), RowF.len (f := f)]
theorem set3_flat {f : α → List S1} [RowF 3 f] (l : List α) (i : Nat) (x : α) {a b c : S1} (hx : f x = [a, b, c]) (h : i < l.length) : (((flat f l).set (i * 3) a).set (i * 3 + 1) b).set (i * 3 + 1 + 1) c = flat f (l.set i x) := by
  rw [← putL_flat l i x h, hx]; rfl
end
end Go.Proofs.YtaljbebkooppiaaGreat.Sh

namespace Go.Proofs.YtaljbebkooppiaaGreat.Sh
open Go Go.RowKit
inductive LabT : S1 → Prop where
  | any : LabT .any
  | int (k : IntKind) (n : Int) : LabT (.int k n)
  | bool (b : Bool) : LabT (.bool b)
  | str (s : ByteArray) : LabT (.str s)
  | val (v : Value) : LabT (.val v)
  | nils : LabT .nils
  | sl (e : Nat) (rows : List (List S1)) (h : ∀ row ∈ rows, ∀ s ∈ row, LabT s) : LabT (.sl true e rows)
  | rp (cs : List S1) (h : ∀ s ∈ cs, LabT s) : LabT (.rp true cs)
def SV.LabT : SV → Prop
  | .one s => Sh.LabT s
  | .agg l => ∀ s ∈ l, Sh.LabT s
def ST.LabT : ST → Prop
  | .v x => x.LabT
  | .tup l => ∀ x ∈ l, SV.LabT x
section
variable {w w' : World} {mu mu' : Nat → Option (Nat × Nat)} {ok ok' : Bool → Nat → Prop}
theorem R0.lab (hok : ∀ b, ok true b → ok' true b) : ∀ {v s}, R0 w ok v s → LabT s → R0 w ok' v s := by
  intro v s h
  induction h with
  | any v => intro _; exact .any v
  | int k n => intro _; exact .int k n
  | bool b => intro _; exact .bool b
  | str s => intro _; exact .str s
  | val v h => intro _; exact .val v h
  | nils => intro _; exact .nils
  | nilsl fr e => intro _; exact .nilsl fr e
  | emp fr e A cap => intro _; exact .emp fr e A cap
  | sl fr e rows b off cap f hcap hlen hb hrow hc hr ih =>
    intro hl
    cases hl with
    | sl _ _ hl =>
      exact .sl true e rows b off cap f hcap hlen (fun h => hok b (hb h)) hrow hc (fun i row hi j s hj => ih i row hi j s hj (hl row (List.mem_of_getElem? hi) s (List.mem_of_getElem? hj)))
  | rp fr cs b off f hb hc hr ih =>
    intro hl
    cases hl with
    | rp _ hl => exact .rp true cs b off f (hok b hb) hc (fun j s hj => ih j s hj (hl s (List.mem_of_getElem? hj)))
  | fn f caps arr hs hr ih => intro hl; cases hl
theorem LabT.closed {s : S1} (h : LabT s) : s.closed = true := by cases h <;> rfl
theorem R1.lab (hok : ∀ b, ok true b → ok' true b) {v : Value} {s : S1} (h : R1 w mu ok v s) (hl : LabT s) : R1 w mu' ok' v s := .c (R0.lab hok (h.c0 hl.closed) hl)
theorem RV.lab (hok : ∀ b, ok true b → ok' true b) {v : Value} : ∀ {x : SV}, RV w mu ok v x → x.LabT → RV w mu' ok' v x
  | .one _, h, hl => R1.lab hok h hl
  | .agg l, ⟨arr, h1, h2, h3⟩, hl => ⟨arr, h1, h2, fun j s hj => by
      obtain ⟨u, hu, hr⟩ := h3 j s hj
      exact ⟨u, hu, R1.lab hok hr (hl s (List.mem_of_getElem? hj))⟩⟩
theorem RT.lab (hok : ∀ b, ok true b → ok' true b) {v : Value} : ∀ {x : ST}, RT w mu ok v x → x.LabT → RT w mu' ok' v x
  | .v _, h, hl => RV.lab hok h hl
  | .tup l, ⟨arr, h1, h2, h3⟩, hl => ⟨arr, h1, h2, fun j s hj => by
      obtain ⟨u, hu, hr⟩ := h3 j s hj
      exact ⟨u, hu, RV.lab hok hr (hl s (List.mem_of_getElem? hj))⟩⟩
def S1.peek (objs : List SObj) : S1 → S1
  | .ms o off len e full => match objs[o]? with
    | some ob => if off + len * e ≤ ob.cells.length then .sl false e (rowsOf (ob.cells.map S1.close) off e len) else .any
    | none => .any
  | .mp _ _ => .any
  | s => s
def SV.peek (objs : List SObj) : SV → SV
  | .one s => .one (s.peek objs)
  | .agg l => .agg (l.map (S1.peek objs))
theorem CallsX.peek {P : Program} {f : Nat} {ys : List SV} {objs : List SObj} {r : ST} (h : CallsS P f (ys.map (SV.peek objs)) r) (hr : r.LabT) : CallsX P f ys objs r (objs.map some) := by
  obtain ⟨hf, hcall⟩ := h
  refine ⟨hf, by simp, fun w vals ok mu hin hlen hargs => ?_⟩
  have hlt : ∀ o b cc, mu o = some (b, cc) → b < w.heap.size := fun o b cc ho => by
    by_cases hol : o < objs.length
    · obtain ⟨b', cur, h1, h2, _⟩ := hin.objs o objs[o] (List.getElem?_eq_getElem hol)
      rw [ho] at h1
      obtain ⟨rfl, _⟩ := Prod.mk.inj (Option.some.inj h1)
      exact (Array.getElem?_eq_some_iff.1 h2).1
    · rw [hin.none o (by omega)] at ho; cases ho
  let ok2 : Bool → Nat → Prop := fun fr b => ok fr b ∨ (fr = false ∧ ∃ o cc, mu o = some (b, cc))
  have hmono : ∀ fr b, ok fr b → ok2 fr b := fun fr b h => Or.inl h
  have one : ∀ (v : Value) (s : S1), R1 w mu ok v s → R1 w mu0 ok2 v (s.peek objs) := by
    intro v s hs
    cases hs with
    | c h =>
      have : s.peek objs = s := by cases h <;> rfl
      rw [this]
      exact .c (h.mono hmono (fun _ _ _ => rfl))
    | mp o off b cc h1 => exact .c (.any _)
    | ms o off len e full b cc cap off' h1 h2 h3 h4 h5 h6 =>
      simp only [S1.peek]
      split
      · rename_i ob ho
        split
        · rename_i hle
          obtain ⟨b', cur, k1, k2, k3, k4⟩ := hin.objs o ob ho
          rw [h1] at k1
          obtain ⟨rfl, rfl⟩ := Prod.mk.inj (Option.some.inj k1)
          have hrl : (rowsOf (ob.cells.map S1.close) off e len).length = len := by simp [rowsOf]
          by_cases h0 : len = 0
          · subst h0
            have : rowsOf (ob.cells.map S1.close) off e 0 = [] := rfl
            rw [this]
            exact .c (.emp _ _ _ _)
          · have hoff := h6 (Or.inl h0)
            subst hoff
            have hrow : ∀ (i : Nat) (row : List S1), (rowsOf (ob.cells.map S1.close) off' e len)[i]? = some row → i < len ∧ row = ((ob.cells.map S1.close).drop (off' + i * e)).take e := by
              intro i row hi
              simp only [rowsOf, List.getElem?_map, Option.map_eq_some_iff] at hi
              obtain ⟨i', hi', rfl⟩ := hi
              obtain ⟨hlt', hi'⟩ := List.getElem?_eq_some_iff.1 hi'
              simp at hi' hlt'
              subst hi'
              exact ⟨hlt', rfl⟩
            have hcell : ∀ (i : Nat) (row : List S1), (rowsOf (ob.cells.map S1.close) off' e len)[i]? = some row → ∀ (j : Nat) (s : S1), row[j]? = some s → ∃ u, cur[off' + (i * e + j)]? = some u ∧ R0 w ok2 u s := by
              intro i row hi j s hj
              obtain ⟨g1, rfl⟩ := hrow i row hi
              rw [List.getElem?_take] at hj
              split at hj
              · rw [List.getElem?_drop, List.getElem?_map, Option.map_eq_some_iff] at hj
                obtain ⟨s', hj, rfl⟩ := hj
                obtain ⟨u, hu, hr⟩ := k4 _ s' hj
                exact ⟨u, by rw [← Nat.add_assoc]; exact hu, (R1.close hr).mono hmono (fun _ _ _ => rfl)⟩
              · cases hj
            have key := R0.sl (w := w) (ok := ok2) false e (rowsOf (ob.cells.map S1.close) off' e len) b off' cap (fun i j => cur[off' + (i * e + j)]?.getD undef) (by rw [hrl]; exact h2) (by rw [hrl]; exact h3) (fun _ => Or.inr ⟨rfl, o, cur.size, h1⟩)
              (fun i row hi => by
                obtain ⟨g1, rfl⟩ := hrow i row hi
                rw [List.length_take, List.length_drop, List.length_map]
                have : (i + 1) * e ≤ len * e := Nat.mul_le_mul_right e g1
                rw [Nat.add_mul, Nat.one_mul] at this
                omega)
              (fun i row hi j s hj => by
                obtain ⟨u, hu, _⟩ := hcell i row hi j s hj
                rw [cell_of_row w b _ cur ob.ty (0, 0) k2, hu]; rfl)
              (fun i row hi j s hj => by
                obtain ⟨u, hu, hr⟩ := hcell i row hi j s hj
                rw [hu]; exact hr)
            rw [hrl] at key
            exact .c key
        · exact .c (.any _)
      · exact .c (.any _)
  have hargs2 : ∀ (i : Nat) (x : SV), (ys.map (SV.peek objs))[i]? = some x → RV w mu0 ok2 (vals.getD i undef) x := by
    intro i x hi
    rw [List.getElem?_map, Option.map_eq_some_iff] at hi
    obtain ⟨y, hi, rfl⟩ := hi
    have h1 := hargs i y hi
    cases y with
    | one s => exact one _ _ h1
    | agg l =>
      obtain ⟨arr, g1, g2, g3⟩ := h1
      refine ⟨arr, g1, by simpa using g2, fun j s hj => ?_⟩
      rw [List.getElem?_map, Option.map_eq_some_iff] at hj
      obtain ⟨s', hj, rfl⟩ := hj
      obtain ⟨u, hu, hr⟩ := g3 j s' hj
      exact ⟨u, hu, one _ _ hr⟩
  refine (hcall w vals ok2 (fun fr b h => ?_) (by simpa using hlen) hargs2).mono ?_
  · rcases h with h | ⟨_, o, cc, h⟩
    · exact (hin.ok fr b h).1
    · exact hlt o b cc h
  · rintro e w' ⟨v, rfl, hv, hb⟩
    have hobj : ∀ (o : Nat) (ob : SObj), (objs.map some)[o]? = some (some ob) → objs[o]? = some ob := fun o ob h => by
      rw [List.getElem?_map, Option.map_eq_some_iff] at h
      obtain ⟨ob', h, e⟩ := h
      cases e; exact h
    have hokX : ∀ fr b, ok fr b → okX w ok mu w' mu (objs.map some) fr b := fun fr b h =>
      ⟨Or.inl h, Nat.lt_of_lt_of_le (hin.ok fr b h).1 hb.size, fun o ob cc _ hm => (hin.ok fr b h).2 o cc hm⟩
    refine ⟨v, mu, rfl, ⟨fun _ _ => rfl, fun o ho => hin.none o (by simpa using ho), fun o o' ob ob' b c c' _ _ => hin.inj o o' b c c', fun o ob ho => ?_, fun o ob b cc _ hm => Or.inr ⟨o, cc, hm⟩, ?_⟩, ?_⟩
    · obtain ⟨b, cur, k1, k2, k3, k4⟩ := hin.objs o ob (hobj o ob ho)
      refine ⟨b, cur, k1, (hb.block b (hlt o b _ k1)).trans k2, k3, fun j s hj => ?_⟩
      obtain ⟨u, hu, hr⟩ := k4 j s hj
      exact ⟨u, hu, R1.mono hokX (fun fr b h => hb.block b (hin.ok fr b h).1) (fun _ _ h => h) hr⟩
    · exact ⟨hb.os, hb.tape, hb.output, hb.size, fun k hk _ _ => hb.block k hk⟩
    · refine RT.lab (fun b h => ?_) hv hr
      obtain ⟨h1, h2⟩ := h
      rcases h1 with (h1 | ⟨h1, _⟩) | h1
      · exact hokX true b h1
      · cases h1
      · exact ⟨Or.inr (Or.inl h1), h2, fun o ob cc _ hm => by have := hlt o b cc hm; omega⟩
theorem LabT.words (l : List (List S1)) (e : Nat) (h : ∀ row ∈ l, ∀ s ∈ row, LabT s) : LabT (.sl true e l) := .sl e l h
end
end Go.Proofs.YtaljbebkooppiaaGreat.Sh

namespace Go.Proofs.YtaljbebkooppiaaGreat.Sh
open Go Go.RowKit
inductive KT where
  | str
  | int
  | two
  deriving DecidableEq
def mapKT (P : Program) (t : Nat) : Option KT := match P.underlying t with
  | some (.map k e) => match P.underlying e, (P.info? e).bind (·.zero) with
    | some .bool, some (.bool false) => match P.underlying k with
      | some .string => some .str
      | some (.int .i64) => some .int
      | some (.array 2 z) => match P.underlying z, (P.info? z).map (·.size) with
        | some (.int .i64), some 1 => some .two
        | _, _ => none
      | _ => none
    | _, _ => none
  | _ => none
def MK.of : MK → KT → Bool
  | .str _, .str => true
  | .int _, .int => true
  | .two _ _, .two => true
  | _, _ => false
section
variable {P : Program} {w : World}
theorem run_info {t : Nat} {i : TypeInfo} (h : P.info? t = some i) : (typeInfo t).run P w = .ok i w := by simp [typeInfo, Sem.run_bind, run_program, h]
theorem mapKT_some {t : Nat} {κ : KT} (h : mapKT P t = some κ) : ∃ k e, P.underlying t = some (.map k e) ∧ (zeroValue e).run P w = .ok (.bool false) w ∧
    match κ with
    | .str => P.underlying k = some .string
    | .int => P.underlying k = some (.int .i64)
    | .two => ∃ z, P.underlying k = some (.array 2 z) ∧ P.underlying z = some (.int .i64) ∧ (sizeOf z).run P w = .ok 1 w := by
  unfold mapKT at h
  split at h
  · rename_i k e ht
    split at h
    · rename_i he hz
      have hze : (zeroValue e).run P w = .ok (.bool false) w := by
        cases hi : P.info? e with
        | none => rw [hi] at hz; cases hz
        | some i =>
          rw [hi] at hz
          simp only [Option.bind_some] at hz
          simp [zeroValue, Sem.run_bind, run_info hi, hz]
      split at h
      · rename_i hk; cases h; exact ⟨k, e, ht, hze, hk⟩
      · rename_i hk; cases h; exact ⟨k, e, ht, hze, hk⟩
      · rename_i z hk
        split at h
        · rename_i h1 h2
          cases h
          refine ⟨k, e, ht, hze, z, hk, h1, ?_⟩
          cases hi : P.info? z with
          | none => rw [hi] at h2; cases h2
          | some i =>
            rw [hi] at h2
            simp only [Option.map_some, Option.some.injEq] at h2
            simp [sizeOf, Sem.run_bind, run_info hi, h2]
        · cases h
      · cases h
    · cases h
  · cases h
theorem run_under {t : Nat} {d : TypeDesc} (h : P.underlying t = some d) : (underlying t).run P w = .ok d w := by simp [underlying, Sem.run_bind, run_program, h]
theorem run_part1 {z : Nat} (hz : P.underlying z = some (.int .i64)) {cs : Array Value} {i : Nat} {v : Value} (hv : cs[i]? = some v) : (part z cs i).run P w = .ok v w := by
  simp [part, isAgg, Sem.run_bind, run_under hz, hv]
theorem run_eqTwo {k z : Nat} (hk : P.underlying k = some (.array 2 z)) (hz : P.underlying z = some (.int .i64)) (hs : (sizeOf z).run P w = .ok 1 w) (a b c d : Int) :
    (Op.equal k (.agg #[.int .i64 a, .int .i64 b]) (.agg #[.int .i64 c, .int .i64 d])).run P w = .ok (decide (a = c ∧ b = d)) w := by
  obtain ⟨dp, hdp⟩ : ∃ dp, Op.maxDepth = dp + 1 + 1 := ⟨9998, rfl⟩
  have h1 : ∀ x y : Int, (Op.equalIn (dp + 1) z (.int .i64 x) (.int .i64 y)).run P w = .ok (x == y) w := fun x y => by
    simp [Op.equalIn, Sem.run_bind, run_under hz]
  unfold Op.equal
  rw [hdp]
  unfold Op.equalIn
  simp only [Sem.run_bind, run_under hk, Result.andThen_ok, hs]
  have e : ([0:2] : Std.Legacy.Range) = ⟨0, 2, 1, by decide⟩ := rfl
  simp [Std.Legacy.Range.forIn_eq_forIn_range', Std.Legacy.Range.size, List.range', Sem.run_bind, run_part1 hz, h1]
  by_cases h : a = c <;> by_cases h2 : b = d <;> simp [h, h2, Sem.run_bind, run_part1 hz, h1]
def placeOf (key : MK) : List MK → Nat → Option Nat
  | [], _ => none
  | k :: l, i => if key = k then some i else placeOf key l (i + 1)
theorem placeOf_none {key : MK} : ∀ {l : List MK} {i : Nat}, key ∉ l → placeOf key l i = none
  | [], _, _ => rfl
  | k :: l, i, h => by
    simp only [placeOf]
    rw [if_neg (fun e => h (by rw [e]; exact List.mem_cons_self ..))]
    exact placeOf_none (fun hm => h (List.mem_cons_of_mem _ hm))
theorem placeOf_some {key : MK} : ∀ {l : List MK} {i : Nat}, key ∈ l → ∃ j, placeOf key l i = some j
  | [], _, h => by cases h
  | k :: l, i, h => by
    simp only [placeOf]
    by_cases e : key = k
    · rw [if_pos e]; exact ⟨_, rfl⟩
    · rw [if_neg e]
      rcases List.mem_cons.1 h with h | h
      · exact absurd h e
      · exact placeOf_some h
theorem run_findAsking {k z : Nat} (hk : P.underlying k = some (.array 2 z)) (hz : P.underlying z = some (.int .i64)) (hs : (sizeOf z).run P w = .ok 1 w) {key : MK} (hkey : key.of .two = true) :
    ∀ (l : List MapEntry) (ks : List MK) (i : Nat), l.map (fun e => e.key) = ks.map MK.val → (∀ x ∈ ks, x.of .two = true) → (∀ e ∈ l, e.val = .bool true) →
      (Instr.findAsking k key.val l i).run P w = .ok ((placeOf key ks i).map fun j => (j, .bool true)) w
  | [], [], i, _, _, _ => by simp [Instr.findAsking, placeOf]
  | [], _ :: _, _, h, _, _ => by simp at h
  | _ :: _, [], _, h, _, _ => by simp at h
  | e :: l, x :: ks, i, h, hx, hv => by
    simp only [List.map_cons, List.cons.injEq] at h
    have hx0 := hx x (List.mem_cons_self ..)
    cases key with
    | two a b =>
      cases x with
      | two c d =>
        have heq := run_eqTwo (P := P) (w := w) hk hz hs a b c d
        simp only [Instr.findAsking, placeOf, Sem.run_bind]
        rw [h.1]
        simp only [MK.val]
        rw [heq]
        simp only [Result.andThen_ok]
        by_cases e1 : a = c ∧ b = d
        · simp [e1, hv e (List.mem_cons_self ..)]
        · have e2 : ¬ (MK.two a b = MK.two c d) := fun h => e1 (by cases h; exact ⟨rfl, rfl⟩)
          simp only [e1, e2, decide_false, Bool.false_eq_true, if_false]
          exact run_findAsking hk hz hs hkey l ks (i + 1) h.2 (fun y hy => hx y (List.mem_cons_of_mem _ hy)) (fun e' he' => hv e' (List.mem_cons_of_mem _ he'))
      | _ => cases hx0
    | _ => cases hkey
theorem find_now {κ : KT} {d : TypeDesc} (hd : (κ = .str ∧ d = .string) ∨ (κ = .int ∧ d = .int .i64)) {key : MK} (hkey : key.of κ = true) :
    ∀ (l : List MapEntry) (ks : List MK) (i : Nat), l.map (fun e => e.key) = ks.map MK.val → (∀ x ∈ ks, x.of κ = true) → (∀ e ∈ l, e.val = .bool true) →
      Instr.findNow d key.val l i = some ((placeOf key ks i).map fun j => (j, .bool true))
  | [], [], i, _, _, _ => by simp [Instr.findNow, placeOf]
  | [], _ :: _, _, h, _, _ => by simp at h
  | _ :: _, [], _, h, _, _ => by simp at h
  | e :: l, x :: ks, i, h, hx, hv => by
    simp only [List.map_cons, List.cons.injEq] at h
    have hx0 := hx x (List.mem_cons_self ..)
    have hve := hv e (List.mem_cons_self ..)
    have ih := find_now hd hkey l ks (i + 1) h.2 (fun y hy => hx y (List.mem_cons_of_mem _ hy)) (fun e' he' => hv e' (List.mem_cons_of_mem _ he'))
    rcases hd with ⟨rfl, rfl⟩ | ⟨rfl, rfl⟩
    · cases key <;> first | (cases hkey; done) | skip
      cases x <;> first | (cases hx0; done) | skip
      rename_i s s'
      simp only [Instr.findNow, placeOf, MK.val] at ih ⊢
      rw [h.1]
      simp only [MK.val, Instr.sameNow]
      by_cases e1 : s = s'
      · subst e1
        have e3 : (s == s) = true := (MapKept.bytes_beq s s).2 rfl
        simp [hve, e3]
      · have e2 : ¬ (MK.str s = MK.str s') := fun h => e1 (by cases h; rfl)
        have e3 : (s == s') = false := by
          cases hb : s == s'
          · rfl
          · exact absurd ((MapKept.bytes_beq s s').1 hb) e1
        simp only [e2, e3, if_false]
        exact ih
    · cases key <;> first | (cases hkey; done) | skip
      cases x <;> first | (cases hx0; done) | skip
      rename_i s s'
      simp only [Instr.findNow, placeOf, MK.val] at ih ⊢
      rw [h.1]
      simp only [MK.val, Instr.sameNow, if_true]
      by_cases e1 : s = s'
      · subst e1; simp [hve]
      · have e2 : ¬ (MK.int s = MK.int s') := fun h => e1 (by cases h; rfl)
        have e3 : (s == s') = false := by simpa using e1
        simp only [e2, e3, if_false]
        exact ih
theorem run_findKey {t : Nat} {κ : KT} (h : mapKT P t = some κ) : ∃ k e, P.underlying t = some (.map k e) ∧ (zeroValue e).run P w = .ok (.bool false) w ∧
    (∀ (em : Bool) (key : MK), key.of κ = true → (Instr.checkKey em 10000 k key.val).run P w = .ok () w) ∧
    ∀ (key : MK) (l : List MapEntry) (ks : List MK), key.of κ = true → l.map (fun e => e.key) = ks.map MK.val → (∀ x ∈ ks, x.of κ = true) → (∀ e ∈ l, e.val = .bool true) →
      (Instr.findKey k key.val l).run P w = .ok ((placeOf key ks 0).map fun j => (j, .bool true)) w := by
  obtain ⟨k, e, h1, h2, h3⟩ := mapKT_some (w := w) h
  refine ⟨k, e, h1, h2, fun em key hk => ?_, fun key l ks hk hl hks hv => ?_⟩
  · obtain ⟨n, hn⟩ : ∃ n, 10000 = n + 1 + 1 := ⟨9998, rfl⟩
    rw [hn]
    cases κ with
    | str => cases key <;> first | (cases hk; done) | (simp [Instr.checkKey, Sem.run_bind, run_under h3, MK.val])
    | int => cases key <;> first | (cases hk; done) | (simp [Instr.checkKey, Sem.run_bind, run_under h3, MK.val])
    | two =>
      obtain ⟨z, g1, g2, g3⟩ := h3
      cases key <;> first | (cases hk; done) | skip
      unfold Instr.checkKey
      simp [MK.val, Sem.run_bind, run_under g1, g3, Std.Legacy.Range.forIn_eq_forIn_range', Std.Legacy.Range.size, List.range', run_part1 g2, Instr.checkKey, run_under g2]
  · unfold Instr.findKey
    cases κ with
    | str =>
      simp only [Sem.run_bind, run_under h3, Result.andThen_ok]
      rw [find_now (Or.inl ⟨rfl, rfl⟩) hk l ks 0 hl hks hv]
      simp
    | int =>
      simp only [Sem.run_bind, run_under h3, Result.andThen_ok]
      rw [find_now (Or.inr ⟨rfl, rfl⟩) hk l ks 0 hl hks hv]
      simp
    | two =>
      obtain ⟨z, g1, g2, g3⟩ := h3
      simp only [Sem.run_bind, run_under g1, Result.andThen_ok]
      have hask := run_findAsking (P := P) (w := w) g1 g2 g3 hk l ks 0 hl hks hv
      cases l with
      | nil =>
        cases ks with
        | nil => simp [Instr.findNow, placeOf]
        | cons => simp at hl
      | cons e0 l =>
        have : Instr.findNow (.array 2 z) key.val (e0 :: l) 0 = none := by
          cases key <;> first | (cases hk; done) | (simp [Instr.findNow, Instr.sameNow, MK.val])
        rw [this]
        exact hask
def keyOfS : ST → Option MK
  | .v (.one (.str s)) => some (.str s)
  | .v (.one (.int .i64 n)) => some (.int n)
  | .v (.agg [.int .i64 a, .int .i64 b]) => some (.two a b)
  | _ => none
end
section
variable {P : Program} {w : World} {w0 : W0} {ok0 : Bool → Nat → Prop} {N : Nat} {σ : SS} {a : Act} {mu : Nat → Option (Nat × Nat)}
theorem IM.key (h : IM w0 ok0 N σ mu a w) {x : Operand} {key : MK} (hk : keyOfS (σ.ev x) = some key) : a.eval x = key.val := by
  have hv := h.ev x
  unfold keyOfS at hk
  split at hk
  · rename_i s e; cases hk; rw [e] at hv; have hv := R1.c0 hv rfl; generalize a.eval x = V at hv; cases hv; rfl
  · rename_i n e; cases hk; rw [e] at hv; have hv := R1.c0 hv rfl; generalize a.eval x = V at hv; cases hv; rfl
  · rename_i p q e
    cases hk; rw [e] at hv
    obtain ⟨arr, h1, h2, h3⟩ := hv
    obtain ⟨u, hu, hr⟩ := h3 0 _ rfl
    obtain ⟨u', hu', hr'⟩ := h3 1 _ rfl
    have hr := R1.c0 hr rfl
    have hr' := R1.c0 hr' rfl
    cases hr; cases hr'
    rw [h1]
    have : arr = #[.int .i64 p, .int .i64 q] := by
      apply Array.ext_getElem?
      intro i
      match i with
      | 0 => simpa using hu
      | 1 => simpa using hu'
      | i + 2 => rw [Array.getElem?_eq_none (by simp at h2; omega), Array.getElem?_eq_none (by simp)]
    rw [this]; rfl
  · cases hk
theorem IM.mapv (h : IM w0 ok0 N σ mu a w) {x : Operand} {v : Value} (hk : σ.ev x = .v (.one (.val v))) : a.eval x = v := by
  have hv := h.ev x
  rw [hk] at hv
  have hv := R1.c0 hv rfl
  generalize a.eval x = V at hv
  cases hv; rfl
theorem spec_makeMap {d : Option Nat} {t ty : Nat} {pos : String} {af : Array Edge} {g : Option (Nat × Bool)} {K : SS → Prop} {tk : Tok K}
    (k : ∀ r, (∀ p ∈ σ.x.maps, p.1 ≠ r) → K ((σ.wx { σ.x with maps := (r, []) :: σ.x.maps }).put d (.v (.one (.val (.map (some r))))))) : eS P σ ⟨d, .makeMap t none, ty, pos, af, g⟩ K tk := by
  intro w0 ok0 N a w next Q hi hd hK
  refine toIn rfl ?_
  obtain ⟨mu, h⟩ := hi.im
  have hrun : (execOp a.eval ⟨d, .makeMap t none, ty, pos, af, g⟩).run P w = .ok (.value (.map (some w.heap.size))) (w.alloc (.map #[] 0)) := by
    rfl
  unfold Oper.wp
  rw [hrun, Oper.upon_value]
  have hb : Below w.heap.size w (w.alloc (.map #[] 0)) := (Below.refl _ _).alloc (Nat.le_refl _) _
  have hm := h.m.called h.below.size hb
  have hne : ∀ p ∈ σ.x.maps, p.1 ≠ w.heap.size := fun p hp e => by
    obtain ⟨_, ents, clock, h1, _⟩ := h.m.ext.maps p hp
    have := (Array.getElem?_eq_some_iff.1 h1).1
    omega
  refine hK _ _ _ (k w.heap.size hne) ?_
  have hm2 : InvM w0 ok0 (σ.wx { σ.x with maps := (w.heap.size, []) :: σ.x.maps }) mu a (w.alloc (.map #[] 0)) :=
    ⟨hm.tmps, hm.objs, hm.inj, hm.fresh, hm.lent, ⟨fun p hp => by
      rcases List.mem_cons.1 hp with rfl | hp
      · exact ⟨h.below.size, #[], 0, heap_alloc_new w _, rfl, fun e he => by simp at he⟩
      · exact hm.ext.maps p hp, by
      simp only [SS.wx, List.map_cons, List.nodup_cons]
      refine ⟨fun hmem => ?_, hm.ext.nodup⟩
      obtain ⟨p, hp, e⟩ := List.mem_map.1 hmem
      exact hne p hp e, hm.ext.ctx, hm.ext.st, hm.ext.base, hm.ext.bst, hm.ext.zed, hm.ext.rnd⟩⟩
  exact ⟨h.below.called hb, by rw [size_put, h.size], by rw [defers_put]; exact h.defers.step (.of_below hb), mu, hm2.put h.size d hd _ _ (R1.c (.val _ rfl))⟩
theorem spec_lookup {d : Option Nat} {t ty : Nat} {m x : Operand} {pos : String} {af : Array Edge} {g : Option (Nat × Bool)} {K : SS → Prop} {tk : Tok K} {κ : KT} {r : Nat} {ks : List MK} {key : MK}
    (ht : mapKT P t = some κ) (hm : σ.ev m = .v (.one (.val (.map (some r))))) (hr : (r, ks) ∈ σ.x.maps) (hks : ∀ x ∈ ks, x.of κ = true) (hx : keyOfS (σ.ev x) = some key) (hkey : key.of κ = true)
    (k : K (σ.put d (B (decide (key ∈ ks))))) : eS P σ ⟨d, .lookup t m x false, ty, pos, af, g⟩ K tk := by
  intro w0 ok0 N a w next Q hi hd hK
  refine toIn rfl ?_
  obtain ⟨mu, h⟩ := hi.im
  obtain ⟨k', e, g1, g2, g3, g4⟩ := run_findKey (w := w) ht
  obtain ⟨_, ents, clock, h1, h2, h3⟩ := h.m.ext.maps _ hr
  have hmv := h.mapv hm
  have hxv := h.key hx
  have hf := g4 key ents.toList ks hkey h2 hks h3
  have hrun : (Instr.lookup t (a.eval m) (a.eval x) false).run P w = .ok (.bool (decide (key ∈ ks))) w := by
    unfold Instr.lookup
    rw [hmv, hxv]
    simp only [Sem.run_bind, run_under g1, Result.andThen_ok]
    have hget : (getObj r).run P w = .ok (.map ents clock) w := by simp [getObj, Sem.run, h1]
    simp only [Sem.run_bind, hget, Result.andThen_ok, Sem.run_pure, g3 ents.isEmpty key hkey, hf]
    by_cases hin : key ∈ ks
    · obtain ⟨j, hj⟩ := placeOf_some (i := 0) hin
      simp [hj, hin]
    · simp [placeOf_none hin, hin, Sem.run_bind, g2]
  exact wp_val h (r := B (decide (key ∈ ks))) (v := .bool (decide (key ∈ ks))) (run_vals (s := Instr.lookup t (a.eval m) (a.eval x) false) (by simp only [execOp]) hrun) (R1.c (.bool _)) hd (fun a' w' hi => hK _ a' w' k hi)
def putKey (r : Nat) (key : MK) (l : List (Nat × List MK)) : List (Nat × List MK) := l.map fun p => if p.1 = r then (p.1, p.2 ++ [key]) else p
theorem spec_mapUpdate {d : Option Nat} {t ty : Nat} {m x v : Operand} {pos : String} {af : Array Edge} {g : Option (Nat × Bool)} {K : SS → Prop} {tk : Tok K} {κ : KT} {r : Nat} {ks : List MK} {key : MK}
    (ht : mapKT P t = some κ) (hm : σ.ev m = .v (.one (.val (.map (some r))))) (hr : (r, ks) ∈ σ.x.maps) (hks : ∀ x ∈ ks, x.of κ = true) (hx : keyOfS (σ.ev x) = some key) (hkey : key.of κ = true) (hv : σ.ev v = B true) (hnew : key ∉ ks)
    (k : K ((σ.wx { σ.x with maps := putKey r key σ.x.maps }).put d .any)) : eS P σ ⟨d, .mapUpdate t m x v, ty, pos, af, g⟩ K tk := by
  intro w0 ok0 N a w next Q hi hd hK
  refine toIn rfl ?_
  obtain ⟨mu, h⟩ := hi.im
  obtain ⟨k', e, g1, g2, g3, g4⟩ := run_findKey (w := w) ht
  obtain ⟨hr0, ents, clock, h1, h2, h3⟩ := h.m.ext.maps _ hr
  have hmv := h.mapv hm
  have hxv := h.key hx
  have hvv := h.bool hv
  have hf := g4 key ents.toList ks hkey h2 hks h3
  rw [placeOf_none hnew] at hf
  let ob' : Go.Obj := .map (ents.push { key := key.val, val := .bool true, born := clock }) (clock + 1)
  have hrun : (Instr.mapUpdate t (a.eval m) (a.eval x) (a.eval v)).run P w = .ok () (w.putObj r ob') := by
    unfold Instr.mapUpdate
    rw [hmv, hxv, hvv]
    simp only [Sem.run_bind, run_under g1, Result.andThen_ok]
    have hget : (getObj r).run P w = .ok (.map ents clock) w := by simp [getObj, Sem.run, h1]
    simp only [Sem.run_bind, hget, Result.andThen_ok, Sem.run_pure, g3 false key hkey, hf, Option.map_none]
    simp [setObj, Sem.run, h1, World.putObj, ob']
  have hexec : (execOp a.eval ⟨d, .mapUpdate t m x v, ty, pos, af, g⟩).run P w = .ok .skip (w.putObj r ob') := by
    show ((do Instr.mapUpdate t (a.eval m) (a.eval x) (a.eval v); pure Next.skip : Sem Next)).run P w = _
    simp only [Sem.run_bind, hrun, Result.andThen_ok, Sem.run_pure]
  unfold Oper.wp
  rw [hexec, Oper.upon_skip]
  refine hK _ _ _ k ?_
  have hother : ∀ b : Nat, b ≠ r → (w.putObj r ob').heap[b]? = w.heap[b]? := fun b hb => World.putObj_heap_other hb
  have hlt : r < w.heap.size := (Array.getElem?_eq_some_iff.1 h1).1
  have hself : (w.putObj r ob').heap[r]? = some ob' := by simp [World.putObj, hlt]
  have hcell : ∀ (p : Addr) (u : Value), w.cell? p = some u → (w.putObj r ob').cell? p = some u := fun p u hp => by
    unfold World.cell? at hp ⊢
    by_cases e : p.block = r
    · rw [e, h1] at hp; cases hp
    · rw [hother _ e]; exact hp
  have hsz : (w.putObj r ob').heap.size = w.heap.size := by simp
  have hok : ∀ fr b, okOf w0 ok0 σ mu w fr b → okOf w0 ok0 (σ.wx { σ.x with maps := putKey r key σ.x.maps }) mu (w.putObj r ob') fr b := fun fr b ⟨q1, q2, q3⟩ => ⟨q1, by rw [hsz]; exact q2, q3⟩
  have hbel : Bel w0 (w.putObj r ob') := ⟨h.below.os, h.below.tape, h.below.output, by rw [hsz]; exact h.below.size, fun b hb hx' hz => (hother b (by omega)).trans (h.below.block b hb hx' hz)⟩
  have hnc : ∀ (b : Nat) (o : Go.Obj), w.heap[b]? = some o → isMap o = false → (w.putObj r ob').heap[b]? = some o := fun b o ho hc => (hother b (by rintro rfl; rw [h1] at ho; cases ho; cases hc)).trans ho
  have hm2 : InvM w0 ok0 (σ.wx { σ.x with maps := putKey r key σ.x.maps }) mu a (w.putObj r ob') := by
    refine ⟨fun t => RT.kept hok hcell (fun _ _ h => h) (h.m.tmps t), fun o ob ho => ?_, h.m.inj, h.m.fresh, h.m.lent, ⟨fun p hp => ?_, ?_, ?_, h.m.ext.st, h.m.ext.base, h.m.ext.bst, h.m.ext.zed, fun l hl => ?_⟩⟩
    · obtain ⟨b, cur, l1, l2, l3, l4, l5⟩ := h.m.objs o ob ho
      refine ⟨b, cur, l1, l2, hnc _ _ l3 rfl, l4, fun j s hj => ?_⟩
      obtain ⟨u, hu, hr'⟩ := l5 j s hj
      exact ⟨u, hu, R1.kept hok hcell (fun _ _ h => h) hr'⟩
    · simp only [SS.wx, putKey, List.mem_map] at hp
      obtain ⟨q, hq, rfl⟩ := hp
      obtain ⟨q1, q2⟩ := h.m.ext.maps q hq
      by_cases e : q.1 = r
      · rw [if_pos e]
        refine ⟨q1, ?_⟩
        have hqq : q = (r, ks) := by
          have hn := h.m.ext.nodup
          rw [List.nodup_iff_pairwise_ne, List.pairwise_map] at hn
          by_cases heq : q = (r, ks)
          · exact heq
          · exfalso
            rcases List.getElem_of_mem hq with ⟨i1, l1, e1⟩
            rcases List.getElem_of_mem hr with ⟨i2, l2, e2⟩
            rcases Nat.lt_trichotomy i1 i2 with hlt' | heq' | hlt'
            · exact (List.pairwise_iff_getElem.1 hn i1 i2 l1 l2 hlt') (by rw [e1, e2]; exact e)
            · subst heq'; exact heq (e1.symm.trans e2)
            · exact (List.pairwise_iff_getElem.1 hn i2 i1 l2 l1 hlt') (by rw [e1, e2]; exact e.symm)
        subst hqq
        refine ⟨_, _, hself, by simp [h2], fun e' he' => ?_⟩
        rw [Array.toList_push, List.mem_append] at he'
        rcases he' with he' | he'
        · exact h3 e' he'
        · simp at he'; subst he'; rfl
      · rw [if_neg e]
        obtain ⟨ents', clock', l1, l2, l3⟩ := q2
        exact ⟨q1, ents', clock', (hother _ e).trans l1, l2, l3⟩
    · simp only [SS.wx]
      have : (putKey r key σ.x.maps).map (·.1) = σ.x.maps.map (·.1) := by
        simp only [putKey, List.map_map]
        exact List.map_congr_left (fun p _ => by simp only [Function.comp]; split <;> rfl)
      rw [this]; exact h.m.ext.nodup
    · exact h.m.ext.st _ _ _ _ h.m.ext.ctx ⟨rfl, rfl, rfl, Nat.le_of_eq hsz.symm, hok, fun _ _ _ a v _ hv => hcell a v hv, fun b hz => hother b (by obtain ⟨z1, _⟩ := h.m.ext.zed b hz; omega)⟩
    · obtain ⟨q1, q, q2⟩ := h.m.ext.rnd l hl
      exact ⟨q1, q, hnc _ _ q2 rfl⟩
  exact ⟨hbel, by rw [size_put, h.size], by
    rw [defers_put]
    exact ⟨h.defers.1, fun d' hd' => by obtain ⟨r', q1, q2, q3⟩ := h.defers.2 d' hd'; exact ⟨r', q1, q2, hnc _ _ q3 rfl⟩⟩, mu, hm2.put h.size d hd _ _ (RT.any _)⟩
end
end Go.Proofs.YtaljbebkooppiaaGreat.Sh

