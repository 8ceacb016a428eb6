/- A part of the proof: Sh13x, Sh14, Sh15 -/
import Derived.Test.YtockjmmogkhepaaL3
set_option linter.unusedSimpArgs false
set_option linter.unusedVariables false
/- The logic of shadows, part 13x: calls to which memory of the caller's own is lent, and that hand over new memory. -/
namespace Go.Proofs.Ytockjmmogkhepaa.Sh
open Go Go.RowKit

/-! ### Other names for objects -/
def S1.ren (ρ : Nat → Nat) : S1 → S1
  | .ms o off len e full => .ms (ρ o) off len e full
  | .mp o off => .mp (ρ o) off
  | s => s
def SV.ren (ρ : Nat → Nat) : SV → SV
  | .one s => .one (s.ren ρ)
  | .agg l => .agg (l.map (S1.ren ρ))
def ST.ren (ρ : Nat → Nat) : ST → ST
  | .v x => .v (x.ren ρ)
  | .tup l => .tup (l.map (SV.ren ρ))

section
variable {w w' : World} {mu mu' : Nat → Option (Nat × Nat)} {ok ok' : Bool → Nat → Prop}

theorem R1.unren {ρ : Nat → Nat} (hm : ∀ o p, mu (ρ o) = some p → mu' o = some p) {v : Value} {s : S1} (h : R1 w mu ok v (s.ren ρ)) : R1 w mu' ok v s := by
  cases s with
  | ms o off len e full =>
    cases h with
    | c h => cases h
    | ms _ _ _ _ _ b cc cap off' h1 h2 h3 h4 h5 h6 => exact .ms o off len e full b cc cap off' (hm _ _ h1) h2 h3 h4 h5 h6
  | mp o off =>
    cases h with
    | c h => cases h
    | mp _ _ b cc h1 => exact .mp o off b cc (hm _ _ h1)
  | _ => exact .c (h.c0 rfl)

theorem R1.ren {ρ : Nat → Nat} (hm : ∀ o p, mu o = some p → mu' (ρ o) = some p) {v : Value} {s : S1} (h : R1 w mu ok v s) : R1 w mu' ok v (s.ren ρ) := by
  cases h with
  | ms o off len e full b cc cap off' h1 h2 h3 h4 h5 h6 => exact .ms (ρ o) off len e full b cc cap off' (hm _ _ h1) h2 h3 h4 h5 h6
  | mp o off b cc h1 => exact .mp (ρ o) off b cc (hm _ _ h1)
  | c h =>
    have : s.ren ρ = s := by cases h <;> rfl
    rw [this]; exact .c h

theorem RV.unren {ρ : Nat → Nat} (hm : ∀ o p, mu (ρ o) = some p → mu' o = some p) {v : Value} : ∀ {x : SV}, RV w mu ok v (x.ren ρ) → RV w mu' ok v x
  | .one _, h => R1.unren hm h
  | .agg l, ⟨arr, h1, h2, h3⟩ => ⟨arr, h1, by simpa using h2, fun j s hj => by
      obtain ⟨u, hu, hr⟩ := h3 j (s.ren ρ) (by simp [hj])
      exact ⟨u, hu, R1.unren hm hr⟩⟩

theorem RV.ren {ρ : Nat → Nat} (hm : ∀ o p, mu o = some p → mu' (ρ o) = some p) {v : Value} : ∀ {x : SV}, RV w mu ok v x → RV w mu' ok v (x.ren ρ)
  | .one _, h => R1.ren hm h
  | .agg l, ⟨arr, h1, h2, h3⟩ => ⟨arr, h1, by simpa using h2, fun j s hj => by
      simp only [List.getElem?_map, Option.map_eq_some_iff] at hj
      obtain ⟨s', hj, rfl⟩ := hj
      obtain ⟨u, hu, hr⟩ := h3 j s' hj
      exact ⟨u, hu, R1.ren hm hr⟩⟩

theorem RT.ren {ρ : Nat → Nat} (hm : ∀ o p, mu o = some p → mu' (ρ o) = some p) {v : Value} : ∀ {x : ST}, RT w mu ok v x → RT w mu' ok v (x.ren ρ)
  | .v _, h => RV.ren hm h
  | .tup l, ⟨arr, h1, h2, h3⟩ => ⟨arr, h1, by simpa using h2, fun j s hj => by
      simp only [List.getElem?_map, Option.map_eq_some_iff] at hj
      obtain ⟨s', hj, rfl⟩ := hj
      obtain ⟨u, hu, hr⟩ := h3 j s' hj
      exact ⟨u, hu, RV.ren hm hr⟩⟩

theorem RT.unren {ρ : Nat → Nat} (hm : ∀ o p, mu (ρ o) = some p → mu' o = some p) {v : Value} : ∀ {x : ST}, RT w mu ok v (x.ren ρ) → RT w mu' ok v x
  | .v _, h => RV.unren hm h
  | .tup l, ⟨arr, h1, h2, h3⟩ => ⟨arr, h1, by simpa using h2, fun j s hj => by
      obtain ⟨u, hu, hr⟩ := h3 j (s.ren ρ) (by simp [hj])
      exact ⟨u, hu, RV.unren hm hr⟩⟩

/-- Where an object lies, and what its cells are. -/
def ObjAt (w : World) (mu : Nat → Option (Nat × Nat)) (ok : Bool → Nat → Prop) (o : Nat) (ob : SObj) : Prop :=
  ∃ b cur, mu o = some (b, cur.size) ∧ w.heap[b]? = some (.cells cur ob.ty (0, 0)) ∧ ob.cells.length ≤ cur.size ∧ ∀ (j : Nat) (s : S1), ob.cells[j]? = some s → ∃ u, cur[j]? = some u ∧ R1 w mu ok u s

/-- What is lent to a call. -/
structure LentIn (w : World) (okk : Bool → Nat → Prop) (mu : Nat → Option (Nat × Nat)) (objs0 : List SObj) : Prop where
  ok : ∀ fr b, okk fr b → b < w.heap.size ∧ ∀ o cc, mu o ≠ some (b, cc)
  none : ∀ o, objs0.length ≤ o → mu o = none
  inj : ∀ o o' b c c', mu o = some (b, c) → mu o' = some (b, c') → o = o'
  objs : ∀ o ob, objs0[o]? = some ob → ObjAt w mu okk o ob

/-- In which blocks, behind a call, what is read for ever may lie. -/
def okX (w : World) (ok : Bool → Nat → Prop) (mu : Nat → Option (Nat × Nat)) (w' : World) (mu' : Nat → Option (Nat × Nat)) (objs1 : List (Option SObj)) (fr : Bool) (b : Nat) : Prop :=
  (ok fr b ∨ w.heap.size ≤ b ∨ ∃ o cc, mu o = some (b, cc)) ∧ b < w'.heap.size ∧ ∀ o ob cc, objs1[o]? = some (some ob) → mu' o ≠ some (b, cc)

/-- What a call leaves. -/
structure LentOut (w : World) (ok : Bool → Nat → Prop) (mu : Nat → Option (Nat × Nat)) (k : Nat) (w' : World) (mu' : Nat → Option (Nat × Nat)) (objs1 : List (Option SObj)) : Prop where
  same : ∀ o, o < k → mu' o = mu o
  none : ∀ o, objs1.length ≤ o → mu' o = none
  inj : ∀ o o' ob ob' b c c', objs1[o]? = some (some ob) → objs1[o']? = some (some ob') → mu' o = some (b, c) → mu' o' = some (b, c') → o = o'
  objs : ∀ o ob, objs1[o]? = some (some ob) → ObjAt w' mu' (okX w ok mu w' mu' objs1) o ob
  new : ∀ o ob b cc, objs1[o]? = some (some ob) → mu' o = some (b, cc) → w.heap.size ≤ b ∨ ∃ o' cc', mu o' = some (b, cc')
  bel : Bel ⟨w, mu⟩ w'

/-- What a call comes to, to which objects are lent: their cells behind it (none: it is used up), and those of new objects that it hands over. -/
def CallsX (P : Program) (f : Nat) (args : List SV) (objs0 : List SObj) (r : ST) (objs1 : List (Option SObj)) : Prop :=
  isFn P f ∧ objs0.length ≤ objs1.length ∧ ∀ (w : World) (vals : Array Value) (ok : Bool → Nat → Prop) (mu : Nat → Option (Nat × Nat)), LentIn w ok mu objs0 → vals.size = args.length →
    (∀ (i : Nat) (x : SV), args[i]? = some x → RV w mu ok (vals.getD i undef) x) →
    Calls P f vals w fun e w' => ∃ v mu', e = .returned v ∧ LentOut w ok mu objs0.length w' mu' objs1 ∧ RT w' mu' (okX w ok mu w' mu' objs1) v r
end

section
variable {w0 : W0} {w w' : World} {ok0 : Bool → Nat → Prop} {N : Nat} {σ : SS} {a : Act} {mu : Nat → Option (Nat × Nat)} {P : Program}

/-- The arguments of a call, as data; they may lead to objects of the call's own. -/
def argsX (σ : SS) : List Operand → Option (List SV)
  | [] => some []
  | x :: l => match σ.ev x, argsX σ l with
    | .v y, some ys => some (y :: ys)
    | _, _ => none

theorem argsX_spec (h : IM w0 ok0 N σ mu a w) : ∀ {l : List Operand} {ys : List SV}, argsX σ l = some ys → l.length = ys.length ∧ ∀ (i : Nat) (y : SV), ys[i]? = some y → ∃ x, l[i]? = some x ∧ RV w mu (okOf w0 ok0 σ mu w) (a.eval x) y
  | [], ys, e => by cases e; exact ⟨rfl, fun i y hi => by simp at hi⟩
  | x :: l, ys, e => by
    simp only [argsX] at e
    split at e
    · rename_i y zs hx hl
      cases e
      obtain ⟨i1, i2⟩ := argsX_spec h hl
      refine ⟨by simp [i1], fun i y' hi => ?_⟩
      cases i with
      | zero =>
        simp at hi; subst hi
        refine ⟨x, rfl, ?_⟩
        have := h.ev x
        rw [hx] at this
        exact this
      | succ i => simp at hi; obtain ⟨x', g1, g2⟩ := i2 i y' hi; exact ⟨x', by simpa using g1, g2⟩
    · cases e

/-- The names of a call's objects with the caller: L: those that are lent; the new ones from n on. -/
def nm (L : List Nat) (n o : Nat) : Nat := match L[o]? with | some i => i | none => n + (o - L.length)

theorem nm_lent {L : List Nat} {n o : Nat} (h : o < L.length) : nm L n o = L[o] := by simp [nm, List.getElem?_eq_getElem h]
theorem nm_new {L : List Nat} {n o : Nat} (h : L.length ≤ o) : nm L n o = n + (o - L.length) := by simp [nm, List.getElem?_eq_none h]

def SObj.ren (ρ : Nat → Nat) (ob : SObj) : SObj := ⟨ob.ty, ob.cells.map (S1.ren ρ)⟩

/-- The objects that are lent are written anew. -/
def setX (ρ : Nat → Nat) : List Nat → List (Option SObj) → (Nat → Option SObj) → Nat → Option SObj
  | i :: L, x :: l, f => fun o => if o = i then x.map (SObj.ren ρ) else setX ρ L l f o
  | _, _, f => f

def newX (ρ : Nat → Nat) (l : List (Option SObj)) (i : Nat) : Option SObj := match l[i]? with
  | some (some ob) => some (ob.ren ρ)
  | _ => none
@[simp] theorem newX_nil (ρ : Nat → Nat) (i : Nat) : newX ρ [] i = none := rfl
@[simp] theorem newX_zero (ρ : Nat → Nat) (l : List (Option SObj)) (x : Option SObj) : newX ρ (x :: l) 0 = x.map (SObj.ren ρ) := by cases x <;> rfl
@[simp] theorem newX_succ (ρ : Nat → Nat) (l : List (Option SObj)) (x : Option SObj) (i : Nat) : newX ρ (x :: l) (i + 1) = newX ρ l i := rfl

/-- The state behind such a call. -/
def SS.afterX (σ : SS) (L : List Nat) (objs1 : List (Option SObj)) : SS :=
  { t := σ.t, objs := setX (nm L σ.n) L objs1 fun o => if σ.n ≤ o then newX (nm L σ.n) objs1 (L.length + (o - σ.n)) else σ.objs o, n := σ.n + (objs1.length - L.length) }

theorem setX_spec (ρ : Nat → Nat) (f : Nat → Option SObj) : ∀ (L : List Nat) (l : List (Option SObj)) (o : Nat), L.length ≤ l.length → L.Nodup → (∃ i : Nat, L[i]? = some o ∧ ∃ x : Option SObj, l[i]? = some x ∧ setX ρ L l f o = x.map (SObj.ren ρ)) ∨ (o ∉ L ∧ setX ρ L l f o = f o)
  | [], l, o, _, _ => Or.inr ⟨by simp, by simp [setX]⟩
  | i :: L, [], o, h, _ => by simp at h
  | i :: L, x :: l, o, h, hn => by
    simp only [setX]
    by_cases e : o = i
    · subst e; rw [if_pos rfl]; exact Or.inl ⟨0, rfl, x, rfl, rfl⟩
    · rw [if_neg e]
      rcases setX_spec ρ f L l o (by simpa using h) (List.nodup_cons.1 hn).2 with ⟨j, g1, y, g2, g3⟩ | ⟨g1, g2⟩
      · exact Or.inl ⟨j + 1, by simpa using g1, y, by simpa using g2, g3⟩
      · exact Or.inr ⟨by simp [e, g1], g2⟩

/-- Each object that is alive behind the call is one of the caller's that was not lent, or one that the call speaks of. -/
theorem afterX_objs {L : List Nat} {objs1 : List (Option SObj)} (hl : L.length ≤ objs1.length) (hn : L.Nodup) (hL : ∀ i ∈ L, i < σ.n) {o : Nat} {ob : SObj} (h : (σ.afterX L objs1).objs o = some ob) :
    (o ∉ L ∧ o < σ.n ∧ σ.objs o = some ob) ∨ ∃ i ob1, o = nm L σ.n i ∧ objs1[i]? = some (some ob1) ∧ ob = ob1.ren (nm L σ.n) := by
  simp only [SS.afterX] at h
  rcases setX_spec (nm L σ.n) (fun o => if σ.n ≤ o then newX (nm L σ.n) objs1 (L.length + (o - σ.n)) else σ.objs o) L objs1 o hl hn with ⟨i, g1, x, g2, g3⟩ | ⟨g1, g2⟩
  · rw [g3, Option.map_eq_some_iff] at h
    obtain ⟨ob1, rfl, rfl⟩ := h
    obtain ⟨hi, hg⟩ := List.getElem?_eq_some_iff.1 g1
    exact Or.inr ⟨i, ob1, by rw [nm_lent hi, hg], g2, rfl⟩
  · rw [g2] at h
    by_cases e : σ.n ≤ o
    · rw [if_pos e] at h
      unfold newX at h
      split at h
      · rename_i ob1 hx
        cases h
        exact Or.inr ⟨L.length + (o - σ.n), ob1, by rw [nm_new (by omega)]; omega, hx, rfl⟩
      · cases h
    · rw [if_neg e] at h
      exact Or.inl ⟨g1, by omega, h⟩

/-- What a call finds lent. -/
theorem InvM.lentIn (hm : InvM w0 ok0 σ mu a w) {L : List Nat} (hn : L.Nodup) {objs0 : List SObj} (hlen : L.length = objs0.length) (hobj : ∀ i ob, objs0[i]? = some ob → ∃ ob', σ.objs (nm L σ.n i) = some ob' ∧ ob'.ty = ob.ty ∧ subL ob'.cells (ob.cells.map (S1.ren (nm L σ.n)))) :
    LentIn w (okOf w0 ok0 σ mu w) (fun o => mu (nm L σ.n o)) objs0 := by
  have hlive : ∀ o p, mu (nm L σ.n o) = some p → o < L.length ∧ ∃ ob, σ.objs (nm L σ.n o) = some ob := by
    intro o p hp
    by_cases e : o < L.length
    · obtain ⟨ob', g, _⟩ := hobj o objs0[o] (List.getElem?_eq_getElem (by omega))
      exact ⟨e, ob', g⟩
    · rw [(hm.fresh (nm L σ.n o) (by rw [nm_new (by omega)]; omega)).2] at hp; cases hp
  refine ⟨fun fr b h => ⟨h.2.1, fun o cc ho => ?_⟩, fun o ho => ?_, fun o o' b c c' h1 h2 => ?_, fun o ob ho => ?_⟩
  · obtain ⟨_, ob, g⟩ := hlive o _ ho
    exact h.2.2 _ ob cc g ho
  · exact (hm.fresh (nm L σ.n o) (by rw [nm_new (by omega)]; omega)).2
  · obtain ⟨l1, ob, g⟩ := hlive o _ h1
    obtain ⟨l2, ob', g'⟩ := hlive o' _ h2
    have := hm.inj _ _ ob ob' b c c' g g' h1 h2
    rw [nm_lent l1, nm_lent l2] at this
    exact (List.getElem_inj hn).1 this
  · obtain ⟨ob', g1, g2, g3⟩ := hobj o ob ho
    obtain ⟨b, cur, k1, _, k3, k4, k5⟩ := hm.objs _ ob' g1
    obtain ⟨s1, s2⟩ := subL_spec g3
    refine ⟨b, cur, k1, by rw [← g2]; exact k3, by simpa [s1] using k4, fun j s hj => ?_⟩
    obtain ⟨s', hs', hsub⟩ := s2 j (s.ren (nm L σ.n)) (by simp [hj])
    obtain ⟨u, hu, hr⟩ := k5 j s' hs'
    exact ⟨u, hu, R1.unren (fun o p h => h) (R1.sub hr hsub)⟩

/-- The caller's state behind a call to which objects were lent. -/
theorem InvM.afterX (hbel : Bel w0 w) (hs : a.tmps.size = N) (hdf : a.defers = []) (hm : InvM w0 ok0 σ mu a w) {L : List Nat} (hn : L.Nodup) {objs1 : List (Option SObj)} (hL : ∀ i ∈ L, ∃ ob, σ.objs i = some ob) (hlen : L.length ≤ objs1.length) {mu' : Nat → Option (Nat × Nat)}
    (ho : LentOut w (okOf w0 ok0 σ mu w) (fun o => mu (nm L σ.n o)) L.length w' mu' objs1) (d : Option Nat) (hd : ∀ i, d = some i → i < N) {v : Value} {r : ST} (hr : RT w' mu' (okX w (okOf w0 ok0 σ mu w) (fun o => mu (nm L σ.n o)) w' mu' objs1) v r) :
    Inv w0 ok0 N ((σ.afterX L objs1).put d (r.ren (nm L σ.n))) (a.put d v) w' := by
  have hLn : ∀ i ∈ L, i < σ.n := fun i hi => by
    obtain ⟨ob, g⟩ := hL i hi
    by_cases h : i < σ.n
    · exact h
    · rw [(hm.fresh i (by omega)).1] at g; cases g
  have hmem : ∀ o, o < L.length → nm L σ.n o ∈ L := fun o h => by rw [nm_lent h]; exact List.getElem_mem _
  -- names behind the call
  let mu2 : Nat → Option (Nat × Nat) := fun o => if o < σ.n then mu o else mu' (L.length + (o - σ.n))
  have hmu : ∀ o p, mu o = some p → mu2 o = some p := fun o p hp => by
    have : o < σ.n := by
      by_cases h : o < σ.n
      · exact h
      · rw [(hm.fresh o (by omega)).2] at hp; cases hp
    show (if o < σ.n then mu o else _) = _
    rw [if_pos this]; exact hp
  have hren : ∀ o p, mu' o = some p → mu2 (nm L σ.n o) = some p := fun o p hp => by
    by_cases e : o < L.length
    · have h1 := hLn _ (hmem o e)
      show (if nm L σ.n o < σ.n then mu (nm L σ.n o) else _) = _
      rw [if_pos h1]
      rw [ho.same o e] at hp; exact hp
    · have h1 : nm L σ.n o = σ.n + (o - L.length) := nm_new (by omega)
      show (if nm L σ.n o < σ.n then mu (nm L σ.n o) else mu' (L.length + (nm L σ.n o - σ.n))) = _
      rw [if_neg (by omega), h1, show L.length + (σ.n + (o - L.length) - σ.n) = o by omega]; exact hp
  have hback : ∀ i p, mu2 (nm L σ.n i) = some p → mu' i = some p := fun o p hp => by
    by_cases e : o < L.length
    · have h1 := hLn _ (hmem o e)
      have hp : (if nm L σ.n o < σ.n then mu (nm L σ.n o) else mu' (L.length + (nm L σ.n o - σ.n))) = some p := hp
      rw [if_pos h1] at hp
      rw [ho.same o e]; exact hp
    · have h1 : nm L σ.n o = σ.n + (o - L.length) := nm_new (by omega)
      have hp : (if nm L σ.n o < σ.n then mu (nm L σ.n o) else mu' (L.length + (nm L σ.n o - σ.n))) = some p := hp
      rw [if_neg (by omega), h1, show L.length + (σ.n + (o - L.length) - σ.n) = o by omega] at hp; exact hp
  have hold : ∀ o, o < σ.n → mu2 o = mu o := fun o h => if_pos h
  -- a block that is lent is one of an object of the caller's
  have hlb : ∀ o b cc, mu (nm L σ.n o) = some (b, cc) → ∃ ob, σ.objs (nm L σ.n o) = some ob ∧ nm L σ.n o ∈ L := fun o b cc hp => by
    by_cases e : o < L.length
    · obtain ⟨ob, g⟩ := hL _ (hmem o e); exact ⟨ob, g, hmem o e⟩
    · rw [(hm.fresh (nm L σ.n o) (by rw [nm_new (by omega)]; omega)).2] at hp; cases hp
  have hheap : ∀ b, b < w.heap.size → (∀ o cc, mu (nm L σ.n o) ≠ some (b, cc)) → w'.heap[b]? = w.heap[b]? := fun b hb hx => ho.bel.block b hb (fun ⟨o, cc, h⟩ => hx o cc h)
  have hokh : ∀ fr b, okOf w0 ok0 σ mu w fr b → w'.heap[b]? = w.heap[b]? := fun fr b h => hheap b h.2.1 (fun o cc hp => by
    obtain ⟨ob, g, _⟩ := hlb o b cc hp
    exact h.2.2 _ ob cc g hp)
  have hX : ∀ o b cc, mu (nm L σ.n o) = some (b, cc) → w0.heap.size ≤ b ∨ w0.X b := fun o b cc hp => by
    obtain ⟨ob, g, _⟩ := hlb o b cc hp
    obtain ⟨b', cur, k1, k2, _⟩ := hm.objs _ ob g
    rw [hp] at k1
    obtain ⟨rfl, _⟩ := Prod.mk.inj (Option.some.inj k1)
    exact k2
  -- what may be read for ever
  have hnl : ∀ o ob b cc, (σ.afterX L objs1).objs o = some ob → mu2 o = some (b, cc) → (o ∉ L ∧ σ.objs o = some ob ∧ mu o = some (b, cc)) ∨ ∃ i ob1, objs1[i]? = some (some ob1) ∧ mu' i = some (b, cc) := by
    intro o ob b cc h1 h2
    rcases afterX_objs hlen hn hLn h1 with ⟨g1, g2, g3⟩ | ⟨i, ob1, rfl, g2, _⟩
    · exact Or.inl ⟨g1, g3, by rw [← hold o g2]; exact h2⟩
    · exact Or.inr ⟨i, ob1, g2, hback i _ h2⟩
  have hok1 : ∀ fr b, okX w (okOf w0 ok0 σ mu w) (fun o => mu (nm L σ.n o)) w' mu' objs1 fr b → okOf w0 ok0 (σ.afterX L objs1) mu2 w' fr b := by
    intro fr b ⟨h1, h2, h3⟩
    refine ⟨?_, h2, fun o ob cc g1 g2 => ?_⟩
    · rcases h1 with h | h | ⟨o, cc, h⟩
      · exact h.1
      · exact Or.inr (Or.inl (Nat.le_trans hbel.size h))
      · exact Or.inr (hX o b cc h)
    · rcases hnl o ob b cc g1 g2 with ⟨k1, k2, k3⟩ | ⟨i, ob1, k1, k2⟩
      · rcases h1 with h | h | ⟨o', cc', h⟩
        · exact h.2.2 o ob cc k2 k3
        · have := hm.lt k2 k3; omega
        · obtain ⟨ob', l1, l2⟩ := hlb o' b cc' h
          have := hm.inj o _ ob ob' b cc cc' k2 l1 k3 h
          rw [this] at k1; exact k1 l2
      · exact h3 i ob1 cc k1 k2
  have hok2 : ∀ fr b, okOf w0 ok0 σ mu w fr b → okOf w0 ok0 (σ.afterX L objs1) mu2 w' fr b := by
    intro fr b h
    refine ⟨h.1, Nat.lt_of_lt_of_le h.2.1 ho.bel.size, fun o ob cc g1 g2 => ?_⟩
    rcases hnl o ob b cc g1 g2 with ⟨_, k2, k3⟩ | ⟨i, ob1, k1, k2⟩
    · exact h.2.2 o ob cc k2 k3
    · rcases ho.new i ob1 b cc k1 k2 with k | ⟨o', cc', k⟩
      · have := h.2.1; omega
      · obtain ⟨ob', l1, _⟩ := hlb o' b cc' k
        exact h.2.2 _ ob' cc' l1 k
  have hbel2 : Bel w0 w' := ⟨ho.bel.os.trans hbel.os, ho.bel.tape.trans hbel.tape, ho.bel.output.trans hbel.output, Nat.le_trans hbel.size ho.bel.size, fun k hk hx =>
    (hheap k (Nat.lt_of_lt_of_le hk hbel.size) (fun o cc hp => by rcases hX o k cc hp with h | h; omega; exact hx h)).trans (hbel.block k hk hx)⟩
  refine ⟨hbel2, by rw [size_put, hs], by rw [defers_put, hdf], mu2, InvM.put (N := N) ⟨?_, ?_, ?_, ?_, fun o p h => hmu o p (hm.lent o p h)⟩ hs d hd v _ (RT.mono hok1 (fun _ _ _ => rfl) (fun _ _ h => h) (RT.ren hren hr))⟩
  · intro t; exact RT.mono hok2 hokh hmu (hm.tmps t)
  · intro o ob h
    rcases afterX_objs hlen hn hLn h with ⟨g1, g2, g3⟩ | ⟨i, ob1, rfl, g2, rfl⟩
    · obtain ⟨b, cur, k1, k2, k3, k4, k5⟩ := hm.objs o ob g3
      refine ⟨b, cur, hmu o _ k1, k2, (hheap b (Array.getElem?_eq_some_iff.1 k3).1 (fun o' cc hp => ?_)).trans k3, k4, fun j s hj => ?_⟩
      · obtain ⟨ob', l1, l2⟩ := hlb o' b cc hp
        have := hm.inj o _ ob ob' b cur.size cc g3 l1 k1 hp
        rw [this] at g1; exact g1 l2
      · obtain ⟨u, hu, hr⟩ := k5 j s hj
        exact ⟨u, hu, R1.mono hok2 hokh hmu hr⟩
    · obtain ⟨b, cur, k1, k3, k4, k5⟩ := ho.objs i ob1 g2
      refine ⟨b, cur, hren i _ k1, ?_, k3, by simpa [SObj.ren] using k4, fun j s hj => ?_⟩
      · rcases ho.new i ob1 b cur.size g2 k1 with k | ⟨o', cc', k⟩
        · exact Or.inl (Nat.le_trans hbel.size k)
        · exact hX o' b cc' k
      · simp only [SObj.ren, List.getElem?_map, Option.map_eq_some_iff] at hj
        obtain ⟨s', hj, rfl⟩ := hj
        obtain ⟨u, hu, hr⟩ := k5 j s' hj
        exact ⟨u, hu, R1.mono hok1 (fun _ _ _ => rfl) (fun _ _ h => h) (R1.ren hren hr)⟩
  · intro o o' ob ob' b c c' h1 h2 h3 h4
    have aux : ∀ o o' ob ob' c c' i ob1, (o ∉ L ∧ o < σ.n ∧ σ.objs o = some ob) → mu2 o = some (b, c) → o' = nm L σ.n i → objs1[i]? = some (some ob1) → ob' = ob1.ren (nm L σ.n) → mu2 o' = some (b, c') → False := by
      rintro o o' ob ob' c c' i ob1 ⟨g1, g2, g3⟩ q rfl k2 _ q'
      rw [hold o g2] at q
      rcases ho.new i ob1 b c' k2 (hback i _ q') with k | ⟨o'', cc', k⟩
      · have := hm.lt g3 q; omega
      · obtain ⟨ob'', l1, l2⟩ := hlb o'' b cc' k
        have := hm.inj o _ ob ob'' b c cc' g3 l1 q k
        rw [this] at g1; exact g1 l2
    rcases afterX_objs hlen hn hLn h1 with g | ⟨i, ob1, g1, g2, g3⟩ <;> rcases afterX_objs hlen hn hLn h2 with k | ⟨i', ob1', k1, k2, k3⟩
    · rw [hold o g.2.1] at h3; rw [hold o' k.2.1] at h4
      exact hm.inj o o' ob ob' b c c' g.2.2 k.2.2 h3 h4
    · exact (aux o o' ob ob' c c' i' ob1' g h3 k1 k2 k3 h4).elim
    · exact (aux o' o ob' ob c' c i ob1 k h4 g1 g2 g3 h3).elim
    · subst g1 k1
      rw [ho.inj i i' ob1 ob1' b c c' g2 k2 (hback i _ h3) (hback i' _ h4)]
  · intro o hno
    have hno' : σ.n + (objs1.length - L.length) ≤ o := hno
    refine ⟨?_, ?_⟩
    · cases he : (σ.afterX L objs1).objs o with
      | none => rfl
      | some ob =>
        rcases afterX_objs hlen hn hLn he with ⟨_, g2, _⟩ | ⟨i, ob1, rfl, g2, _⟩
        · omega
        · have := (List.getElem?_eq_some_iff.1 g2).1
          by_cases e : i < L.length
          · have := hLn _ (hmem i e); omega
          · rw [nm_new (by omega)] at hno'; omega
    · show (if o < σ.n then mu o else mu' (L.length + (o - σ.n))) = none
      rw [if_neg (by omega)]
      exact ho.none _ (by omega)

/-- A call to which objects are lent. -/
theorem lent_wp {o : Oper} {c : Call} {f : Nat} {zs ys : List SV} {L : List Nat} {objs0 : List SObj} {r : ST} {objs1 : List (Option SObj)} {next : Act → World → Prop} {Q : Exit → Act → World → Prop} (h : Inv w0 ok0 N σ a w) (ho : o.op = .call c) (hc : c.callee = .value (.func f)) (hys : argsX σ c.args.toList = some zs) (hcall : CallsX P f ys objs0 r objs1)
    (hsub : subV zs (ys.map (SV.ren (nm L σ.n)))) (hn : L.Nodup) (hlen : L.length = objs0.length) (hobj : ∀ i ob, objs0[i]? = some ob → ∃ ob', σ.objs (nm L σ.n i) = some ob' ∧ ob'.ty = ob.ty ∧ subL ob'.cells (ob.cells.map (S1.ren (nm L σ.n))))
    (hd : ∀ i, o.dst = some i → i < N) (hK : ∀ a' w', Inv w0 ok0 N ((σ.afterX L objs1).put o.dst (r.ren (nm L σ.n))) a' w' → next a' w') : o.wp P a w next Q := by
  obtain ⟨hb0, hs, hdf, mu, hm⟩ := h
  have him : IM w0 ok0 N σ mu a w := ⟨hb0, hs, hdf, hm⟩
  obtain ⟨⟨fn, hf1, hf2, hf3⟩, hlen1, hcall⟩ := hcall
  obtain ⟨hl, hargs⟩ := argsX_spec him hys
  obtain ⟨s1, s2⟩ := subV_spec hsub
  have hcalls := hcall w (c.args.map a.eval) (okOf w0 ok0 σ mu w) (fun o => mu (nm L σ.n o)) (hm.lentIn hn hlen hobj) (by rw [List.length_map] at s1; simp at hl; simp; omega) (fun i x hi => by
    obtain ⟨z, k1, k2⟩ := s2 i (x.ren (nm L σ.n)) (by simp [hi])
    obtain ⟨y, g1, g2⟩ := hargs i z k1
    rw [getD_args _ _ _ g1]; exact RV.unren (fun _ _ h => h) (RV.sub g2 k2))
  have hrun : (execOp a.eval o).run P w = .ok (.enter f (c.args.map a.eval)) w := by
    simp only [execOp, ho, resolve, hc, Act.eval, Deferred.ofValue, Sem.run_bind, Sem.run_pure, Result.andThen_ok, invoke, callFunc, run_program, hf1, hf2, hf3]
    simp
  unfold Oper.wp
  rw [hrun, Oper.upon_enter]
  refine hcalls.mono ?_
  rintro E w1 ⟨v, mu', rfl, g1, g2⟩
  refine hK _ _ (hm.afterX hb0 hs hdf hn (fun i hi => ?_) (by omega) (by rw [hlen]; exact g1) o.dst hd g2)
  obtain ⟨j, hj, rfl⟩ := List.getElem_of_mem hi
  obtain ⟨ob', k1, _⟩ := hobj j objs0[j] (List.getElem?_eq_getElem (by omega))
  rw [nm_lent hj] at k1
  exact ⟨ob', k1⟩

end
end Go.Proofs.Ytockjmmogkhepaa.Sh

/- The logic of shadows, fourteenth part: code that is carried out over data, as a proposition that simp can compute. -/
namespace Go.Proofs.Ytockjmmogkhepaa.Sh
open Go Go.RowKit

section
variable {N : Nat} {σ σ' : SS} {P : Program}

/-! ### Cases of which simp computes the first part alone -/
/-- A value on which the type of a further argument leans is not rewritten. -/
structure Tok {α : Type} (a : α) : Type where

def onO {α : Type} (o : Option α) (K : α → Prop) (_t : Tok K := ⟨⟩) : Prop := match o with | some a => K a | none => False
@[simp] theorem onO_some {α : Type} (a : α) (K : α → Prop) (t : Tok K) : onO (some a) K t = K a := rfl
theorem onO_elim {α : Type} {o : Option α} {K : α → Prop} {t : Tok K} (h : onO o K t) : ∃ a, o = some a ∧ K a := by
  cases o with
  | none => exact h.elim
  | some a => exact ⟨a, rfl, h⟩

def onI (x : ST) (K : IntKind → Int → Prop) (_t : Tok K := ⟨⟩) : Prop := match x with | .v (.one (.int k n)) => K k n | _ => False
@[simp] theorem onI_int (k : IntKind) (n : Int) (K : IntKind → Int → Prop) (t : Tok K) : onI (.v (.one (.int k n))) K t = K k n := rfl
theorem onI_elim {x : ST} {K : IntKind → Int → Prop} {t : Tok K} (h : onI x K t) : ∃ k n, x = .v (.one (.int k n)) ∧ K k n := by
  unfold onI at h
  split at h
  · exact ⟨_, _, rfl, h⟩
  · exact h.elim

def onB (x : ST) (K : Bool → Prop) (_t : Tok K := ⟨⟩) : Prop := match x with | .v (.one (.bool b)) => K b | _ => False
@[simp] theorem onB_bool (b : Bool) (K : Bool → Prop) (t : Tok K) : onB (.v (.one (.bool b))) K t = K b := rfl
theorem onB_elim {x : ST} {K : Bool → Prop} {t : Tok K} (h : onB x K t) : ∃ b, x = .v (.one (.bool b)) ∧ K b := by
  unfold onB at h
  split at h
  · exact ⟨_, rfl, h⟩
  · exact h.elim

/-- A guard's answer: yes, no, or none (the operation that is asked was passed by). -/
def onG (x : ST) (K : Bool → Prop) (L : Prop) (_t : Tok K := ⟨⟩) (_t2 : Tok L := ⟨⟩) : Prop := match x with | .v (.one (.bool b)) => K b | .tup [] => L | _ => False
@[simp] theorem onG_bool (b : Bool) (K : Bool → Prop) (L : Prop) (t : Tok K) (t2 : Tok L) : onG (.v (.one (.bool b))) K L t t2 = K b := rfl
@[simp] theorem onG_no (K : Bool → Prop) (L : Prop) (t : Tok K) (t2 : Tok L) : onG ST.no K L t t2 = L := rfl
theorem onG_elim {x : ST} {K : Bool → Prop} {L : Prop} {t : Tok K} {t2 : Tok L} (h : onG x K L t t2) : (∃ b, x = B b ∧ K b) ∨ (x = ST.no ∧ L) := by
  unfold onG at h
  split at h
  · exact Or.inl ⟨_, rfl, h⟩
  · exact Or.inr ⟨rfl, h⟩
  · exact h.elim

def onV (x : ST) (K : SV → Prop) (_t : Tok K := ⟨⟩) : Prop := match x with | .v y => K y | _ => False
@[simp] theorem onV_v (y : SV) (K : SV → Prop) (t : Tok K) : onV (.v y) K t = K y := rfl
theorem onV_elim {x : ST} {K : SV → Prop} {t : Tok K} (h : onV x K t) : ∃ y, x = .v y ∧ K y := by
  unfold onV at h
  split at h
  · exact ⟨_, rfl, h⟩
  · exact h.elim

def onM (x : ST) (K : Nat → Nat → Prop) (_t : Tok K := ⟨⟩) : Prop := match x with | .v (.one (.mp i off)) => K i off | _ => False
@[simp] theorem onM_mp (i off : Nat) (K : Nat → Nat → Prop) (t : Tok K) : onM (.v (.one (.mp i off))) K t = K i off := rfl
theorem onM_elim {x : ST} {K : Nat → Nat → Prop} {t : Tok K} (h : onM x K t) : ∃ i off, x = .v (.one (.mp i off)) ∧ K i off := by
  unfold onM at h
  split at h
  · exact ⟨_, _, rfl, h⟩
  · exact h.elim

def onS (x : ST) (K : ByteArray → Prop) (_t : Tok K := ⟨⟩) : Prop := match x with | .v (.one (.str s)) => K s | _ => False
@[simp] theorem onS_str (s : ByteArray) (K : ByteArray → Prop) (t : Tok K) : onS (.v (.one (.str s))) K t = K s := rfl
theorem onS_elim {x : ST} {K : ByteArray → Prop} {t : Tok K} (h : onS x K t) : ∃ s, x = .v (.one (.str s)) ∧ K s := by
  unfold onS at h
  split at h
  · exact ⟨_, rfl, h⟩
  · exact h.elim

def onT (x : ST) (K : List SV → Prop) (_t : Tok K := ⟨⟩) : Prop := match x with | .tup l => K l | _ => False
@[simp] theorem onT_tup (l : List SV) (K : List SV → Prop) (t : Tok K) : onT (.tup l) K t = K l := rfl
theorem onT_elim {x : ST} {K : List SV → Prop} {t : Tok K} (h : onT x K t) : ∃ l, x = .tup l ∧ K l := by
  unfold onT at h
  split at h
  · exact ⟨_, rfl, h⟩
  · exact h.elim

/-- One of two ways, by a truth value. -/
def br (b : Bool) (X Y : Prop) (_t : Tok X := ⟨⟩) (_t2 : Tok Y := ⟨⟩) : Prop := (b = true → X) ∧ (b = false → Y)
@[simp] theorem br_true (X Y : Prop) (t : Tok X) (t2 : Tok Y) : br true X Y t t2 = X := by simp [br]
@[simp] theorem br_false (X Y : Prop) (t : Tok X) (t2 : Tok Y) : br false X Y t t2 = Y := by simp [br]
@[simp] theorem br_decide (p : Prop) [Decidable p] (X Y : Prop) (t : Tok X) (t2 : Tok Y) : br (decide p) X Y t t2 = ((p → X) ∧ (¬ p → Y)) := by simp [br]
@[simp] theorem br_not (b : Bool) (X Y : Prop) (t : Tok X) (t2 : Tok Y) : br (!b) X Y t t2 = br b Y X := by cases b <;> simp [br]
@[simp] theorem br_beq (a b : Int) (X Y : Prop) (t : Tok X) (t2 : Tok Y) : br (a == b) X Y t t2 = ((a = b → X) ∧ (a ≠ b → Y)) := by simp [br]
@[simp] theorem br_bne (a b : Int) (X Y : Prop) (t : Tok X) (t2 : Tok Y) : br (a != b) X Y t t2 = ((a = b → Y) ∧ (a ≠ b → X)) := by simp [br, and_comm]

def TyI.isStr (τ : TyI) : Bool := match τ.kind with | .str => true | _ => false
theorem isStr_eq {τ : TyI} (h : τ.isStr = true) : τ.kind = .str := by unfold TyI.isStr at h; split at h <;> simp_all
def TyI.asInt (τ : TyI) : Option IntKind := match τ.kind with | .int k => some k | _ => none
def TyI.asStruct (τ : TyI) : Option (List (Nat × Nat)) := match τ.kind with | .struct fs => some fs | _ => none
def TyI.asSlice (τ : TyI) : Option (Nat × Nat) := match τ.kind with | .slice e z => some (e, z) | _ => none
theorem asInt_eq {τ : TyI} {k : IntKind} (h : τ.asInt = some k) : τ.kind = .int k := by unfold TyI.asInt at h; split at h <;> simp_all
theorem asStruct_eq {τ : TyI} {fs : List (Nat × Nat)} (h : τ.asStruct = some fs) : τ.kind = .struct fs := by unfold TyI.asStruct at h; split at h <;> simp_all
theorem asSlice_eq {τ : TyI} {p : Nat × Nat} (h : τ.asSlice = some p) : τ.kind = .slice p.1 p.2 := by
  unfold TyI.asSlice at h
  split at h
  · rename_i hk; cases h; exact hk
  · cases h

def onMs (x : ST) (K : Nat → Nat → Nat → Nat → Bool → Prop) (_t : Tok K := ⟨⟩) : Prop := match x with | .v (.one (.ms o off len e full)) => K o off len e full | _ => False
@[simp] theorem onMs_ms (o off len e : Nat) (full : Bool) (K : Nat → Nat → Nat → Nat → Bool → Prop) (t : Tok K) : onMs (.v (.one (.ms o off len e full))) K t = K o off len e full := rfl
theorem onMs_elim {x : ST} {K : Nat → Nat → Nat → Nat → Bool → Prop} {t : Tok K} (h : onMs x K t) : ∃ o off len e full, x = .v (.one (.ms o off len e full)) ∧ K o off len e full := by
  unfold onMs at h
  split at h
  · exact ⟨_, _, _, _, _, rfl, h⟩
  · exact h.elim

/-- Are two values equal? -/
def sEq2 (P : Program) (t : Nat) (x y : ST) : Option Bool :=
  match x, y with
  | .v (.one (.int k a)), .v (.one (.int k' b)) => if k = k' then some (a == b) else none
  | .v (.one (.str a)), .v (.one (.str b)) => some (a.toList == b.toList)
  | x, y => match tyOf P t with | some τ => sEq τ x y | none => none

/-- An operation of two operands: what it asks, and what it gives. -/
def eBin (P : Program) (t : Nat) (op : BinOp) (x y : ST) (K : S1 → Prop) : Prop :=
  match op with
  | .shl => onI x fun k a => onI y fun _ b => 0 ≤ b ∧ K (.int k (k.wrap (a * 2 ^ (min b.toNat k.bits))))
  | .shr => onI x fun k a => onI y fun _ b => 0 ≤ b ∧ K (.int k (a.fdiv (2 ^ (min b.toNat k.bits))))
  | .quo => onI x fun k a => onI y fun k' b => k = k' ∧ b ≠ 0 ∧ K (.int k (k.wrap (a.tdiv b)))
  | .rem => onI x fun k a => onI y fun k' b => k = k' ∧ b ≠ 0 ∧ K (.int k (a.tmod b))
  | .add => onI x fun k a => onI y fun k' b => k = k' ∧ K (.int k (k.wrap (a + b)))
  | .sub => onI x fun k a => onI y fun k' b => k = k' ∧ K (.int k (k.wrap (a - b)))
  | .mul => onI x fun k a => onI y fun k' b => k = k' ∧ K (.int k (k.wrap (a * b)))
  | .lss => onI x fun k a => onI y fun k' b => k = k' ∧ K (.bool (decide (a < b)))
  | .leq => onI x fun k a => onI y fun k' b => k = k' ∧ K (.bool (decide (a ≤ b)))
  | .gtr => onI x fun k a => onI y fun k' b => k = k' ∧ K (.bool (decide (b < a)))
  | .geq => onI x fun k a => onI y fun k' b => k = k' ∧ K (.bool (decide (b ≤ a)))
  | .and => onI x fun k a => onI y fun k' b => k = k' ∧ K (.int k (bitsOf .and k a b))
  | .or => onI x fun k a => onI y fun k' b => k = k' ∧ K (.int k (bitsOf .or k a b))
  | .xor => onI x fun k a => onI y fun k' b => k = k' ∧ K (.int k (bitsOf .xor k a b))
  | .eql => onO (sEq2 P t x y) fun p => K (.bool p)
  | .neq => onO (sEq2 P t x y) fun p => K (.bool (!p))
  | _ => False

theorem eBin_sound {t : Nat} {op : BinOp} {x y : ST} {K : S1 → Prop} (h : eBin P t op x y K) :
    ∃ r s, ((∃ s, sBin op x y = some s ∧ r = .v (.one s)) ∨ (∃ τ p, tyOf P t = some τ ∧ sEq τ x y = some p ∧ ((op = .eql ∧ r = B p) ∨ (op = .neq ∧ r = B (!p))))) ∧ r = .v (.one s) ∧ K s := by
  have left : ∀ s, sBin op x y = some s → K s → ∃ r s, ((∃ s, sBin op x y = some s ∧ r = .v (.one s)) ∨ (∃ τ p, tyOf P t = some τ ∧ sEq τ x y = some p ∧ ((op = .eql ∧ r = B p) ∨ (op = .neq ∧ r = B (!p))))) ∧ r = .v (.one s) ∧ K s :=
    fun s h1 h2 => ⟨_, s, Or.inl ⟨s, h1, rfl⟩, rfl, h2⟩
  unfold eBin at h
  split at h
  case h_15 =>
    obtain ⟨p, hp, h⟩ := onO_elim h
    unfold sEq2 at hp
    split at hp
    · split at hp
      · rename_i hk; subst hk; cases hp; exact left _ (by simp [sBin, sInt]) h
      · cases hp
    · cases hp; exact left _ (by simp [sBin]) h
    · split at hp
      · rename_i τ ht; exact ⟨B p, .bool p, Or.inr ⟨τ, p, ht, hp, Or.inl ⟨rfl, rfl⟩⟩, rfl, h⟩
      · cases hp
  case h_16 =>
    obtain ⟨p, hp, h⟩ := onO_elim h
    unfold sEq2 at hp
    split at hp
    · split at hp
      · rename_i hk; subst hk; cases hp; exact left _ (by simp [sBin, sInt, bne]) h
      · cases hp
    · cases hp; exact left _ (by simp [sBin]) h
    · split at hp
      · rename_i τ ht; exact ⟨B (!p), .bool (!p), Or.inr ⟨τ, p, ht, hp, Or.inr ⟨rfl, rfl⟩⟩, rfl, h⟩
      · cases hp
  case h_17 => exact h.elim
  all_goals
    obtain ⟨k, u, rfl, g⟩ := onI_elim h
    obtain ⟨k', v, rfl, g2⟩ := onI_elim g
    clear h g
    first
      | (obtain ⟨h1, h2⟩ := g2; exact left _ (by simp [sBin]; omega) h2)
      | (obtain ⟨rfl, h1, h2⟩ := g2; exact left _ (by simp only [sBin, if_true, sInt, if_neg h1]) h2)
      | (obtain ⟨rfl, h2⟩ := g2; exact left _ (by simp only [sBin, if_true, sInt]) h2)
      | (obtain ⟨rfl, h2⟩ := g2; exact left _ (by simp only [sBin, if_true, sInt]; rfl) h2)

/-- A call: the rest of the code stays closed. -/
def eCall (P : Program) (f : Nat) (ys : List SV) (K : ST → Prop) (alt : Prop) (_t : Tok K := ⟨⟩) (_t2 : Tok alt := ⟨⟩) : Prop := (∃ r, CallsS P f ys r ∧ K r) ∨ alt
theorem eCall.by {P : Program} {f : Nat} {ys : List SV} {K : ST → Prop} {alt : Prop} {r : ST} {t : Tok K} {t2 : Tok alt} (h : CallsS P f ys r) (k : K r) : eCall P f ys K alt t t2 := Or.inl ⟨r, h, k⟩

/-- The objects that are lent are as the call asks. -/
def leX (σ : SS) (ρ : Nat → Nat) : List SObj → Nat → Prop
  | [], _ => True
  | ob :: l, i => (∃ ob', σ.objs (ρ i) = some ob' ∧ ob'.ty = ob.ty ∧ subL ob'.cells (ob.cells.map (S1.ren ρ))) ∧ leX σ ρ l (i + 1)
@[simp] theorem leX_nil (ρ : Nat → Nat) (i : Nat) : leX σ ρ [] i = True := rfl
@[simp] theorem leX_cons (ρ : Nat → Nat) (ob : SObj) (l : List SObj) (i : Nat) : leX σ ρ (ob :: l) i = ((∃ ob', σ.objs (ρ i) = some ob' ∧ ob'.ty = ob.ty ∧ subL ob'.cells (ob.cells.map (S1.ren ρ))) ∧ leX σ ρ l (i + 1)) := rfl

theorem leX_spec {ρ : Nat → Nat} : ∀ {l : List SObj} {k : Nat}, leX σ ρ l k → ∀ (i : Nat) (ob : SObj), l[i]? = some ob → ∃ ob', σ.objs (ρ (k + i)) = some ob' ∧ ob'.ty = ob.ty ∧ subL ob'.cells (ob.cells.map (S1.ren ρ))
  | [], _, _, i, ob, h => by simp at h
  | ob0 :: l, k, ⟨hx, hy⟩, i, ob, h => by
    cases i with
    | zero => simp at h; subst h; exact hx
    | succ i => rw [show k + (i + 1) = k + 1 + i by omega]; exact leX_spec hy i ob (by simpa using h)

/-- A call to which objects are lent. -/
def eX (P : Program) (σ : SS) (f : Nat) (as : List Operand) (d : Option Nat) (K : SS → Prop) : Prop :=
  ∃ (L : List Nat) (ys : List SV) (objs0 : List SObj) (r : ST) (objs1 : List (Option SObj)), CallsX P f ys objs0 r objs1 ∧ onO (argsX σ as) (fun zs => subV zs (ys.map (SV.ren (nm L σ.n)))) ∧ (L.Nodup ∧ L.length = objs0.length) ∧
    leX σ (nm L σ.n) objs0 0 ∧ K ((σ.afterX L objs1).put d (r.ren (nm L σ.n)))

theorem eCall.lend {P : Program} {f : Nat} {ys0 : List SV} {K0 : ST → Prop} {as : List Operand} {d : Option Nat} {K : SS → Prop} {t : Tok K0} {t2 : Tok (true = true ∧ eX P σ f as d K)} (L : List Nat) {ys : List SV} {objs0 : List SObj} {r : ST} {objs1 : List (Option SObj)}
    (h : CallsX P f ys objs0 r objs1) (h1 : onO (argsX σ as) (fun zs => subV zs (ys.map (SV.ren (nm L σ.n))))) (h2 : L.Nodup ∧ L.length = objs0.length) (h3 : leX σ (nm L σ.n) objs0 0) (k : K ((σ.afterX L objs1).put d (r.ren (nm L σ.n)))) : eCall P f ys0 K0 (true = true ∧ eX P σ f as d K) t t2 :=
  Or.inr ⟨rfl, L, ys, objs0, r, objs1, h, h1, h2, h3, k⟩

/-- append, of which the new object's cells are computed. -/
def eAppend (P : Program) (σ : SS) (c : Call) (K : SObj → Option Nat → S1 → Prop) : Prop :=
  match c.args.toList, c.argTypes.toList with
  | [s, y], [t, t'] => t = t' ∧ onO (tyOf P t) fun τ => onO τ.asSlice fun p => onO (tyOf P p.1) fun τe => (τe.zero.length = p.2 ∧ p.2 ≠ 0 ∧ τe.size = p.2) ∧
      onO (σ.base p.2 p.1 (σ.ev s)) fun q => onO (σ.cellsOf (σ.ev y)) fun u => (u.2.1 = p.2 ∧ u.2.2.length = u.1 * p.2 ∧ u.1 ≠ 0 ∧ u.2.2.all S1.known = true) ∧ ((q.1 + u.1) * τe.bytes ≤ 140737488355328 ∧ q.1 + u.1 ≤ 140737488355328) ∧
        K ⟨p.1, q.2.2 ++ u.2.2⟩ q.2.1 (.ms σ.n 0 (q.1 + u.1) p.2 true)
  | _, _ => False

def eCopy (P : Program) (σ : SS) (c : Call) (K : SS → Nat → Prop) : Prop :=
  match c.args.toList, c.argTypes.toList with
  | [d, y], [t, _] => onO (tyOf P t) fun τ => onO τ.asSlice fun p => p.2 ≠ 0 ∧ onMs (σ.ev d) fun i off len z _ => z = p.2 ∧ onO (σ.objs i) fun ob => onO (σ.cellsOf (σ.ev y)) fun u =>
      (min u.1 len ≠ 0 → u.2.1 = p.2 ∧ u.2.2.length = u.1 * p.2 ∧ off + min u.1 len * p.2 ≤ ob.cells.length ∧ u.2.2.all S1.known = true) ∧
        K (σ.setObj i { ob with cells := putL ob.cells off (u.2.2.take (min u.1 len * p.2)) }) (min u.1 len)
  | _, _ => False

/-! ### What an operation does -/
inductive Dl where
  | pure (r : ST)
  | set (i : Nat) (ob : SObj) (r : ST)
  | new (ob : SObj) (bo : Option Nat) (x : S1)

def SS.app (σ : SS) (d : Option Nat) : Dl → SS
  | .pure r => σ.put d r
  | .set i ob r => (σ.setObj i ob).put d r
  | .new ob bo x => ((σ.kill bo).new ob).put d (.v (.one x))

/-- What an operation has to do with memory of the call's own: nothing, it reads, it makes an object, it writes. -/
def cls (o : Oper) : Nat :=
  match o.op with
  | .load .. => 1
  | .slice .. => 1
  | .box .. => 2
  | .alloc .. => 2
  | .makeSlice .. => 2
  | .buildSlice .. => 2
  | .store .. => 3
  | .call c => match c.callee with
    | .builtin .append => 3
    | .builtin .copy => 3
    | _ => 0
  | _ => 0

def dStore (P : Program) (σ : SS) (o : Oper) (i : Nat) (ob' : SObj) : Prop :=
  match o.op with
  | .store t x y => ∃ τ off ob z, tyOf P t = some τ ∧ σ.ev x = .v (.one (.mp i off)) ∧ σ.objs i = some ob ∧ σ.ev y = .v z ∧ (z.known = true ∧ z.cells.all S1.known = true) ∧ (z.cells.length = τ.size ∧ off + τ.size ≤ ob.cells.length) ∧
      ob' = { ob with cells := putL ob.cells off z.cells }
  | _ => False

def dCopy (P : Program) (σ : SS) (o : Oper) (i : Nat) (ob' : SObj) (n : Nat) : Prop :=
  match o.op with
  | .call c => c.callee = .builtin .copy ∧ ∃ d y t t2 τ te z off len full ob m e news, c.args = #[d, y] ∧ c.argTypes = #[t, t2] ∧ tyOf P t = some τ ∧ τ.kind = .slice te z ∧ z ≠ 0 ∧
      σ.ev d = .v (.one (.ms i off len z full)) ∧ σ.objs i = some ob ∧ σ.cellsOf (σ.ev y) = some (m, e, news) ∧ (n = min m len) ∧ (n ≠ 0 → e = z ∧ news.length = m * z ∧ off + n * z ≤ ob.cells.length ∧ news.all S1.known = true) ∧
      ob' = { ob with cells := putL ob.cells off (news.take (n * z)) }
  | _ => False

def Does (P : Program) (σ : SS) (o : Oper) : Dl → Prop
  | .pure r => cls o ≤ 1 ∧ sPure P σ o r
  | .set i ob r => cls o = 3 ∧ ((dStore P σ o i ob ∧ r = .any) ∨ ∃ n, dCopy P σ o i ob n ∧ r = I .i64 n)
  | .new ob bo x => (cls o = 2 ∧ bo = none ∧ sAlloc P σ o ob x) ∨ (cls o = 3 ∧ sAppend P σ o ob bo x)

theorem Does.wp {w0 : W0} {w : World} {ok0 : Bool → Nat → Prop} {a : Act} {o : Oper} {δ : Dl} {next : Act → World → Prop} {Q : Exit → Act → World → Prop} (h : Inv w0 ok0 N σ a w) (hp : Does P σ o δ)
    (hd : ∀ i, o.dst = some i → i < N) (hK : ∀ a' w', Inv w0 ok0 N (σ.app o.dst δ) a' w' → next a' w') : o.wp P a w next Q := by
  cases δ with
  | pure r => exact pure_wp h hp.2 hd hK
  | set i ob r =>
    rcases hp.2 with ⟨h1, rfl⟩ | ⟨n, h1, rfl⟩
    · refine store_wp h ?_ hd hK
      unfold dStore at h1
      unfold sStore
      split at h1
      · rename_i ho
        obtain ⟨τ, off, ob0, z, g1, g2, g3, g4, g5, g6, rfl⟩ := h1
        simp only [ho]
        exact ⟨τ, i, off, ob0, z, g1, g2, g3, g4, g5, g6, rfl⟩
      · exact h1.elim
    · refine copy_wp h ?_ hd hK
      unfold dCopy at h1
      unfold sCopy
      split at h1
      · rename_i ho
        obtain ⟨g0, d, y, t, t2, τ, te, z, off, len, full, ob0, m, e, news, g1, g2, g3, g4, g5, g6, g7, g8, g9, g10, rfl⟩ := h1
        simp only [ho]
        exact ⟨g0, d, y, t, t2, τ, te, z, i, off, len, full, ob0, m, e, news, g1, g2, g3, g4, g5, g6, g7, g8, g9, g10, rfl⟩
      · exact h1.elim
  | new ob bo x =>
    rcases hp with ⟨_, rfl, h1⟩ | ⟨_, h1⟩
    · exact alloc_wp h h1 hd hK
    · exact append_wp h h1 hd hK

/-! ### An operation, computed -/
def SS.fzB (fz : Bool) (σ : SS) (l : List Operand) : SS := match fz with | true => σ.fzA l | false => σ

def fzOf (o : Oper) : List Operand :=
  match o.op with
  | .buildSlice _ _ ps => ps.toList.map (·.2)
  | .call c => match c.callee with
    | .value (.func _) => c.args.toList
    | _ => []
  | _ => []

theorem SS.fzB_nil (fz : Bool) (σ : SS) : σ.fzB fz [] = σ := by cases fz <;> rfl

theorem Inv.fzB {w0 : W0} {w : World} {ok0 : Bool → Nat → Prop} {a : Act} {fz : Bool} {l : List Operand} (h : Inv w0 ok0 N σ a w) : Inv w0 ok0 N (σ.fzB fz l) a w := by
  cases fz with
  | true => exact Inv.fzA l σ h
  | false => exact h

def eOp (P : Program) (fz : Bool) (σ : SS) (o : Oper) (K : SS → Prop) : Prop :=
  match o.op with
  | .move x => K (σ.put o.dst (σ.ev x))
  | .assign x => K (σ.put o.dst (σ.ev x))
  | .pick c x y => onB (σ.ev c) fun t => K (σ.put o.dst (if t = true then σ.ev x else σ.ev y))
  | .load t x => onO (tyOf P t) fun τ => onO (sLoad σ τ (σ.ev x)) fun y => K (σ.put o.dst (.v y))
  | .binOp op t x y _ => eBin P t op (σ.ev x) (σ.ev y) fun s => K (σ.put o.dst (.v (.one s)))
  | .unOp op _ x => onO (sUn op (σ.ev x)) fun s => K (σ.put o.dst (.v (.one s)))
  | .convert src t x => onO (tyOf P src) fun _ => onO (tyOf P t) fun τ => onI (σ.ev x) fun _ n => onO τ.asInt fun k => K (σ.put o.dst (I k (k.wrap n)))
  | .fieldAddr t x f => onO (tyOf P t) fun τ => onO (sFieldAddr τ f (σ.ev x)) fun s => K (σ.put o.dst (.v (.one s)))
  | .indexAddr t x i => onO (tyOf P t) fun τ => onI (σ.ev i) fun _ n => onO (sIndexAddr τ n (σ.ev x)) fun p => (0 ≤ n ∧ n < (p.1 : Nat)) ∧ K (σ.put o.dst (.v (.one p.2)))
  | .slice t x lo hi mx => onO (tyOf P t) fun τ => onO (optInt σ lo) fun l => onO (optInt σ hi) fun h => onO (optInt σ mx) fun m => onO (sCut σ τ l h m (σ.ev x)) fun p => cutOK p.1 l h m ∧ K (σ.put o.dst (.v (.one p.2)))
  | .extract x i => onT (σ.ev x) fun l => onO l[i]? fun y => K (σ.put o.dst (.v y))
  | .build t parts => onO (tyOf P t) fun τ => onO τ.asStruct fun fs => (τ.zero.isEmpty = false ∧ (fs.all fun p => p.2 != 0) = true) ∧ onO (fillS fs σ (τ.zero.map ofVal1) parts.toList) fun cs => K (σ.put o.dst (.v (.agg cs)))
  | .index t x i => onO (tyOf P t) fun τ => onS (σ.ev x) fun s => onI (σ.ev i) fun _ n => (τ.isStr = true ∧ 0 ≤ n ∧ n < (s.size : Nat)) ∧ K (σ.put o.dst (I .u8 (byteAt s n)))
  | .store t x y => onO (tyOf P t) fun τ => onM (σ.ev x) fun i off => onO (σ.objs i) fun ob => onV (σ.ev y) fun z => (z.known = true ∧ z.cells.all S1.known = true) ∧ (z.cells.length = τ.size ∧ off + τ.size ≤ ob.cells.length) ∧
      K ((σ.setObj i { ob with cells := putL ob.cells off z.cells }).put o.dst .any)
  | .box t y => onV (σ.ev y) fun z => z.known = true ∧ K ((σ.new ⟨t, z.cells⟩).put o.dst (.v (.one (.mp σ.n 0))))
  | .alloc t => onO (tyOf P t) fun τ => τ.zero.isEmpty = false ∧ K ((σ.new ⟨t, τ.zero.map ofVal1⟩).put o.dst (.v (.one (.mp σ.n 0))))
  | .makeSlice t l c => onO (tyOf P t) fun τ => onO τ.asSlice fun p => onO (tyOf P p.1) fun τe => onI (σ.ev l) fun k n => onI (σ.ev c) fun k' m => (k = .i64 ∧ k' = .i64 ∧ n = m) ∧ (τe.zero.length = p.2 ∧ p.2 ≠ 0) ∧ (0 ≤ n ∧ τe.bytes * n ≤ 281474976710656 ∧ n ≤ 281474976710656) ∧
      K ((σ.new ⟨p.1, (List.replicate n.toNat (τe.zero.map ofVal1)).flatten⟩).put o.dst (.v (.one (.ms σ.n 0 n.toNat p.2 true))))
  | .buildSlice t len ps => onO (tyOf P t) fun τ => onO τ.asSlice fun p => onO (tyOf P p.1) fun τe => τe.zero.isEmpty = false ∧ (p.2 ≠ 0 ∧ len * p.2 ≤ 2 ^ 24) ∧ onO (fillS (slots p.2 len) (σ.fzB fz (ps.toList.map (·.2))) (List.replicate (len * p.2) .any) ps.toList) fun cs =>
      K (((σ.fzB fz (ps.toList.map (·.2))).new ⟨p.1, cs⟩).put o.dst (.v (.one (.ms (σ.fzB fz (ps.toList.map (·.2))).n 0 len p.2 true))))
  | .call c => match c.callee with
    | .value (.func f) => onO (argsOf (σ.fzB fz c.args.toList) c.args.toList) fun ys => eCall P f ys (fun r => K ((σ.fzB fz c.args.toList).put o.dst r)) (fz = true ∧ eX P σ f c.args.toList o.dst K)
    | .builtin .append => eAppend P σ c fun ob bo x => K (((σ.kill bo).new ob).put o.dst (.v (.one x)))
    | .builtin .copy => eCopy P σ c fun σ' n => K (σ'.put o.dst (I .i64 n))
    | .builtin b => onO (sBuiltin P σ b c.args.toList c.argTypes.toList) fun s => K (σ.put o.dst (.v (.one s)))
    | _ => False
  | _ => False

/-- It is a call to which objects are lent. -/
def isX (P : Program) (σ : SS) (o : Oper) (K : SS → Prop) : Prop := ∃ c f, o.op = .call c ∧ c.callee = .value (.func f) ∧ eX P σ f c.args.toList o.dst K

theorem isX_wp {w0 : W0} {w : World} {ok0 : Bool → Nat → Prop} {a : Act} {o : Oper} {K : SS → Prop} {next : Act → World → Prop} {Q : Exit → Act → World → Prop} (h : Inv w0 ok0 N σ a w) (hx : isX P σ o K)
    (hd : ∀ i, o.dst = some i → i < N) (hK : ∀ σ' a' w', K σ' → Inv w0 ok0 N σ' a' w' → next a' w') : o.wp P a w next Q := by
  obtain ⟨c, f, ho, hc, L, ys, objs0, r, objs1, h0, h1, h2, h3, h4⟩ := hx
  obtain ⟨zs, hz, hsub⟩ := onO_elim h1
  exact lent_wp h ho hc hz h0 hsub h2.1 h2.2 (fun i ob hi => by have := leX_spec h3 i ob hi; rwa [Nat.zero_add] at this) hd (fun a' w' hi => hK _ a' w' h4 hi)

theorem eOp_does' {fz : Bool} {o : Oper} {K : SS → Prop} (h : eOp P fz σ o K) : (∃ δ, Does P (σ.fzB fz (fzOf o)) o δ ∧ K ((σ.fzB fz (fzOf o)).app o.dst δ)) ∨ (fz = true ∧ isX P σ o K) := by
  have pure : ∀ r, cls o ≤ 1 → fzOf o = [] → sPure P σ o r → K (σ.put o.dst r) → (∃ δ, Does P (σ.fzB fz (fzOf o)) o δ ∧ K ((σ.fzB fz (fzOf o)).app o.dst δ)) ∨ (fz = true ∧ isX P σ o K) :=
    fun r h0 hz h1 h2 => by rw [hz, SS.fzB_nil]; exact Or.inl ⟨.pure r, ⟨h0, h1⟩, h2⟩
  have alloc : ∀ ob x, cls o = 2 → fzOf o = [] → sAlloc P σ o ob x → K ((σ.new ob).put o.dst (.v (.one x))) → (∃ δ, Does P (σ.fzB fz (fzOf o)) o δ ∧ K ((σ.fzB fz (fzOf o)).app o.dst δ)) ∨ (fz = true ∧ isX P σ o K) :=
    fun ob x h0 hz h1 h2 => by rw [hz, SS.fzB_nil]; exact Or.inl ⟨.new ob none x, Or.inl ⟨h0, rfl, h1⟩, h2⟩
  unfold eOp at h
  split at h
  · rename_i ho; exact pure _ (by simp [cls, *]) (by simp [fzOf, *]) (by simp only [sPure, ho]) h
  · rename_i ho; exact pure _ (by simp [cls, *]) (by simp [fzOf, *]) (by simp only [sPure, ho]) h
  · rename_i c x y ho
    obtain ⟨t, hc, h⟩ := onB_elim h
    exact pure _ (by simp [cls, *]) (by simp [fzOf, *]) (by simp only [sPure, ho]; exact ⟨t, hc, rfl⟩) h
  · rename_i t x ho
    obtain ⟨τ, ht, h⟩ := onO_elim h
    obtain ⟨y, hy, h⟩ := onO_elim h
    exact pure _ (by simp [cls, *]) (by simp [fzOf, *]) (by simp only [sPure, ho]; exact ⟨τ, y, ht, hy, rfl⟩) h
  · rename_i op t x y ty ho
    obtain ⟨r, s, h1, rfl, h2⟩ := eBin_sound h
    exact pure _ (by simp [cls, *]) (by simp [fzOf, *]) (by simp only [sPure, ho]; exact h1) h2
  · rename_i op t x ho
    obtain ⟨s, hs, h⟩ := onO_elim h
    exact pure _ (by simp [cls, *]) (by simp [fzOf, *]) (by simp only [sPure, ho]; exact ⟨s, hs, rfl⟩) h
  · rename_i src t x ho
    obtain ⟨τs, hts, h⟩ := onO_elim h
    obtain ⟨τ, ht, h⟩ := onO_elim h
    obtain ⟨k, n, hx, h⟩ := onI_elim h
    obtain ⟨k', hk, h⟩ := onO_elim h
    exact pure _ (by simp [cls, *]) (by simp [fzOf, *]) (by simp only [sPure, ho]; exact ⟨τ, τs, k', k, n, hts, ht, asInt_eq hk, hx, rfl⟩) h
  · rename_i t x f ho
    obtain ⟨τ, ht, h⟩ := onO_elim h
    obtain ⟨s, hs, h⟩ := onO_elim h
    exact pure _ (by simp [cls, *]) (by simp [fzOf, *]) (by simp only [sPure, ho]; exact ⟨τ, s, ht, hs, rfl⟩) h
  · rename_i t x i ho
    obtain ⟨τ, ht, h⟩ := onO_elim h
    obtain ⟨k, n, hi, h⟩ := onI_elim h
    obtain ⟨⟨m, s⟩, hs, h⟩ := onO_elim h
    exact pure _ (by simp [cls, *]) (by simp [fzOf, *]) (by simp only [sPure, ho]; exact ⟨τ, k, n, m, s, ht, hi, hs, h.1, rfl⟩) h.2
  · rename_i t x lo hi mx ho
    obtain ⟨τ, ht, h⟩ := onO_elim h
    obtain ⟨l, h1, h⟩ := onO_elim h
    obtain ⟨hh, h2, h⟩ := onO_elim h
    obtain ⟨m, h3, h⟩ := onO_elim h
    obtain ⟨⟨n, s⟩, hs, h⟩ := onO_elim h
    exact pure _ (by simp [cls, *]) (by simp [fzOf, *]) (by simp only [sPure, ho]; exact ⟨τ, l, hh, m, n, s, ht, h1, h2, h3, hs, h.1, rfl⟩) h.2
  · rename_i x i ho
    obtain ⟨l, hx, h⟩ := onT_elim h
    obtain ⟨y, hy, h⟩ := onO_elim h
    exact pure _ (by simp [cls, *]) (by simp [fzOf, *]) (by simp only [sPure, ho]; exact ⟨l, y, hx, hy, rfl⟩) h
  · rename_i t parts ho
    obtain ⟨τ, ht, h⟩ := onO_elim h
    obtain ⟨fs, hk, h1, h⟩ := onO_elim h
    obtain ⟨cs, hcs, h⟩ := onO_elim h
    exact pure _ (by simp [cls, *]) (by simp [fzOf, *]) (by simp only [sPure, ho]; exact ⟨τ, fs, cs, ht, asStruct_eq hk, h1, hcs, rfl⟩) h
  · rename_i t x i ho
    obtain ⟨τ, ht, h⟩ := onO_elim h
    obtain ⟨s, hx, h⟩ := onS_elim h
    obtain ⟨k, n, hi, ⟨h1, h2⟩, h⟩ := onI_elim h
    exact pure _ (by simp [cls, *]) (by simp [fzOf, *]) (by simp only [sPure, ho]; exact ⟨τ, s, k, n, ht, isStr_eq h1, hx, hi, h2, rfl⟩) h
  · rename_i t x y ho
    obtain ⟨τ, ht, h⟩ := onO_elim h
    obtain ⟨i, off, hx, h⟩ := onM_elim h
    obtain ⟨ob, hob, h⟩ := onO_elim h
    obtain ⟨z, hy, h1, h2, h3⟩ := onV_elim h
    have hz : fzOf o = [] := by simp [fzOf, ho]
    rw [hz, SS.fzB_nil]
    exact Or.inl ⟨.set i _ .any, ⟨by simp [cls, ho], Or.inl ⟨by simp only [dStore, ho]; exact ⟨τ, off, ob, z, ht, hx, hob, hy, h1, h2, rfl⟩, rfl⟩⟩, h3⟩
  · rename_i t y ho
    obtain ⟨z, hz, h⟩ := onV_elim h
    exact alloc _ _ (by simp [cls, *]) (by simp [fzOf, *]) (by simp only [sAlloc, ho]; exact ⟨z, hz, h.1, by simp⟩) h.2
  · rename_i t ho
    obtain ⟨τ, ht, h⟩ := onO_elim h
    exact alloc _ _ (by simp [cls, *]) (by simp [fzOf, *]) (by simp only [sAlloc, ho]; exact ⟨τ, ht, h.1, by simp⟩) h.2
  · rename_i t l c ho
    obtain ⟨τ, ht, h⟩ := onO_elim h
    obtain ⟨⟨te, z⟩, hk, h⟩ := onO_elim h
    obtain ⟨τe, hte, h⟩ := onO_elim h
    obtain ⟨k, n, hl, h⟩ := onI_elim h
    obtain ⟨k', m, hc, ⟨rfl, rfl, rfl⟩, h1, h2, h3⟩ := onI_elim h
    exact alloc _ _ (by simp [cls, *]) (by simp [fzOf, *]) (by simp only [sAlloc, ho]; exact ⟨τ, te, z, τe, n, ht, asSlice_eq hk, hte, h1, hl, hc, h2, rfl, rfl⟩) h3
  · rename_i t len ps ho
    obtain ⟨τ, ht, h⟩ := onO_elim h
    obtain ⟨⟨te, z⟩, hk, h⟩ := onO_elim h
    obtain ⟨τe, hte, h1, h2, h⟩ := onO_elim h
    obtain ⟨cs, hcs, h3⟩ := onO_elim h
    have hz : fzOf o = ps.toList.map (·.2) := by simp [fzOf, ho]
    rw [hz]
    exact Or.inl ⟨.new _ none _, Or.inl ⟨by simp [cls, ho], rfl, by simp only [sAlloc, ho]; exact ⟨τ, te, z, τe, cs, ht, asSlice_eq hk, hte, h1, h2, hcs, rfl, rfl⟩⟩, h3⟩
  · rename_i c ho
    split at h
    · rename_i f hc
      obtain ⟨ys, hys, h⟩ := onO_elim h
      rcases h with ⟨r, h1, h2⟩ | ⟨hfz, hx⟩
      case inr => exact Or.inr ⟨hfz, c, f, ho, hc, hx⟩
      have hz : fzOf o = c.args.toList := by simp [fzOf, ho, hc]
      rw [hz]
      exact Or.inl ⟨.pure r, ⟨by simp [cls, ho, hc], by simp only [sPure, ho, hc]; exact ⟨ys, hys, h1⟩⟩, h2⟩
    · rename_i hc
      unfold eAppend at h
      split at h
      · rename_i s y t t' hargs htys
        obtain ⟨rfl, h⟩ := h
        obtain ⟨τ, ht, h⟩ := onO_elim h
        obtain ⟨⟨te, z⟩, hk, h⟩ := onO_elim h
        obtain ⟨τe, hte, h1, h⟩ := onO_elim h
        obtain ⟨⟨n, bo, old⟩, hb, h⟩ := onO_elim h
        obtain ⟨⟨m, e, news⟩, hcl, h2, h3, h⟩ := onO_elim h
        have hz : fzOf o = [] := by simp [fzOf, ho, hc]
        rw [hz, SS.fzB_nil]
        exact Or.inl ⟨.new _ bo _, Or.inr ⟨by simp [cls, ho, hc], by simp only [sAppend, ho]; exact ⟨hc, s, y, t, τ, te, z, τe, n, m, e, old, news, by apply Array.ext'; simpa using hargs, by apply Array.ext'; simpa using htys, ht, asSlice_eq hk, hte, h1, hb, hcl, h2, h3, rfl, rfl⟩⟩, h⟩
      · exact h.elim
    · rename_i hc
      unfold eCopy at h
      split at h
      · rename_i d y t t' hargs htys
        obtain ⟨τ, ht, h⟩ := onO_elim h
        obtain ⟨⟨te, z⟩, hk, hz, h⟩ := onO_elim h
        obtain ⟨i, off, len, z', full, hd', rfl, h⟩ := onMs_elim h
        obtain ⟨ob, hob, h⟩ := onO_elim h
        obtain ⟨⟨m, e, news⟩, hcl, h2, h⟩ := onO_elim h
        have hz0 : fzOf o = [] := by simp [fzOf, ho, hc]
        rw [hz0, SS.fzB_nil]
        exact Or.inl ⟨.set i _ _, ⟨by simp [cls, ho, hc], Or.inr ⟨_, by simp only [dCopy, ho]; exact ⟨hc, d, y, t, t', τ, te, _, off, len, full, ob, m, e, news, by apply Array.ext'; simpa using hargs, by apply Array.ext'; simpa using htys, ht, asSlice_eq hk, hz, hd', hob, hcl, rfl, h2, rfl⟩, rfl⟩⟩, h⟩
      · exact h.elim
    · rename_i b hb1 hb2 hc
      obtain ⟨s, hs, h⟩ := onO_elim h
      exact pure _ (by simp only [cls, ho, hc]; split <;> simp_all) (by simp [fzOf, *]) (by simp only [sPure, ho, hc]; exact ⟨s, hs, rfl⟩) h
    · exact h.elim
  · exact h.elim

theorem eOp_does {o : Oper} {K : SS → Prop} (h : eOp P false σ o K) : ∃ δ, Does P (σ.fzB false (fzOf o)) o δ ∧ K ((σ.fzB false (fzOf o)).app o.dst δ) := by
  rcases eOp_does' h with h | ⟨h, _⟩
  · exact h
  · cases h
end
end Go.Proofs.Ytockjmmogkhepaa.Sh

/- The logic of shadows, fifteenth part: what an operation does leans on what it reads alone. -/
namespace Go.Proofs.Ytockjmmogkhepaa.Sh
open Go Go.RowKit

section
variable {N : Nat} {σ σ' : SS} {P : Program}

/-- The second state shows an operation what the first shows it. -/
structure Sees (o : Oper) (σ σ' : SS) : Prop where
  ev : ∀ x ∈ o.op.operands, σ'.ev x = σ.ev x
  objs : cls o = 1 → ∀ i ob, σ.objs i = some ob → σ'.objs i = some ob
  same : cls o = 3 → σ'.objs = σ.objs
  n : 2 ≤ cls o → σ'.n = σ.n

theorem at_mono (hm : ∀ i ob, σ.objs i = some ob → σ'.objs i = some ob) {x : ST} {cs : List S1} (h : σ.at x = some cs) : σ'.at x = some cs := by
  unfold SS.at at *
  split at h
  · exact h
  · rename_i i off
    cases hi : σ.objs i with
    | none => simp [hi] at h
    | some ob => simp only [hi, Option.map_some] at h; simp only [hm i ob hi, Option.map_some]; exact h
  · cases h

theorem load_mono (hm : ∀ i ob, σ.objs i = some ob → σ'.objs i = some ob) {τ : TyI} {x : ST} {y : SV} (h : sLoad σ τ x = some y) : sLoad σ' τ x = some y := by
  unfold sLoad at *
  split at h
  · rename_i cs hc; simp only [at_mono hm hc]; exact h
  · cases h

theorem cut_mono (hm : ∀ i ob, σ.objs i = some ob → σ'.objs i = some ob) {τ : TyI} {l h m : Option Int} {x : ST} {y : Nat × S1} (e : sCut σ τ l h m x = some y) : sCut σ' τ l h m x = some y := by
  unfold sCut at *
  split at e
  · exact e
  · exact e
  · rename_i i off
    split at e
    · rename_i hk ho
      simp only [hk, hm _ _ ho]
      exact e
    · cases e
  · cases e

theorem optInt_same {x : Option Operand} (h : ∀ y ∈ x.toArray, σ'.ev y = σ.ev y) : optInt σ' x = optInt σ x := by
  cases x with
  | none => rfl
  | some x => simp [optInt, h x (by simp)]

theorem argsOf_same : ∀ {l : List Operand}, (∀ y ∈ l, σ'.ev y = σ.ev y) → argsOf σ' l = argsOf σ l
  | [], _ => rfl
  | x :: l, h => by
    have h2 : argsOf σ' l = argsOf σ l := argsOf_same (fun y hy => h y (List.mem_cons_of_mem _ hy))
    simp only [argsOf, h x (by simp), h2]

theorem fillS_same {fs : List (Nat × Nat)} : ∀ {l : List (Nat × Operand)} {cs : List S1}, (∀ y ∈ l, σ'.ev y.2 = σ.ev y.2) → fillS fs σ' cs l = fillS fs σ cs l
  | [], _, _ => rfl
  | (i, x) :: l, cs, h => by
    have h1 := h (i, x) (by simp)
    simp only at h1
    simp only [fillS, h1]
    split
    · split
      · exact fillS_same (fun y hy => h y (by simp [hy]))
      · rfl
    · rfl

theorem sBuiltin_same {b : Builtin} {l : List Operand} {t : List Nat} (h : ∀ y ∈ l, σ'.ev y = σ.ev y) : sBuiltin P σ' b l t = sBuiltin P σ b l t := by
  unfold sBuiltin
  split
  · rw [h _ (by simp)]
  · rw [h _ (by simp), h _ (by simp)]
  · rfl

theorem sPure_same {o : Oper} {r : ST} (hp : sPure P σ o r) (h : ∀ x ∈ o.op.operands, σ'.ev x = σ.ev x) (hm : cls o = 1 → ∀ i ob, σ.objs i = some ob → σ'.objs i = some ob) : sPure P σ' o r := by
  obtain ⟨dst, op, type, pos, after, guard⟩ := o
  unfold sPure at *
  cases op <;> simp only [Op.operands] at h hp ⊢ <;> try exact hp.elim
  case move x => rw [h x (by simp)]; exact hp
  case assign x => rw [h x (by simp)]; exact hp
  case pick c x y => rw [h c (by simp), h x (by simp), h y (by simp)]; exact hp
  case load t x =>
    rw [h x (by simp)]
    obtain ⟨τ, y, h1, h2, h3⟩ := hp
    exact ⟨τ, y, h1, load_mono (hm rfl) h2, h3⟩
  case binOp op t x y t2 => rw [h x (by simp), h y (by simp)]; exact hp
  case unOp op t x => rw [h x (by simp)]; exact hp
  case convert s t x => rw [h x (by simp)]; exact hp
  case fieldAddr t x f => rw [h x (by simp)]; exact hp
  case indexAddr t x i => rw [h x (by simp), h i (by simp)]; exact hp
  case slice t x lo hi mx =>
    rw [h x (by simp), optInt_same (fun y hy => h y (by simp at hy ⊢; simp [hy])), optInt_same (fun y hy => h y (by simp at hy ⊢; simp [hy])), optInt_same (fun y hy => h y (by simp at hy ⊢; simp [hy]))]
    obtain ⟨τ, l, g, m, n, s, h1, h2, h3, h4, h5, h6⟩ := hp
    exact ⟨τ, l, g, m, n, s, h1, h2, h3, h4, cut_mono (hm rfl) h5, h6⟩
  case extract x i => rw [h x (by simp)]; exact hp
  case build t ps =>
    obtain ⟨τ, fs, cs, h1, h2, h3, h4, h5⟩ := hp
    refine ⟨τ, fs, cs, h1, h2, h3, ?_, h5⟩
    rw [fillS_same (fun y hy => h y.2 (by simp; exact ⟨y.1, by simpa using hy⟩))]
    exact h4
  case index t x i => rw [h x (by simp), h i (by simp)]; exact hp
  case call c =>
    split at hp
    · rename_i hc
      obtain ⟨ys, h1, h2⟩ := hp
      refine ⟨ys, ?_, h2⟩
      rw [argsOf_same (fun y hy => h y (by simp [Call.operands, hc]; right; simpa using hy))]
      exact h1
    · rename_i hc
      obtain ⟨ys, h1, h2⟩ := hp
      refine ⟨ys, ?_, h2⟩
      rw [sBuiltin_same (fun y hy => h y (by simp [Call.operands, hc]; simpa using hy))]
      exact h1
    · exact hp

theorem Does.same {o : Oper} {δ : Dl} (hp : Does P σ o δ) (h : Sees o σ σ') : Does P σ' o δ := by
  cases δ with
  | pure r => exact ⟨hp.1, sPure_same hp.2 h.ev h.objs⟩
  | set i ob r =>
    obtain ⟨hc, hp⟩ := hp
    have ho := h.same hc
    refine ⟨hc, hp.imp (fun h1 => ⟨?_, h1.2⟩) (fun h1 => ?_)⟩
    · have h1 := h1.1
      unfold dStore at *
      split at h1
      · rename_i t x y hop
        rw [h.ev x (by simp [hop, Op.operands]), h.ev y (by simp [hop, Op.operands]), ho]
        exact h1
      · exact h1.elim
    · obtain ⟨n, h1, h2⟩ := h1
      refine ⟨n, ?_, h2⟩
      unfold dCopy at *
      split at h1
      · rename_i c hop
        obtain ⟨g0, d, y, t, t2, τ, te, z, off, len, full, ob0, m, e, news, g1, g2, g3, g4, g5, g6, g7, g8, g9⟩ := h1
        refine ⟨g0, d, y, t, t2, τ, te, z, off, len, full, ob0, m, e, news, g1, g2, g3, g4, g5, ?_, ?_, ?_, g9⟩
        · rw [h.ev d (by simp [hop, Op.operands, Call.operands, g0, g1])]; exact g6
        · rw [ho]; exact g7
        · rw [h.ev y (by simp [hop, Op.operands, Call.operands, g0, g1])]; unfold SS.cellsOf at *; rw [ho]; exact g8
      · exact h1.elim
  | new ob bo x =>
    rcases hp with ⟨hc, h0, hp⟩ | ⟨hc, hp⟩
    · refine Or.inl ⟨hc, h0, ?_⟩
      have hn := h.n (by omega)
      unfold sAlloc at *
      split at hp
      · rename_i t y hop
        rw [h.ev y (by simp [hop, Op.operands]), hn]
        exact hp
      · rw [hn]; exact hp
      · rename_i t len ps hop
        obtain ⟨τ, te, z, τe, cs, h1, h2, h3, h4, h5, h6, h7⟩ := hp
        refine ⟨τ, te, z, τe, cs, h1, h2, h3, h4, h5, ?_, ?_⟩
        · rw [fillS_same (fun y hy => h.ev y.2 (by simp [hop, Op.operands]; exact ⟨y.1, by simpa using hy⟩))]
          exact h6
        · rw [hn]; exact h7
      · rename_i t l c hop
        rw [h.ev l (by simp [hop, Op.operands]), h.ev c (by simp [hop, Op.operands]), hn]
        exact hp
      · exact hp
    · refine Or.inr ⟨hc, ?_⟩
      have hn := h.n (by omega)
      have ho := h.same hc
      unfold sAppend at *
      split at hp
      · rename_i c hop
        obtain ⟨g0, s, y, t, τ, te, z, τe, n, m, e, old, news, g1, g2, g3, g4, g5, g6, g7, g8, g9⟩ := hp
        refine ⟨g0, s, y, t, τ, te, z, τe, n, m, e, old, news, g1, g2, g3, g4, g5, g6, ?_, ?_, by rw [hn]; exact g9⟩
        · rw [h.ev s (by simp [hop, Op.operands, Call.operands, g0, g1])]; unfold SS.base at *; rw [ho]; exact g7
        · rw [h.ev y (by simp [hop, Op.operands, Call.operands, g0, g1])]; unfold SS.cellsOf at *; rw [ho]; exact g8
      · exact hp.elim

/-! ### With a guard -/
def DoesG (P : Program) (ops : Array Oper) (σ : SS) (o : Oper) (δ : Dl) : Prop :=
  match o.guard with
  | none => Does P σ o δ
  | some (j, want) => ∃ d, (ops[j]?).bind (·.dst) = some d ∧ ((σ.t d = B want ∧ Does P σ o δ) ∨ ((σ.t d = B (!want) ∨ σ.t d = ST.no) ∧ δ = .pure ST.no))

def Dl.fits (c : Nat) : Dl → Prop
  | .pure _ => True
  | .new _ bo _ => (c = 2 ∧ bo = none) ∨ c = 3
  | .set _ _ _ => c = 3

theorem DoesG.fits {ops : Array Oper} {o : Oper} {δ : Dl} (h : DoesG P ops σ o δ) : δ.fits (cls o) := by
  have one : Does P σ o δ → δ.fits (cls o) := fun h => by
    cases δ with
    | pure r => trivial
    | set i ob r => exact h.1
    | new ob bo x => exact h.imp (fun h => ⟨h.1, h.2.1⟩) (fun h => h.1)
  unfold DoesG at h
  split at h
  · exact one h
  · obtain ⟨d, _, ⟨_, h⟩ | ⟨_, rfl⟩⟩ := h
    · exact one h
    · trivial

theorem DoesG.same {ops : Array Oper} {o : Oper} {δ : Dl} (h : DoesG P ops σ o δ) (hs : Sees o σ σ') (hg : ∀ j want d, o.guard = some (j, want) → (ops[j]?).bind (·.dst) = some d → σ'.t d = σ.t d) : DoesG P ops σ' o δ := by
  unfold DoesG at *
  split at h
  · exact Does.same h hs
  · rename_i j want hgd
    obtain ⟨d, h1, h3⟩ := h
    exact ⟨d, h1, by rw [hg j want d hgd h1]; exact h3.imp (fun h => ⟨h.1, Does.same h.2 hs⟩) id⟩

theorem DoesG.wp {ops : Array Oper} {w0 : W0} {w : World} {ok0 : Bool → Nat → Prop} {a : Act} {i : Nat} {o : Oper} {δ : Dl} {next : Act → World → Prop} {Q : Exit → Act → World → Prop} (hi : ops[i]? = some o) (h : Inv w0 ok0 N σ a w) (hp : DoesG P ops σ o δ)
    (hd : ∀ i, o.dst = some i → i < N) (hK : ∀ a' w', Inv w0 ok0 N (σ.app o.dst δ) a' w' → next a' w') : wpOp P ops Q i next a w := by
  unfold wpOp
  simp only [hi]
  unfold DoesG at hp
  split at hp
  · rename_i hg
    rw [if_pos (by simp [Region.wanted, hg])]
    exact Or.inl (hp.wp h hd hK)
  · rename_i j want hg
    obtain ⟨d, h1, h3⟩ := hp
    obtain ⟨mu, him⟩ := h.im
    rcases h3 with ⟨h2, h3⟩ | ⟨h2 | h2, rfl⟩
    · have hy := guard_yes (ops := ops) him (by simpa using h1) h2
      rw [if_pos (by simp [Region.wanted, hg, hy])]
      exact Or.inl (h3.wp h hd hK)
    · have hy := guard_yes (ops := ops) him (by simpa using h1) h2
      rw [if_neg (by simp [Region.wanted, hg, hy])]
      exact hK _ _ (h.put o.dst hd undef ST.no (fun _ _ => RT.no))
    · have hy := guard_no (ops := ops) him (by simpa using h1) h2
      rw [if_neg (by simp [Region.wanted, hg, hy])]
      exact hK _ _ (h.put o.dst hd undef ST.no (fun _ _ => RT.no))
end
end Go.Proofs.Ytockjmmogkhepaa.Sh

