/- A part of the proof: Sh36, RowA, RowB, RowC -/
import Derived.Test.YtaljbebkooppiaaGreatV9
import Derived.Test.YtaljbebkooppiaaGreatV7
import Derived.Deep.Slices
import Derived.ChangeOld
import Derived.Carry
import Derived.SizedLaws
import Derived.ProofKit
import Derived.OpenShut
set_option linter.unusedSimpArgs false
set_option linter.unusedVariables false
set_option linter.unusedSectionVars false
namespace Go.Proofs.YtaljbebkooppiaaGreat.Sh
open Go Go.RowKit
section
variable {w0 : W0} {w w' : World} {ok0 : Bool → Nat → Prop} {N : Nat} {σ : SS} {a : Act} {mu : Nat → Option (Nat × Nat)} {P : Program}
theorem callsXw {f : Nat} {fn : Func} {c : Code} {args : List SV} {objs0 : List SObj} {r : ST} {objs1 : List (Option SObj)} (hf : P.funcs[f]? = some fn) (hb : fn.body = some c) (hname : (fn.name == "runtime.NumGoroutine") = false) (hN : decide (args.length ≤ fn.ntmps) = true) (hk : objs0.length ≤ objs1.length)
    (h : sw P fn.ntmps c (RetX P fn.results.toList objs0.length r objs1) (SS.of (argList args 0) (objList objs0 0) objs0.length)) : CallsX P f args objs0 r objs1 := by
  have hN' := of_decide_eq_true hN
  refine ⟨⟨fn, hf, hname, by rw [hb]; rfl⟩, hk, fun w vals ok mu hin hlen hargs => ?_⟩
  refine calls_of_sh hf hb ?_
  have hlook : ∀ o ob, (SS.of (argList args 0) (objList objs0 0) objs0.length).objs o = some ob → objs0[o]? = some ob := by
    intro o ob h
    have h : lookO (objList objs0 0) o = some ob := h
    rwa [look_objs, if_pos (Nat.zero_le _), Nat.sub_zero] at h
  have hmo : ∀ fr b, ok fr b → okOf (.at w mu) ok (SS.of (argList args 0) (objList objs0 0) objs0.length) mu w fr b := fun fr b h => ⟨Or.inl h, (hin.ok fr b h).1, fun o ob cc _ => (hin.ok fr b h).2 o cc⟩
  have hinv : Inv (.at w mu) ok fn.ntmps (SS.of (argList args 0) (objList objs0 0) objs0.length) { tmps := vals ++ Array.replicate (fn.ntmps - vals.size) undef, defers := [] } w := by
    refine ⟨Bel.refl _ _, by simp; omega, DefOK.nil _ _, mu, fun t => ?_, fun o ob ho => ?_, fun o o' ob ob' b c c' _ _ => hin.inj o o' b c c', fun o ho => ⟨?_, hin.none o ho⟩, fun o p h => h, Ext.new _ _ _ _⟩
    · show RT w mu _ _ (lookT (argList args 0) t)
      rw [look_args, if_pos (Nat.zero_le _), Nat.sub_zero]
      cases hx : args[t]? with
      | none => exact RT.any _
      | some x =>
        have htl := (List.getElem?_eq_some_iff.1 hx).1
        have e : (vals ++ Array.replicate (fn.ntmps - vals.size) undef).getD t undef = vals.getD t undef := by
          simp only [Array.getD_eq_getD_getElem?]
          rw [Array.getElem?_append_left (by omega)]
        rw [e]
        exact RV.mono hmo (fun _ _ _ => rfl) (fun _ _ h => h) (hargs t x hx)
    · obtain ⟨b, cur, k1, k2, k3, k4⟩ := hin.objs o ob (hlook o ob ho)
      refine ⟨b, cur, k1, Or.inr ⟨o, _, k1⟩, k2, k3, fun j s hj => ?_⟩
      obtain ⟨u, hu, hr⟩ := k4 j s hj
      exact ⟨u, hu, R1.mono hmo (fun _ _ _ => rfl) (fun _ _ h => h) hr⟩
    · have ho' : objs0.length ≤ o := ho
      show lookO (objList objs0 0) o = none
      rw [look_objs, if_pos (Nat.zero_le _), Nat.sub_zero]
      exact List.getElem?_eq_none ho'
  refine wpIn_mono (sw_mono h (fun _ _ h => h) (.at w mu) ok _ w hinv) ?_
  rintro e a' w'' ⟨σ, ⟨he, F, M, ⟨hMn, hMk, hMl⟩, hres, hout⟩, hi⟩
  have hi2 : Inv (.at w mu) ok fn.ntmps (σ.fzF F) a' w'' := hi.fzF F
  obtain ⟨mu1, him0⟩ := hi2.im
  obtain ⟨ys, hys, hsub⟩ := onO_elim hres
  have fin : LeavesInM Fence.wide 0 P fn a'.tmps (fun e w' => ∃ v' mu', e = .returned v' ∧ LentOut w ok mu objs0.length w' mu' objs1 ∧ RT w' mu' (okX w ok mu w' mu' objs1) v' r) a'.defers .returning w'' := by
   refine leaves_marks a'.defers w'' him0.defers fun w' hkk => ?_
   have him := him0.kept hkk
   obtain ⟨v, hv, hrv⟩ := run_resultsX (P := P) him (fn := fn) (by rw [sResX_wx]; exact hys)
   refine ⟨v, hv, ?_⟩
   have hfzn : ((σ.fzF F).wx .nil).n = σ.n := fzF_n F
   generalize hgσ : (σ.fzF F).wx .nil = σf at him hfzn hrv
   have hobjs : ∀ o, (σ.fzF F).objs o = σf.objs o := fun o => by rw [← hgσ]; rfl
   have hk0 : objs0.length ≤ objs1.length := hk
   -- the names of the contract
   have hnmM : ∀ o, objs0.length ≤ o → o < objs1.length → ∃ h : o - objs0.length < M.length, nmO objs0.length σ.n M o = M[o - objs0.length] := fun o h1 h2 =>
     ⟨by omega, by simp only [nmO]; rw [if_neg (by omega), List.getElem?_eq_getElem (by omega)]⟩
   have hnml : ∀ o, o < objs0.length → nmO objs0.length σ.n M o = o := fun o h => by simp [h]
   have hinjn : ∀ o o', o < objs1.length → o' < objs1.length → nmO objs0.length σ.n M o = nmO objs0.length σ.n M o' → o = o' := by
     intro o o' h1 h2 e
     by_cases g1 : o < objs0.length <;> by_cases g2 : o' < objs0.length
     · rwa [hnml o g1, hnml o' g2] at e
     · obtain ⟨q, e'⟩ := hnmM o' (by omega) h2
       rw [hnml o g1, e'] at e
       have := (hMk _ (List.getElem_mem q)).1; omega
     · obtain ⟨q, e'⟩ := hnmM o (by omega) h1
       rw [hnml o' g2, e'] at e
       have := (hMk _ (List.getElem_mem q)).1; omega
     · obtain ⟨q, e1⟩ := hnmM o (by omega) h1
       obtain ⟨q', e2⟩ := hnmM o' (by omega) h2
       rw [e1, e2] at e
       have := (List.getElem_inj hMn).1 e
       omega
   let mu' : Nat → Option (Nat × Nat) := fun o => if o < objs1.length then mu1 (nmO objs0.length σ.n M o) else none
   have hmup : ∀ o, o < objs1.length → mu' o = mu1 (nmO objs0.length σ.n M o) := fun o h => if_pos h
   have hback : ∀ o p, mu1 (nmO objs0.length σ.n M o) = some p → mu' o = some p := by
     intro o p hp
     by_cases e : o < objs1.length
     · rw [hmup o e]; exact hp
     · exfalso
       have : nmO objs0.length σ.n M o = σ.n + o := by simp only [nmO]; rw [if_neg (by omega), List.getElem?_eq_none (by omega)]
       rw [this, (him.m.fresh _ (by rw [hfzn]; omega)).2] at hp
       cases hp
   have hlive : ∀ o ob, objs1[o]? = some (some ob) → o < objs1.length ∧ ∃ ob', σf.objs (nmO objs0.length σ.n M o) = some ob' ∧ ob'.ty = ob.ty ∧ subL ob'.cells (ob.cells.map (S1.ren (nmO objs0.length σ.n M))) := fun o ob h =>
     ⟨(List.getElem?_eq_some_iff.1 h).1, by have := outX_spec hout o ob h; rw [Nat.zero_add, hobjs] at this; exact this⟩
   have hok : ∀ fr b, okOf (.at w mu) ok σf mu1 w' fr b → okX w ok mu w' mu' objs1 fr b := by
     intro fr b ⟨h1, h2, h3⟩
     refine ⟨h1, h2, fun o ob cc ho hm => ?_⟩
     obtain ⟨l, ob', g, _⟩ := hlive o ob ho
     rw [hmup o l] at hm
     exact h3 _ ob' cc g hm
   have hsame : ∀ o, o < objs0.length → mu' o = mu o := fun o ho => by
     obtain ⟨b, cur, k1, _⟩ := hin.objs o objs0[o] (List.getElem?_eq_getElem ho)
     rw [hmup o (by omega), hnml o ho, him.m.lent o _ k1, k1]
   refine ⟨v, mu', rfl, ⟨hsame, fun o ho => if_neg (by omega), fun o o' ob ob' b c c' h1 h2 h3 h4 => ?_, fun o ob ho => ?_, fun o ob b cc ho hm => ?_, him.below⟩, ?_⟩
   · obtain ⟨l1, x1, g1, _⟩ := hlive o ob h1
     obtain ⟨l2, x2, g2, _⟩ := hlive o' ob' h2
     rw [hmup o l1] at h3
     rw [hmup o' l2] at h4
     exact hinjn o o' l1 l2 (him.m.inj _ _ x1 x2 b c c' g1 g2 h3 h4)
   · obtain ⟨l, ob', g1, g2, g3⟩ := hlive o ob ho
     obtain ⟨b, cur, k1, _, k3, k4, k5⟩ := him.m.objs _ ob' g1
     obtain ⟨s1, s2⟩ := subL_spec g3
     refine ⟨b, cur, by rw [hmup o l]; exact k1, by rw [← g2]; exact k3, by simpa [s1] using k4, fun j s hj => ?_⟩
     obtain ⟨s', hs', hsb⟩ := s2 j (s.ren (nmO objs0.length σ.n M)) (by simp [hj])
     obtain ⟨u, hu, hr⟩ := k5 j s' hs'
     exact ⟨u, hu, R1.mono hok (fun _ _ _ => rfl) (fun _ _ h => h) (R1.unren hback (R1.sub hr hsb))⟩
   · obtain ⟨l, ob', g1, _⟩ := hlive o ob ho
     obtain ⟨b', cur, k1, k2, _⟩ := him.m.objs _ ob' g1
     rw [hmup o l, k1] at hm
     obtain ⟨rfl, _⟩ := Prod.mk.inj (Option.some.inj hm)
     exact k2
   · exact RT.mono hok (fun _ _ _ => rfl) (fun _ _ h => h) (RT.unren hback (RT.sub hrv hsub))
  rcases he with rfl | rfl
  · exact fin
  · exact fin
theorem callsXM (S : List Nat) {f : Nat} {fn : Func} {c : Code} {args : List SV} {objs0 : List SObj} {r : ST} {objs1 : List (Option SObj)} (hf : P.funcs[f]? = some fn) (hb : fn.body = some c) (hname : (fn.name == "runtime.NumGoroutine") = false) (hN : decide (args.length ≤ fn.ntmps) = true) (hc : codeOM S fn.ntmps c = true) (hk : objs0.length ≤ objs1.length)
    (h : eM P fn.ntmps S c (RetX P fn.results.toList objs0.length r objs1) (SS.of (argList args 0) (objList objs0 0) objs0.length)) : CallsX P f args objs0 r objs1 :=
  callsXw hf hb hname hN hk (eM_sound S c _ _ hc h)
theorem sw_cutR {Y : Type} {c : Code} {R : Exit → SS → Prop} (mid : Y → SS) (h : holdP (sw P N c (cutQ mid R) σ)) (k : ∀ y, R .normal (mid y)) : holdP (sw P N c R σ) :=
  sw_mono_le h (cutQ_to k)
end
end Go.Proofs.YtaljbebkooppiaaGreat.Sh

namespace Go.Proofs.YtaljbebkooppiaaGreat.Sh
open Go Go.RowKit Go.ChangeShapes Go.WideShapes
mutual
inductive Shp where
  | int (k : IntKind)
  | bool
  | str
  | slice (e : Nat) (s : Shp)
  | agg (fs : Shps)
inductive Shps where
  | nil
  | cons (z : Nat) (s : Shp) (r : Shps)
end
mutual
def Shp.bytes : Shp → Nat
  | .int k => if k == .i64 then 8 else 1
  | .bool => 1
  | .str => 16
  | .slice _ _ => 24
  | .agg fs => fs.bytes
def Shps.bytes : Shps → Nat
  | .nil => 0
  | .cons _ s r => s.bytes + r.bytes
end
mutual
def Shp.fits (P : Program) : Shp → Nat → Bool
  | .int k, t => match P.underlying t with | some (.int k') => k == k' | _ => false
  | .bool, t => match P.underlying t with | some .bool => true | _ => false
  | .str, t => match P.underlying t with | some .string => true | _ => false
  | .slice e s, t => match P.underlying t with | some (.slice el) => ((P.cellsOf el == e && e != 0) && P.bytesOf el != 0 && decide (s.bytes ≤ P.bytesOf el)) && s.fits P el | _ => false
  | .agg fs, t => match P.underlying t with | some (.struct fields) => fs.fits P fields.toList 0 (P.cellsOf t) | _ => false
def Shps.fits (P : Program) : Shps → List Field → Nat → Nat → Bool
  | .nil, [], off, n => off == n
  | .cons z s r, f :: fs, off, n => f.offset == off && P.cellsOf f.type == z && s.fits P f.type && r.fits P fs (off + z) n
  | _, _, _, _ => false
end
section
variable {H : Type}
mutual
def Shp.cells : Shp → DataW H → List S1
  | .int k, d => match d with | .lit (.int _ n) => [.int k n] | _ => [.any]
  | .bool, d => match d with | .lit (.bool b) => [.bool b] | _ => [.any]
  | .str, d => match d with | .lit (.string b) => [.str ⟨b.toArray⟩] | _ => [.any]
  | .slice e s, d => match d with | .slice elems _ => [.sl true e (elems.map fun x => s.cells x)] | _ => [.sl true e []]
  | .agg fs, d => match d with | .agg parts => fs.cells parts | _ => []
def Shps.cells : Shps → List (DataW H) → List S1
  | .cons _ s r, d :: ds => s.cells d ++ r.cells ds
  | _, _ => []
end
mutual
def Shp.ok : Shp → DataW H → Prop
  | .int k, d => ∃ n, d = .lit (.int k n) ∧ (Lit.int k n).wf = true
  | .bool, d => ∃ b, d = .lit (.bool b)
  | .str, d => ∃ b, d = .lit (.string b) ∧ b.length ≤ 140737488351232
  | .slice e s, d => d = .nil ∨ ∃ elems spare, d = .slice elems spare ∧ elems.length ≤ 140737488351232 ∧ elems.length * s.bytes ≤ 140737488351232 ∧ ∀ x ∈ elems, s.ok x ∧ (s.cells x).length = e
  | .agg fs, d => ∃ parts, d = .agg parts ∧ fs.ok parts
def Shps.ok : Shps → List (DataW H) → Prop
  | .nil, ds => ds = []
  | .cons z s r, ds => ∃ d ds', ds = d :: ds' ∧ (s.ok d ∧ (s.cells d).length = z) ∧ r.ok ds'
end
variable {enc : TypeId × Value → H} {P : Program} {w : World}
def Cells (w : World) (cs : List Value) (l : List S1) : Prop := cs.length = l.length ∧ ∀ (j : Nat) (s : S1), l[j]? = some s → ∃ u, cs[j]? = some u ∧ R0 w (fun _ b => b < w.heap.size) u s
theorem Cells.one {u : Value} {s : S1} (h : R0 w (fun _ b => b < w.heap.size) u s) : Cells w [u] [s] := ⟨rfl, fun j s' hj => by
  cases j with
  | zero => simp at hj; subst hj; exact ⟨u, rfl, h⟩
  | succ j => simp at hj⟩
theorem spot_none {a : Addr} {v : Value} (h : w.cell? a = some v) : a.spot = none ∧ a.block < w.heap.size := by
  unfold World.cell? at h
  split at h
  · rename_i c e f hb
    split at h
    · cases h
    · rename_i hs
      exact ⟨by simpa using hs, (Array.getElem?_eq_some_iff.1 hb).1⟩
  · cases h
theorem Shps.fits_le : ∀ (sh : Shps) {fields : List Field} {off N : Nat}, sh.fits P fields off N = true → off ≤ N
  | .nil, [], off, N, h => by simp [Shps.fits] at h; omega
  | .nil, _ :: _, off, N, h => by simp [Shps.fits] at h
  | .cons z s r, [], off, N, h => by simp [Shps.fits] at h
  | .cons z s r, f :: fs, off, N, h => by
    simp only [Shps.fits, Bool.and_eq_true] at h
    have := Shps.fits_le r h.2
    omega
theorem weightsAll_mem {e : Nat} {d : DataW H} : ∀ {l : List (DataW H)}, d ∈ l → ∀ {n : Nat}, n ∈ d.weights P e → n ∈ DataW.weightsAll P e l
  | d' :: l, hd, n, hn => by
    simp only [DataW.weightsAll, List.mem_append]
    rcases List.mem_cons.1 hd with rfl | hd
    · exact Or.inl hn
    · exact Or.inr (weightsAll_mem hd hn)
mutual
theorem Shp.sound (enc : TypeId × Value → H) {spare : Nat → Bool} : ∀ (sh : Shp) {t fuel : Nat} {cs : List Value} {x : DataW H × List MemPlace}, sh.fits P t = true → (∀ n ∈ x.1.weights P t, n ≤ reachBytes) → DataW.trod enc P w 0 spare true fuel t cs = some x → sh.ok x.1 ∧ Cells w cs (sh.cells x.1)
  | .int k, t, fuel, cs, x, hf, hwt, h => by
    simp only [Shp.fits] at hf
    split at hf
    · rename_i k' hu
      have : k = k' := by simpa using hf
      subst this
      obtain ⟨n, rfl, rfl, hw⟩ := DataW.trod_int hu h
      exact ⟨⟨n, rfl, hw⟩, Cells.one (.int _ _)⟩
    · cases hf
  | .bool, t, fuel, cs, x, hf, hwt, h => by
    simp only [Shp.fits] at hf
    split at hf
    · rename_i hu
      obtain ⟨b, rfl, rfl⟩ := DataW.trod_bool hu h
      exact ⟨⟨b, rfl⟩, Cells.one (.bool _)⟩
    · cases hf
  | .str, t, fuel, cs, x, hf, hwt, h => by
    simp only [Shp.fits] at hf
    split at hf
    · rename_i hu
      obtain ⟨s, rfl, rfl, hs⟩ := DataW.trod_string hu h
      exact ⟨⟨_, rfl, by have := hwt s.data.toList.length (by simp [DataW.weights]); simp only [reachBytes] at this; simpa using this⟩, Cells.one (by simpa [Shp.cells] using R0.str s)⟩
    · cases hf
  | .slice e s, t, fuel, cs, x, hf, hwt, h => by
    simp only [Shp.fits] at hf
    split at hf
    · rename_i el hu
      simp only [Bool.and_eq_true, beq_iff_eq, bne_iff_ne, decide_eq_true_eq] at hf
      obtain ⟨⟨⟨⟨he, e0⟩, eb⟩, ebb⟩, hs⟩ := hf
      rcases Deep.open_slice hu h with ⟨rfl, rfl⟩ | ⟨a, len, cap, m, n, D, Pl, rfl, hb, hl, hm, hmm, rfl, hx⟩
      · exact ⟨Or.inl rfl, Cells.one (.nilsl _ _)⟩
      · have hle : len ≤ m := by rw [hmm]; split <;> omega
        have hlb : len ≤ 140737488351232 := by
          have := hwt ((((List.range len).map D).length + ((List.range (m - len)).map fun j => D (len + j)).length) * P.bytesOf el) (by simp [DataW.weights, hu])
          simp only [List.length_map, List.length_range, reachBytes] at this
          have h2 : len * 1 ≤ (len + (m - len)) * P.bytesOf el := Nat.mul_le_mul (by omega) (by omega)
          omega
        have hlb2 : len * s.bytes ≤ 140737488351232 := by
          have := hwt ((((List.range len).map D).length + ((List.range (m - len)).map fun j => D (len + j)).length) * P.bytesOf el) (by simp [DataW.weights, hu])
          simp only [List.length_map, List.length_range, reachBytes] at this
          have h2 : len * s.bytes ≤ (len + (m - len)) * P.bytesOf el := Nat.mul_le_mul (by omega) ebb
          omega
        have hww : ∀ i, i < len → ∀ n ∈ (D i).weights P el, n ≤ reachBytes := fun i hi n hn => hwt n (by
          simp only [DataW.weights, hu, List.mem_cons, List.mem_append]
          exact Or.inr (Or.inl (weightsAll_mem (List.mem_map.2 ⟨i, List.mem_range.2 hi, rfl⟩) hn)))
        have hel : ∀ i, i < len → ∃ cs', w.cells? 0 (a.add (i * P.cellsOf el)) (P.cellsOf el) = some cs' ∧ s.ok (D i) ∧ Cells w cs' (s.cells (D i)) := fun i hi => by
          obtain ⟨cs', g1, g2⟩ := hx i (by omega)
          exact ⟨cs', g1, Shp.sound enc s hs (hww i hi) g2⟩
        have hlen : ∀ i, i < len → (s.cells (D i)).length = e := fun i hi => by
          obtain ⟨cs', g1, g2, g3⟩ := hel i hi
          rw [← g3.1, (World.cells?_some g1).2.1, he]
        refine ⟨Or.inr ⟨_, _, rfl, by simpa using hlb, by simpa using hlb2, ?_⟩, ?_⟩
        · intro y hy
          obtain ⟨i, hi, rfl⟩ := List.mem_map.1 hy
          have hi' := List.mem_range.1 hi
          obtain ⟨cs', g1, g2, g3⟩ := hel i hi'
          exact ⟨g2, hlen i hi'⟩
        · refine Cells.one ?_
          by_cases h0 : len = 0
          · subst h0
            exact .emp true e a cap
          · · have hcell : ∀ i, i < len → ∀ j, j < e → ∃ u, w.cell? (a.add (i * e + j)) = some u ∧ ∀ s', (s.cells (D i))[j]? = some s' → R0 w (fun _ b => b < w.heap.size) u s' := fun i hi j hj => by
                obtain ⟨cs', g1, g2, g3, g4⟩ := hel i hi
                obtain ⟨k1, k2, k3⟩ := World.cells?_some g1
                have k4 := k3 j (by rw [he]; exact hj)
                rw [he, Deep.add_add, List.getElem?_eq_getElem (by rw [g3, hlen i hi]; exact hj)] at k4
                exact ⟨_, k4, fun s' hs' => by
                  obtain ⟨u, hu1, hu2⟩ := g4 j s' hs'
                  rw [List.getElem?_eq_getElem (by rw [g3, hlen i hi]; exact hj)] at hu1
                  cases hu1; exact hu2⟩
              obtain ⟨u0, hu0, _⟩ := hcell 0 (by omega) 0 (by omega)
              rw [Nat.zero_mul, Nat.zero_add, show a.add 0 = a from rfl] at hu0
              obtain ⟨hsp, hblk⟩ := spot_none hu0
              obtain ⟨b, off, sp⟩ := a
              simp only at hsp
              subst hsp
              have key := R0.sl (w := w) (ok := fun _ b => b < w.heap.size) true e ((List.range len).map fun i => s.cells (D i)) b off cap (fun i j => (w.cell? ⟨b, off + (i * e + j), none⟩).getD undef) (by simp; exact hl) (by simp; omega) (fun _ => hblk)
                (fun i row hr => by
                  simp only [List.getElem?_map, Option.map_eq_some_iff] at hr
                  obtain ⟨i', hi', rfl⟩ := hr
                  obtain ⟨hlt, hi'⟩ := List.getElem?_eq_some_iff.1 hi'
                  simp at hi' hlt
                  subst hi'
                  exact hlen i hlt)
                (fun i row hr j s' hj => by
                  simp only [List.getElem?_map, Option.map_eq_some_iff] at hr
                  obtain ⟨i', hi', rfl⟩ := hr
                  obtain ⟨hlt, hi'⟩ := List.getElem?_eq_some_iff.1 hi'
                  simp at hi' hlt
                  subst hi'
                  have hje := (List.getElem?_eq_some_iff.1 hj).1
                  rw [hlen i hlt] at hje
                  obtain ⟨u, hu, _⟩ := hcell i hlt j hje
                  rw [add_none] at hu
                  rw [hu]; rfl)
                (fun i row hr j s' hj => by
                  simp only [List.getElem?_map, Option.map_eq_some_iff] at hr
                  obtain ⟨i', hi', rfl⟩ := hr
                  obtain ⟨hlt, hi'⟩ := List.getElem?_eq_some_iff.1 hi'
                  simp at hi' hlt
                  subst hi'
                  have hje := (List.getElem?_eq_some_iff.1 hj).1
                  rw [hlen i hlt] at hje
                  obtain ⟨u, hu, hu2⟩ := hcell i hlt j hje
                  rw [add_none] at hu
                  rw [hu]; exact hu2 s' hj)
              simp only [List.length_map, List.length_range] at key
              show R0 w _ _ (S1.sl true e (((List.range len).map D).map fun x => s.cells x))
              rw [List.map_map]
              exact key
    · cases hf
  | .agg fs, t, fuel, cs, x, hf, hwt, h => by
    simp only [Shp.fits] at hf
    split at hf
    · rename_i fields hu
      obtain ⟨xs, n, rfl, rfl, hl, hxl, hx⟩ := DataW.trod_struct hu h
      obtain ⟨g1, g2⟩ := Shps.sound enc fs (off := 0) (xs := xs) (cs := cs) hf (by rw [hxl]; simp) hl (fun n hn => hwt n (by simpa [DataW.weights, hu] using hn)) (fun i f hi => by have := hx i f (by simpa using hi); simpa using this)
      exact ⟨⟨_, rfl, g1⟩, by rw [List.drop_zero] at g2; exact g2⟩
    · cases hf
theorem Shps.sound (enc : TypeId × Value → H) {spare : Nat → Bool} : ∀ (sh : Shps) {fields : List Field} {off N n : Nat} {cs : List Value} {xs : List (DataW H × List MemPlace)}, sh.fits P fields off N = true → xs.length = fields.length → cs.length = N → (∀ n ∈ DataW.weightsEach P (fields.map (·.type)) (xs.map (·.1)), n ≤ reachBytes) →
    (∀ (i : Nat) (f : Field), fields[i]? = some f → DataW.trod enc P w 0 spare true n f.type ((cs.drop f.offset).take (P.cellsOf f.type)) = xs[i]?) → sh.ok (xs.map (·.1)) ∧ Cells w (cs.drop off) (sh.cells (xs.map (·.1)))
  | .nil, fields, off, N, n, cs, xs, hf, hxl, hl, _, hx => by
    cases fields with
    | nil =>
      simp only [Shps.fits, beq_iff_eq] at hf
      have : xs = [] := List.length_eq_zero_iff.1 hxl
      subst this
      refine ⟨rfl, ?_, fun j s hj => by simp [Shps.cells] at hj⟩
      simp [Shps.cells]; omega
    | cons f fs => simp [Shps.fits] at hf
  | .cons z s r, fields, off, N, n, cs, xs, hf, hxl, hl, hwt, hx => by
    cases fields with
    | nil => simp [Shps.fits] at hf
    | cons f fs =>
      simp only [Shps.fits, Bool.and_eq_true, beq_iff_eq] at hf
      obtain ⟨⟨⟨h1, h2⟩, h3⟩, h4⟩ := hf
      cases xs with
      | nil => simp at hxl
      | cons x xs =>
        have g0 := hx 0 f rfl
        simp only [List.getElem?_cons_zero] at g0
        simp only [List.map_cons, DataW.weightsEach, List.mem_append] at hwt
        obtain ⟨k1, k2⟩ := Shp.sound enc s h3 (fun n hn => hwt n (Or.inl hn)) g0
        obtain ⟨k3, k4⟩ := Shps.sound enc r (off := off + z) (xs := xs) h4 (by simpa using hxl) hl (fun n hn => hwt n (Or.inr hn)) (fun i f' hi => by have := hx (i + 1) f' (by simpa using hi); simpa using this)
        have hle := Shps.fits_le r h4
        have hz : ((cs.drop f.offset).take (P.cellsOf f.type)).length = z := by rw [List.length_take, List.length_drop, h1, h2]; omega
        have hk : (s.cells x.1).length = z := by rw [← k2.1, hz]
        rw [h1, h2] at k2 hz
        refine ⟨⟨_, _, rfl, ⟨k1, hk⟩, k3⟩, ?_, ?_⟩
        · show (cs.drop off).length = (s.cells x.1 ++ r.cells (xs.map (·.1))).length
          rw [List.length_append, hk, ← k4.1, List.length_drop, List.length_drop]; omega
        · intro j s' hj
          have hj : (s.cells x.1 ++ r.cells (xs.map (·.1)))[j]? = some s' := hj
          by_cases hjz : j < z
          · rw [List.getElem?_append_left (by omega)] at hj
            obtain ⟨u, hu, hr⟩ := k2.2 j s' hj
            rw [List.getElem?_take, if_pos hjz] at hu
            exact ⟨u, hu, hr⟩
          · rw [List.getElem?_append_right (by omega), hk] at hj
            obtain ⟨u, hu, hr⟩ := k4.2 (j - z) s' hj
            rw [List.getElem?_drop] at hu ⊢
            rw [show off + z + (j - z) = off + j by omega] at hu
            exact ⟨u, hu, hr⟩
end
end
end Go.Proofs.YtaljbebkooppiaaGreat.Sh

namespace Go.Proofs.YtaljbebkooppiaaGreat.Sh
open Go Go.RowKit Go.ChangeShapes Go.WideShapes
def Shp.sv {H : Type} (sh : Shp) (d : DataW H) : SV := match sh with
  | .agg fs => .agg ((Shp.agg fs).cells d)
  | sh => .one ((sh.cells d).headD .any)
def Shp.fitsAll (P : Program) : List Shp → List Nat → Bool
  | [], [] => true
  | s :: ss, t :: ts => s.fits P t && Shp.fitsAll P ss ts
  | _, _ => false
def Shp.okAll {H : Type} : List Shp → List (DataW H) → Prop
  | [], [] => True
  | s :: ss, d :: ds => s.ok d ∧ Shp.okAll ss ds
  | _, _ => False
def Shp.svAll {H : Type} : List Shp → List (DataW H) → List SV
  | s :: ss, d :: ds => s.sv d :: Shp.svAll ss ds
  | _, _ => []
section
variable {H : Type} {enc : TypeId × Value → H} {P : Program} {w : World}
theorem Shp.sound1 {spare : Nat → Bool} {sh : Shp} {t : Nat} {v : Value} {d : DataW H} {p : List MemPlace} {b0 : Nat} (hf : sh.fits P t = true) (hv : Value.okWide P w .any b0 t v) (hwt : ∀ n ∈ d.weights P t, n ≤ reachBytes) (h : DataW.Trod enc P w 0 spare true t v d p) :
    sh.ok d ∧ RV w mu0 (fun _ b => b < w.heap.size) v (sh.sv d) := by
  obtain ⟨fuel, h⟩ := h
  obtain ⟨h1, h2⟩ := Shp.sound enc sh hf hwt h
  refine ⟨h1, ?_⟩
  have one : ∀ (s : S1) (l : List S1), sh.cells d = s :: l → v.cells = #[v] → RV w mu0 (fun _ b => b < w.heap.size) v (.one ((sh.cells d).headD .any)) := by
    intro s l e ev
    obtain ⟨u, hu, hr⟩ := h2.2 0 s (by rw [e]; rfl)
    rw [ev] at hu
    simp at hu
    subst hu
    rw [e]
    exact .c hr
  cases sh with
  | int k =>
    simp only [Shp.fits] at hf
    split at hf
    · rename_i k' hu
      obtain ⟨n, rfl, hw⟩ := h1
      obtain ⟨m, rfl⟩ := okWide_int hu hv
      exact one _ _ rfl rfl
    · cases hf
  | bool =>
    simp only [Shp.fits] at hf
    split at hf
    · rename_i hu
      obtain ⟨b, rfl⟩ := h1
      obtain ⟨m, rfl⟩ := okWide_bool hu hv
      exact one _ _ rfl rfl
    · cases hf
  | str =>
    simp only [Shp.fits] at hf
    split at hf
    · rename_i hu
      obtain ⟨b, rfl, hb⟩ := h1
      obtain ⟨m, rfl⟩ := okWide_string hu hv
      exact one _ _ rfl rfl
    · cases hf
  | slice e s =>
    simp only [Shp.fits] at hf
    split at hf
    · rename_i el hu
      obtain ⟨a, len, cap, rfl⟩ := okWide_slice hu hv
      rcases h1 with rfl | ⟨elems, sp, rfl, _⟩
      · exact one _ _ rfl rfl
      · exact one _ _ rfl rfl
    · cases hf
  | agg fs =>
    simp only [Shp.fits] at hf
    split at hf
    · rename_i fields hu
      obtain ⟨arr, rfl, _⟩ := okWide_struct hu hv
      refine ⟨arr, rfl, by simpa [Value.cells] using h2.1, fun j s hj => ?_⟩
      obtain ⟨u, hu, hr⟩ := h2.2 j s hj
      exact ⟨u, by simpa [Value.cells] using hu, .c hr⟩
    · cases hf
theorem Shp.soundAll {spare : Nat → Bool} {b0 : Nat} : ∀ {shs : List Shp} {ts : List Nat} {vs : List Value} {ds : List (DataW H)} {p : List MemPlace}, Shp.fitsAll P shs ts = true → (∀ n ∈ DataW.weightsEach P ts ds, n ≤ reachBytes) → DataW.TrodAll enc P w 0 spare true ts vs ds p →
    (∀ (j : Nat) t v, ts[j]? = some t → vs[j]? = some v → Value.okWide P w .any b0 t v) →
    Shp.okAll shs ds ∧ vs.length = (Shp.svAll shs ds).length ∧ ds.length = ts.length ∧ ∀ (i : Nat) (x : SV), (Shp.svAll shs ds)[i]? = some x → ∃ v, vs[i]? = some v ∧ RV w mu0 (fun _ b => b < w.heap.size) v x
  | [], [], vs, ds, p, _, _, h, _ => by
    obtain ⟨rfl, rfl, rfl⟩ := trodAll_nil h
    exact ⟨trivial, rfl, rfl, fun i x hi => by simp [Shp.svAll] at hi⟩
  | [], _ :: _, _, _, _, h, _, _, _ => by simp [Shp.fitsAll] at h
  | _ :: _, [], _, _, _, h, _, _, _ => by simp [Shp.fitsAll] at h
  | s :: shs, t :: ts, vs, ds, p, hf, hwt, h, hv => by
    simp only [Shp.fitsAll, Bool.and_eq_true] at hf
    obtain ⟨v, vs', d, ds', p', q, rfl, rfl, rfl, h1, h2⟩ := trodAll_cons h
    simp only [DataW.weightsEach, List.mem_append] at hwt
    obtain ⟨g1, g2⟩ := Shp.sound1 hf.1 (hv 0 t v rfl rfl) (fun n hn => hwt n (Or.inl hn)) h1
    obtain ⟨k1, k2, k3, k4⟩ := Shp.soundAll hf.2 (fun n hn => hwt n (Or.inr hn)) h2 (fun j t v h1 h2 => hv (j + 1) t v (by simpa using h1) (by simpa using h2))
    refine ⟨⟨g1, k1⟩, by simp [Shp.svAll, k2], by simp [k3], fun i x hi => ?_⟩
    cases i with
    | zero => simp [Shp.svAll] at hi; subst hi; exact ⟨v, rfl, g2⟩
    | succ i => simp [Shp.svAll] at hi; obtain ⟨v', h1, h2⟩ := k4 i x hi; exact ⟨v', by simpa using h1, h2⟩
theorem weightsEach_mem : ∀ {ts ts' : List Nat} {ds ds' : List (DataW H)} {n : Nat}, n ∈ DataW.weightsEach P ts ds → n ∈ DataW.weightsEach P (ts ++ ts') (ds ++ ds')
  | [], _, ds, _, n, h => by simp [DataW.weightsEach] at h
  | _ :: _, _, [], _, n, h => by simp [DataW.weightsEach] at h
  | t :: ts, ts', d :: ds, ds', n, h => by
    simp only [DataW.weightsEach, List.mem_append, List.cons_append] at h ⊢
    rcases h with h | h
    · exact Or.inl h
    · exact Or.inr (weightsEach_mem h)
theorem trodAll_stays (hl : laidOutB P = true) {w' : World} (hb : Below w.heap.size w w') : ∀ {ts : List Nat} {vs : List Value} {ds : List (DataW H)} {p : List MemPlace}, (ts.all fun t => P.readableRec t && decide (t < P.types.size)) = true → DataW.TrodAll enc P w 0 (fun _ => true) true ts vs ds p →
    DataW.TrodAll enc P w' 0 (fun b => decide (b < w.heap.size)) true ts vs ds p
  | [], vs, ds, p, _, h => by
    obtain ⟨rfl, rfl, rfl⟩ := trodAll_nil h
    exact trodAll_mk0
  | t :: ts, vs, ds, p, hr, h => by
    simp only [List.all_cons, Bool.and_eq_true] at hr
    obtain ⟨v, vs', d, ds', p', q, rfl, rfl, rfl, h1, h2⟩ := trodAll_cons h
    have hlt : ∀ x ∈ p', x.block < w.heap.size := by obtain ⟨m, hm⟩ := h1; exact DataW.trod_lt m _ _ _ hm
    exact trodAll_cons_mk (Below.trod hl hr.1.1 (of_decide_eq_true hr.1.2) h1 hb hlt) (trodAll_stays hl hb hr.2 h2)
theorem law_post {f : Nat} {fn : Func} {s : ChangeSpec} {shs : List Shp} {tb : Nat} (hl : laidOutB P = true) (hr : (fn.params.toList.all fun t => P.readableRec t && decide (t < P.types.size)) = true) (hf : Shp.fitsAll P shs fn.params.toList = true)
    (hres : fn.resultTypes = #[tb]) (hb : P.underlying tb = some .bool) (hv : s.vars = []) (hs : ∀ ds : List (DataW H), ds.length = fn.params.toList.length → s.fn H ds = { results := [.lit (.bool true)], args := ds })
    (hcall : ∀ ds : List (DataW H), Shp.okAll shs ds → CallsS P f (Shp.svAll shs ds) (B true)) {base : Nat} {args : Array Value} {ds gs : List (DataW H)} {before : List MemPlace}
    (hval : ∀ (j : Nat) t v, fn.params[j]? = some t → args[j]? = some v → Value.okWide P w .any base t v) (hW : DataW.Whole enc P fn.params.toList s.vars false w args.toList ds gs before)
    (hsz : (DataW.weightsEach P (fn.params.toList ++ s.plain.varTypes P) (ds ++ gs)).all (· ≤ reachBytes) = true) :
    Calls P f args w fun e w' => ∃ v, e = .returned v ∧ s.post enc P fn false true false false w args v w' := by
  have hW' := hW
  obtain ⟨p, q, hA, hV, rfl, hfz, hnd⟩ := hW
  rw [hv] at hV
  obtain ⟨rfl, rfl⟩ := trodVars_none hV
  have hwt : ∀ n ∈ DataW.weightsEach P fn.params.toList ds, n ≤ reachBytes := fun n hn => by
    have := List.all_eq_true.1 hsz n (weightsEach_mem hn)
    simpa using this
  obtain ⟨k1, k2, k3, k4⟩ := Shp.soundAll hf hwt hA (fun j t v h1 h2 => hval j t v (by simpa using h1) (by simpa using h2))
  refine ((hcall ds k1).2 w args (fun _ b => b < w.heap.size) (fun _ _ h => h) (by simpa using k2) (fun i x hi => ?_)).mono fun e w' ⟨v, he, hr', bel⟩ => ?_
  · obtain ⟨v, hv, hr⟩ := k4 i x hi
    have : args.getD i undef = v := by
      have hv : args[i]? = some v := by simpa using hv
      simp [Array.getD_eq_getD_getElem?, hv]
    rw [this]; exact hr
  · have hvv : v = .bool true := by
      have := R1.c0 (show R1 _ _ _ _ (S1.bool true) from hr') rfl
      cases this; rfl
    subst hvv
    have hres2 : fn.resultTypes.toList = [tb] := by rw [hres]
    have hsz : fn.resultTypes.size = 1 := by rw [hres]; rfl
    refine ⟨_, he, ds, [], p ++ [], [], p, [], hW', ?_, ?_, ?_, ?_, fun h => by cases h⟩
    · rw [List.append_nil, hs ds (by rw [k3]), hres2, hsz]
      exact trodAll_mk1 (shut_bool hb true)
    · rw [List.append_nil, hs ds (by rw [k3])]
      exact trodAll_stays hl bel hr hA
    · rw [List.append_nil, hs ds (by rw [k3]), hv]
      rfl
    · exact bel.frame _
end
end Go.Proofs.YtaljbebkooppiaaGreat.Sh

namespace Go.Proofs.YtaljbebkooppiaaGreat.Sh
open Go Go.RowKit
theorem wf_i64 {n : Int} (h : (Lit.int .i64 n).wf = true) : -9223372036854775808 ≤ n ∧ n < 9223372036854775808 := by
  simp [Lit.wf, IntKind.min, IntKind.max, IntKind.signed, IntKind.bits] at h; omega
theorem wf_u32 {n : Int} (h : (Lit.int .u32 n).wf = true) : 0 ≤ n ∧ n < 4294967296 := by
  simp [Lit.wf, IntKind.min, IntKind.max, IntKind.signed, IntKind.bits] at h; omega
section
variable {H : Type}
theorem okAll_cons {s : Shp} {ss : List Shp} {ds : List (DataW H)} (h : Shp.okAll (s :: ss) ds) : ∃ d ds', ds = d :: ds' ∧ s.ok d ∧ Shp.okAll ss ds' := by
  cases ds with
  | nil => exact h.elim
  | cons d ds => exact ⟨d, ds, rfl, h.1, h.2⟩
theorem okAll_nil {ds : List (DataW H)} (h : Shp.okAll [] ds) : ds = [] := by
  cases ds with
  | nil => rfl
  | cons d ds => exact h.elim
theorem svAll_cons (s : Shp) (ss : List Shp) (d : DataW H) (ds : List (DataW H)) : Shp.svAll (s :: ss) (d :: ds) = s.sv d :: Shp.svAll ss ds := rfl
theorem svAll_nil : Shp.svAll [] ([] : List (DataW H)) = [] := rfl
theorem sv_slice (e : Nat) (s : Shp) (d : DataW H) : (Shp.slice e s).sv d = .one (((Shp.slice e s).cells d).headD .any) := rfl
theorem list_of {α : Type} {s : Shp} {q : α → Prop} {f : α → List S1} (h : ∀ d : DataW H, s.ok d → ∃ x, s.cells d = f x ∧ q x) : ∀ (l : List (DataW H)), (∀ d ∈ l, s.ok d) → ∃ xs : List α, l.map (fun d => s.cells d) = xs.map f ∧ xs.length = l.length ∧ ∀ x ∈ xs, q x
  | [], _ => ⟨[], rfl, rfl, fun x hx => by cases hx⟩
  | d :: l, hd => by
    obtain ⟨x, h1, h2⟩ := h d (hd d (List.mem_cons_self ..))
    obtain ⟨xs, g1, g2, g3⟩ := list_of h l (fun d' hd' => hd d' (List.mem_cons_of_mem _ hd'))
    refine ⟨x :: xs, by simp [h1, g1], by simp [g2], fun y hy => ?_⟩
    rcases List.mem_cons.1 hy with rfl | hy
    · exact h2
    · exact g3 y hy
theorem slice_of_ok {α : Type} {e : Nat} {s : Shp} {q : α → Prop} {f : α → List S1} (h : ∀ d : DataW H, s.ok d → ∃ x, s.cells d = f x ∧ q x) {d : DataW H} (hd : (Shp.slice e s).ok d) : ∃ xs : List α, (Shp.slice e s).cells d = [.sl true e (xs.map f)] ∧ xs.length ≤ 140737488351232 ∧ ∀ x ∈ xs, q x := by
  rcases hd with rfl | ⟨elems, spare, rfl, h1, -, h2⟩
  · exact ⟨[], rfl, Nat.zero_le _, fun x hx => by cases hx⟩
  · obtain ⟨xs, g1, g2, g3⟩ := list_of h elems (fun d hd => (h2 d hd).1)
    exact ⟨xs, by simp only [Shp.cells, g1], by omega, g3⟩
theorem slice_of_okB {α : Type} {e : Nat} {s : Shp} {q : α → Prop} {f : α → List S1} (h : ∀ d : DataW H, s.ok d → ∃ x, s.cells d = f x ∧ q x) {d : DataW H} (hd : (Shp.slice e s).ok d) : ∃ xs : List α, (Shp.slice e s).cells d = [.sl true e (xs.map f)] ∧ xs.length ≤ 140737488351232 ∧ xs.length * s.bytes ≤ 140737488351232 ∧ ∀ x ∈ xs, q x := by
  rcases hd with rfl | ⟨elems, spare, rfl, h1, hb, h2⟩
  · exact ⟨[], rfl, Nat.zero_le _, by simp, fun x hx => by cases hx⟩
  · obtain ⟨xs, g1, g2, g3⟩ := list_of h elems (fun d hd => (h2 d hd).1)
    exact ⟨xs, by simp only [Shp.cells, g1], by omega, by rw [g2]; exact hb, g3⟩
theorem int_of_ok {k : IntKind} {d : DataW H} (hd : (Shp.int k).ok d) : ∃ n, (Shp.int k).cells d = [.int k n] ∧ (Lit.int k n).wf = true := by
  obtain ⟨n, rfl, hw⟩ := hd
  exact ⟨n, rfl, hw⟩
theorem bool_of_ok {d : DataW H} (hd : Shp.bool.ok d) : ∃ b, Shp.bool.cells d = [.bool b] := by
  obtain ⟨b, rfl⟩ := hd
  exact ⟨b, rfl⟩
theorem ints_of_ok {k : IntKind} {d : DataW H} (hd : (Shp.slice 1 (.int k)).ok d) : ∃ l : List Int, (Shp.slice 1 (.int k)).cells d = [.sl true 1 (l.map fun x => [.int k x])] ∧ l.length ≤ 140737488351232 ∧ ∀ x ∈ l, (Lit.int k x).wf = true :=
  slice_of_ok (f := fun x => [.int k x]) (fun _ h => int_of_ok h) hd
end
end Go.Proofs.YtaljbebkooppiaaGreat.Sh

