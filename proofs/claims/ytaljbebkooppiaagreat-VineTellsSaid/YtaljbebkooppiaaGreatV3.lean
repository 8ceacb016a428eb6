/- A part of the proof: Sh9, Sh10, Sh10n, Sh10b, Sh11 -/
import Derived.Test.YtaljbebkooppiaaGreatV2
set_option linter.unusedSimpArgs false
set_option linter.unusedVariables false
set_option linter.unusedSectionVars false
namespace Go.Proofs.YtaljbebkooppiaaGreat.Sh
open Go Go.RowKit
section
variable {w0 : W0} {w w' : World} {ok0 : Bool → Nat → Prop} {N : Nat} {σ σ' : SS} {a : Act} {mu mu' : Nat → Option (Nat × Nat)} {ok : Bool → Nat → Prop} {P : Program}
/-! ### New objects -/
def slots (z len : Nat) : List (Nat × Nat) := (List.range len).map fun i => (i * z, z)
def sAlloc (P : Program) (σ : SS) (o : Oper) (ob : SObj) (x : S1) : Prop :=
  match o.op with
  | .box t y => ∃ z, σ.ev y = .v z ∧ z.known = true ∧ ob = ⟨t, z.cells⟩ ∧ x = .mp σ.n 0
  | .alloc t => ∃ τ, tyOf P t = some τ ∧ τ.zero.isEmpty = false ∧ ob = ⟨t, τ.zero.map ofVal1⟩ ∧ x = .mp σ.n 0
  | .buildSlice t len parts => ∃ τ te z τe cs, tyOf P t = some τ ∧ τ.kind = .slice te z ∧ tyOf P te = some τe ∧ τe.zero.isEmpty = false ∧ (z ≠ 0 ∧ len * z ≤ 2 ^ 24) ∧ fillS (slots z len) σ (List.replicate (len * z) .any) parts.toList = some cs ∧
      ob = ⟨te, cs⟩ ∧ x = .ms σ.n 0 len z true
  | .makeSlice t l c => ∃ τ te z τe n m, tyOf P t = some τ ∧ τ.kind = .slice te z ∧ tyOf P te = some τe ∧ (τe.zero.length = z ∧ z ≠ 0) ∧ σ.ev l = I .i64 n ∧ σ.ev c = I .i64 m ∧ n ≤ m ∧ (0 ≤ n ∧ τe.bytes * m ≤ 281474976710656 ∧ m ≤ 281474976710656) ∧
      ob = ⟨te, (List.replicate n.toNat (τe.zero.map ofVal1)).flatten⟩ ∧ x = .ms σ.n 0 n.toNat z true
  | _ => False
theorem IM.alloc_wp2 {o : Oper} {next : Act → World → Prop} {Q : Exit → Act → World → Prop} (h : IM w0 ok0 N σ mu a w) {ob : SObj} {x : S1} {cur : Array Value} {v : Value} (hrun : (execOp a.eval o).run P w = .ok (.value v) (w.alloc (.cells cur ob.ty)))
    (hle : ob.cells.length ≤ cur.size) (hrc : ∀ (j : Nat) (s : S1), ob.cells[j]? = some s → ∃ u, cur[j]? = some u ∧ R1 w mu (okOf w0 ok0 σ mu w) u s) (hx : ∀ mu' w1 ok1, mu' σ.n = some (w.heap.size, cur.size) → R1 w1 mu' ok1 v x)
    (hd : ∀ i, o.dst = some i → i < N) (hK : ∀ a' w', Inv w0 ok0 N ((σ.new ob).put o.dst (.v (.one x))) a' w' → next a' w') : o.wp P a w next Q := by
  unfold Oper.wp
  rw [hrun, Oper.upon_value]
  exact hK _ _ (InvM.newPut h.below h.size h.defers h.m ob cur hle hrc o.dst hd v (.v (.one x)) hx)
theorem IM.alloc_wp {o : Oper} {next : Act → World → Prop} {Q : Exit → Act → World → Prop} (h : IM w0 ok0 N σ mu a w) {ob : SObj} {x : S1} {cur : Array Value} {v : Value} (hrun : (execOp a.eval o).run P w = .ok (.value v) (w.alloc (.cells cur ob.ty)))
    (hrc : RC w mu (okOf w0 ok0 σ mu w) cur ob.cells) (hx : ∀ mu' w1 ok1, mu' σ.n = some (w.heap.size, cur.size) → R1 w1 mu' ok1 v x)
    (hd : ∀ i, o.dst = some i → i < N) (hK : ∀ a' w', Inv w0 ok0 N ((σ.new ob).put o.dst (.v (.one x))) a' w' → next a' w') : o.wp P a w next Q := by
  exact IM.alloc_wp2 h hrun (Nat.le_of_eq hrc.1.symm) hrc.2 hx hd hK
theorem run_vals' {o : Oper} {s : Sem Value} {v : Value} (ho : execOp a.eval o = (do pure (.value (← s)))) (hs : s.run P w = .ok v w') : (execOp a.eval o).run P w = .ok (.value v) w' := by
  rw [ho]
  simp only [Sem.run_bind, hs, Result.andThen_ok, Sem.run_pure]
theorem getD_replicate_any (n j : Nat) (s : S1) (h : (List.replicate n S1.any)[j]? = some s) : s = .any := by
  rw [List.getElem?_replicate] at h
  split at h
  · cases h; rfl
  · cases h
theorem slots_get (z len i : Nat) (p : Nat × Nat) (h : (slots z len)[i]? = some p) : p = (i * z, z) := by
  simp only [slots, List.getElem?_map, Option.map_eq_some_iff] at h
  obtain ⟨k, hk, rfl⟩ := h
  have := List.getElem?_eq_some_iff.1 hk
  obtain ⟨hk1, hk2⟩ := this
  simp at hk2
  rw [hk2]
theorem flatten_get {α : Type} (zs : List α) : ∀ (n j : Nat) (_ : j < n * zs.length), (List.replicate n zs).flatten[j]? = zs[j % zs.length]?
  | 0, j, h => by omega
  | n + 1, j, h => by
    rw [List.replicate_succ, List.flatten_cons]
    by_cases hj : j < zs.length
    · rw [List.getElem?_append_left hj, Nat.mod_eq_of_lt hj]
    · rw [List.getElem?_append_right (by omega), flatten_get zs n (j - zs.length) (by rw [Nat.succ_mul] at h; omega)]
      congr 1
      rw [← Nat.mod_eq_sub_mod (by omega)]
theorem putL_length (cs : List S1) (off : Nat) (l : List S1) : (putL cs off l).length = cs.length := by
  induction l generalizing cs off with
  | nil => rfl
  | cons s l ih => rw [putL, ih, List.length_set]
theorem fillS_length (fs : List (Nat × Nat)) (σ : SS) : ∀ (parts : List (Nat × Operand)) (cs ds : List S1), fillS fs σ cs parts = some ds → ds.length = cs.length
  | [], cs, ds, e => by cases e; rfl
  | (i, x) :: rest, cs, ds, e => by
    simp only [fillS] at e
    split at e
    · split at e
      · rw [fillS_length fs σ rest _ ds e, putL_length]
      · cases e
    · cases e
theorem alloc_wp {o : Oper} {ob : SObj} {x : S1} {next : Act → World → Prop} {Q : Exit → Act → World → Prop} (h : Inv w0 ok0 N σ a w) (hp : sAlloc P σ o ob x)
    (hd : ∀ i, o.dst = some i → i < N) (hK : ∀ a' w', Inv w0 ok0 N ((σ.new ob).put o.dst (.v (.one x))) a' w' → next a' w') : o.wp P a w next Q := by
  obtain ⟨mu, h⟩ := h.im
  unfold sAlloc at hp
  split at hp
  · rename_i t y ho
    obtain ⟨z, hz, hk, rfl, rfl⟩ := hp
    have hy := h.ev y
    rw [hz] at hy
    have hc := RV.cells hy (fun s e => by subst e; exact hk)
    refine IM.alloc_wp h (cur := (a.eval y).cells) (v := .pointer (some ⟨w.heap.size, 0, none⟩)) ?_ hc (fun mu' w1 ok1 hm => .mp _ 0 w.heap.size _ hm) hd hK
    simp only [execOp, ho, Instr.box, newVar, newRow, Sem.run_bind, run_newObj, Result.andThen_ok, Sem.run_pure]
    rfl
  · rename_i t ho
    obtain ⟨τ, ht, hne, rfl, rfl⟩ := hp
    obtain ⟨ti, d, g1, g2, g3, g4, g5, g6⟩ := tyOf_some ht
    cases hzv : ti.zero with
    | none => rw [hzv] at g6; simp at g6; rw [g6] at hne; simp at hne
    | some z =>
      rw [hzv] at g6
      simp only [Option.map_some, Option.getD_some] at g6
      refine IM.alloc_wp h (cur := z.cells) (v := .pointer (some ⟨w.heap.size, 0, none⟩)) ?_ ?_ (fun mu' w1 ok1 hm => .mp _ 0 w.heap.size _ hm) hd hK
      · simp only [execOp, ho, Instr.alloc, zeroValue, typeInfo, g1, hzv, newVar, newRow, Sem.run_bind, run_program, run_newObj, Result.andThen_ok, Sem.run_pure]
        rfl
      · rw [← g6]
        refine ⟨by simp, fun j s hj => ?_⟩
        simp only [List.getElem?_map, Option.map_eq_some_iff] at hj
        obtain ⟨u, hu, rfl⟩ := hj
        exact ⟨u, by simpa using hu, R1_ofVal1 u⟩
  · rename_i t len parts ho
    obtain ⟨τ, te, z, τe, cs, ht, hk, hte, hne, ⟨hz0, hlen⟩, hf, rfl, rfl⟩ := hp
    obtain ⟨ti, d, g1, g2, g3, g4, g5, g6⟩ := tyOf_some ht
    obtain ⟨tj, dj, j1, j2, j3, j4, j5, j6⟩ := tyOf_some hte
    rw [hk] at g5
    obtain ⟨rfl, hzz⟩ := slice_of g5
    have hsz := run_cellsOf (w := w) hzz hz0
    cases hzv : tj.zero with
    | none => rw [hzv] at j6; simp at j6; rw [j6] at hne; simp at hne
    | some zv =>
      have hrc0 : RC w mu (okOf w0 ok0 σ mu w) ((Array.range (len * z)).map fun i => (if len * z = 0 then #[] else zv.cells)[i % (if len * z = 0 then #[] else zv.cells).size]!) (List.replicate (len * z) .any) := by
        refine ⟨by simp, fun j s hj => ?_⟩
        have hjl := (List.getElem?_eq_some_iff.1 hj).1
        simp at hjl
        obtain rfl := getD_replicate_any _ _ _ hj
        exact ⟨_, by simp [hjl]; rfl, .c (.any _)⟩
      obtain ⟨arr', h1, h2⟩ := run_fill_sh h (place := fun i => some (i * z, z)) (fs := slots z len) (fun i p hp => by rw [slots_get z len i p hp]) parts.toList hrc0 hf
      have hcl : arr'.size = len * z := by rw [h2.1, fillS_length _ _ _ _ _ hf, List.length_replicate]
      refine IM.alloc_wp h (cur := arr') (v := .slice (some ⟨w.heap.size, 0, none⟩) len len) ?_ h2 (fun mu' w1 ok1 hm => .ms _ 0 len z true w.heap.size _ len 0 hm (Nat.le_refl _) (by simp only [maxLen]; have := Nat.le_mul_of_pos_right len (show 0 < z by omega); omega) (by rw [hcl]; omega) (fun _ => ⟨rfl, hcl.symm, by simp only [maxLen]; have := Nat.le_mul_of_pos_right len (show 0 < z by omega); omega⟩) (fun _ => rfl)) hd hK
      refine run_vals' (s := Instr.buildSlice t len (parts.map fun (i, x) => (i, a.eval x))) (by simp only [execOp, ho]) ?_
      unfold Instr.buildSlice
      simp only [Sem.run_bind, underlying, run_program, Result.andThen_ok, g2, Sem.run_pure, hsz]
      rw [if_neg (by omega)]
      by_cases hc0 : len * z = 0
      · simp only [if_pos hc0] at h1 ⊢
        simp only [Sem.run_bind, Sem.run_pure, Result.andThen_ok, Array.toList_map]
        rw [h1]
        simp only [newRow, Sem.run_bind, run_newObj, Result.andThen_ok, Sem.run_pure]
        rfl
      · simp only [if_neg hc0] at h1 ⊢
        simp only [Sem.run_bind, zeroValue, typeInfo, run_program, Result.andThen_ok, j1, hzv, Sem.run_pure, Array.toList_map]
        rw [h1]
        simp only [newRow, Sem.run_bind, run_newObj, Result.andThen_ok, Sem.run_pure]
        rfl
  · rename_i t l c ho
    obtain ⟨τ, te, z, τe, n, m, ht, hk, hte, ⟨hzl, hz0⟩, hl, hc, hnm, ⟨hn0, hb1, hb2⟩, rfl, rfl⟩ := hp
    obtain ⟨ti, d, g1, g2, g3, g4, g5, g6⟩ := tyOf_some ht
    obtain ⟨tj, dj, j1, j2, j3, j4, j5, j6⟩ := tyOf_some hte
    rw [hk] at g5
    obtain ⟨rfl, hzz⟩ := slice_of g5
    have hsz := run_cellsOf (w := w) hzz hz0
    cases hzv : tj.zero with
    | none => rw [hzv] at j6; simp at j6; rw [j6] at hzl; simp at hzl; omega
    | some zv =>
      rw [hzv] at j6
      simp only [Option.map_some, Option.getD_some] at j6
      have hzs : zv.cells.size = z := by rw [← hzl, ← j6]; simp
      have hlv := h.int hl
      have hcv := h.int hc
      have hfl : ((List.replicate n.toNat (τe.zero.map ofVal1)).flatten).length = n.toNat * z := by simp [hzl]
      have hnz : n.toNat * z ≤ m.toNat * z := Nat.mul_le_mul_right z (by omega)
      have hcs : ((Array.range (m.toNat * z)).map fun i => (if m.toNat * z = 0 then #[] else zv.cells)[i % (if m.toNat * z = 0 then #[] else zv.cells).size]!).size = m.toNat * z := by simp
      have hrc : ∀ (j : Nat) (s : S1), ((List.replicate n.toNat (τe.zero.map ofVal1)).flatten)[j]? = some s → ∃ u, ((Array.range (m.toNat * z)).map fun i => (if m.toNat * z = 0 then #[] else zv.cells)[i % (if m.toNat * z = 0 then #[] else zv.cells).size]!)[j]? = some u ∧ R1 w mu (okOf w0 ok0 σ mu w) u s := by
        intro j s hj
        have hjl := (List.getElem?_eq_some_iff.1 hj).1
        rw [hfl] at hjl
        rw [flatten_get _ _ _ (by simpa [hzl] using hjl), ← j6, List.getElem?_map, Option.map_eq_some_iff] at hj
        obtain ⟨u, hu, rfl⟩ := hj
        rw [if_neg (by omega)]
        refine ⟨u, ?_, R1_ofVal1 u⟩
        simp only [List.length_map, Array.length_toList] at hu
        have hu' : zv.cells[j % zv.cells.size]? = some u := by simpa using hu
        have hu2 : zv.cells[j % zv.cells.size]! = u := by rw [getElem!_def, hu']
        have hjm : j < m.toNat * z := by omega
        simp [hjm, hu2]
      have hw : IntKind.i64.wrap n = n := by
        unfold IntKind.wrap IntKind.bits IntKind.signed
        simp
        omega
      have hwm : IntKind.i64.wrap m = m := by
        unfold IntKind.wrap IntKind.bits IntKind.signed
        simp
        omega
      refine IM.alloc_wp2 h (cur := _) (v := .slice (some ⟨w.heap.size, 0, none⟩) n.toNat m.toNat) ?_ (by rw [hcs, hfl]; exact hnz) hrc (fun mu' w1 ok1 hm => .ms _ 0 n.toNat z true w.heap.size _ m.toNat 0 hm (by omega) (by simp only [maxLen]; omega) (by rw [hcs]; omega) (fun _ => ⟨rfl, hcs.symm, by simp only [maxLen]; omega⟩) (fun _ => rfl)) hd hK
      refine run_vals' (s := Instr.makeSlice t (a.eval l) (a.eval c)) (by simp only [execOp, ho]) ?_
      rw [hlv, hcv]
      unfold Instr.makeSlice
      simp only [Sem.run_bind, underlying, run_program, Result.andThen_ok, g2, Sem.run_pure, asInt, asIntOf, typeInfo, j1, hw, hwm]
      rw [if_neg (by simp only [j4]; simp; omega)]
      simp only [Sem.run_bind, run_askRoom, Result.andThen_ok, hsz]
      by_cases hc0 : m.toNat * z = 0
      · simp only [if_pos hc0]
        simp only [Sem.run_bind, Result.andThen_ok, newRow, run_newObj, Sem.run_pure]
        rfl
      · simp only [if_neg hc0]
        simp only [Sem.run_bind, zeroValue, typeInfo, run_program, j1, hzv, Result.andThen_ok, newRow, run_newObj, Sem.run_pure]
        rfl
  · cases hp
end
end Go.Proofs.YtaljbebkooppiaaGreat.Sh

namespace Go.Proofs.YtaljbebkooppiaaGreat.Sh
open Go Go.RowKit
section
variable {w0 : W0} {w w' : World} {ok0 : Bool → Nat → Prop} {N : Nat} {σ σ' : SS} {a : Act} {mu mu' : Nat → Option (Nat × Nat)} {ok : Bool → Nat → Prop} {P : Program}
theorem SS.setObj_setObj (σ : SS) (o : Nat) (x y : SObj) : (σ.setObj o x).setObj o y = σ.setObj o y := by
  unfold SS.setObj
  congr 1
  funext i
  by_cases e : i = o <;> simp [e]
theorem SS.setObj_get (σ : SS) (o : Nat) (x : SObj) : (σ.setObj o x).objs o = some x := by simp [SS.setObj]
theorem SS.setObj_same {σ : SS} {o : Nat} {x : SObj} (h : σ.objs o = some x) : σ.setObj o x = σ := by
  unfold SS.setObj
  cases σ
  congr 1
  funext i
  by_cases e : i = o
  · subst e; simp at h ⊢; exact h.symm
  · simp [e]
theorem run_storeCells_sh {o b cc : Nat} (hb : mu o = some (b, cc)) : ∀ (l : List S1) (vs : List Value) (σ : SS) (w : World) (ob : SObj) (off i : Nat), IM w0 ok0 N σ mu a w → σ.objs o = some ob → vs.length = l.length → off + i + l.length ≤ ob.cells.length →
    (∀ (j : Nat) (s : S1), l[j]? = some s → s.known = true ∧ ∃ u, vs[j]? = some u ∧ R1 w mu (okOf w0 ok0 σ mu w) u s) →
    ∃ w', (storeCells ⟨b, off, none⟩ vs i).run P w = .ok () w' ∧ IM w0 ok0 N (σ.setObj o { ob with cells := putL ob.cells (off + i) l }) mu a w'
  | [], [], σ, w, ob, off, i, h, ho, _, _, _ => ⟨w, rfl, by rw [show ({ ob with cells := putL ob.cells (off + i) [] } : SObj) = ob from rfl, SS.setObj_same ho]; exact h⟩
  | [], _ :: _, _, _, _, _, _, _, _, e, _, _ => by simp at e
  | _ :: _, [], _, _, _, _, _, _, _, e, _, _ => by simp at e
  | s :: l, v :: vs, σ, w, ob, off, i, h, ho, e, hl, hv => by
    simp only [List.length_cons] at e hl
    obtain ⟨hk, u, hu, hr⟩ := hv 0 s rfl
    simp at hu; subst hu
    obtain ⟨hm, hb0, ⟨old, hold⟩, hf⟩ := h.m.store h.below.size ho hb (off := off + i) (by omega) hr
    have h1 : IM w0 ok0 N (σ.setObj o { ob with cells := ob.cells.set (off + i) s }) mu a (w.setCell ⟨b, off + i, none⟩ v) := ⟨h.below.setCell hb0 _, h.size, h.defers.step (HS.setCell w _ _), hm⟩
    have hbne : ∀ fr b', okOf w0 ok0 σ mu w fr b' → b' ≠ b := fun fr b' hok e => hok.2.2 o ob cc ho (by rw [hb, e])
    have hmo : ∀ fr b', okOf w0 ok0 σ mu w fr b' → okOf w0 ok0 (σ.setObj o { ob with cells := ob.cells.set (off + i) s }) mu (w.setCell ⟨b, off + i, none⟩ v) fr b' := by
      intro fr b' ⟨g1, g2, g3⟩
      refine ⟨g1, by simpa [World.setCell] using g2, fun o' ob' c' hob => ?_⟩
      by_cases e : o' = o
      · subst e; exact g3 o' ob c' ho
      · exact g3 o' ob' c' (by simpa [SS.setObj, e] using hob)
    obtain ⟨w2, r1, r2⟩ := run_storeCells_sh hb l vs _ _ { ob with cells := ob.cells.set (off + i) s } off (i + 1) h1 (SS.setObj_get _ _ _) (by simpa using e) (by simp; omega) (fun j s' hj => by
      obtain ⟨k1, u, k2, k3⟩ := hv (j + 1) s' (by simpa using hj)
      exact ⟨k1, u, by simpa using k2, R1.mono hmo (fun fr b' hok => Below.heap_setCell w _ v b' (hbne fr b' hok)) (fun _ _ h => h) k3⟩)
    refine ⟨w2, ?_, ?_⟩
    · simp only [storeCells, Sem.run_bind, add_none]
      rw [run_store P w ⟨b, off + i, none⟩ v .plain (R1.one hr hk), hold]
      simp only [hf, Bool.false_eq_true, if_false, Result.andThen_ok]
      exact r1
    · rw [SS.setObj_setObj] at r2
      exact r2
def sStore (P : Program) (σ : SS) (o : Oper) (σ' : SS) : Prop :=
  match o.op with
  | .store t x y => ∃ τ i off ob z, tyOf P t = some τ ∧ σ.ev x = .v (.one (.mp i off)) ∧ σ.objs i = some ob ∧ σ.ev y = .v z ∧ (z.known = true ∧ z.cells.all S1.known = true) ∧ (z.cells.length = τ.size ∧ off + τ.size ≤ ob.cells.length) ∧
      σ' = σ.setObj i { ob with cells := putL ob.cells off z.cells }
  | _ => False
theorem store_wp {o : Oper} {next : Act → World → Prop} {Q : Exit → Act → World → Prop} (h : Inv w0 ok0 N σ a w) (hp : sStore P σ o σ')
    (hd : ∀ i, o.dst = some i → i < N) (hK : ∀ a' w', Inv w0 ok0 N (σ'.put o.dst .any) a' w' → next a' w') : o.wp P a w next Q := by
  obtain ⟨mu, h⟩ := h.im
  unfold sStore at hp
  split at hp
  · rename_i t x y ho
    obtain ⟨τ, i, off, ob, z, ht, hx, hob, hy, ⟨hk, hall⟩, ⟨hl1, hl2⟩, rfl⟩ := hp
    have hxv := h.ev x
    rw [hx] at hxv
    generalize hge : a.eval x = X at hxv
    cases hxv with
    | c hxv => cases hxv
    | mp _ _ b cc hm =>
      have hyv := h.ev y
      rw [hy] at hyv
      have hc := RV.cells hyv (fun s e => by subst e; exact hk)
      obtain ⟨w2, r1, r2⟩ := run_storeCells_sh (P := P) hm z.cells (a.eval y).cells.toList σ w ob off 0 h hob (by simpa using hc.1) (by omega) (fun j s hj => by
        obtain ⟨u, hu, hr⟩ := hc.2 j s hj
        exact ⟨List.all_eq_true.1 hall s (List.mem_of_getElem? hj), u, by simpa using hu, hr⟩)
      have hsz := run_sizeOf (w := w) ht
      have hrun : (execOp a.eval o).run P w = .ok .skip w2 := by
        simp only [execOp, ho, Instr.storeAt, hge, Instr.sureAddr, storeVar, Sem.run_bind, Sem.run_pure, Result.andThen_ok, hsz]
        rw [if_neg (by rw [hc.1, hl1]; simp)]
        simp only [r1, Result.andThen_ok]
      unfold Oper.wp
      rw [hrun, Oper.upon_skip]
      rw [Nat.add_zero] at r2
      exact hK _ _ ⟨r2.below, by rw [size_put, r2.size], by rw [defers_put]; exact r2.defers, mu, r2.m.put r2.size o.dst hd undef .any (RT.any _)⟩
  · cases hp
/-! ### append -/
def SS.cellsOf (σ : SS) : ST → Option (Nat × Nat × List S1)
  | .v (.one (.sl _ e rows)) => some (rows.length, e, rows.flatten)
  | .v (.one (.ms o off len e _)) => (σ.objs o).map fun ob => (len, e, (ob.cells.drop off).take (len * e))
  | .v (.one .nils) => some (0, 0, [])
  | _ => none
def SS.base (σ : SS) (z te : Nat) : ST → Option (Nat × Option Nat × List S1)
  | .v (.one .nils) => some (0, none, [])
  | .v (.one (.ms o _ len e full)) => match σ.objs o with
    | some ob => if full = true ∧ e = z ∧ ob.cells.length = len * z ∧ ob.ty = te then some (len, some o, ob.cells) else if full = true ∧ e = z ∧ len * z ≤ ob.cells.length ∧ ob.ty = te then some (len, some o, ob.cells.take (len * z)) else none
    | none => none
  | _ => none
def SS.kill (σ : SS) : Option Nat → SS
  | none => σ
  | some o => { σ with objs := fun i => if i = o then none else σ.objs i }
theorem flatten_rows {α : Type} {e : Nat} : ∀ (rows : List (List α)) (_ : ∀ r ∈ rows, r.length = e) (j : Nat), rows.flatten[j]? = (rows[j / e]?).bind (·[j % e]?)
  | [], _, j => by simp
  | r :: rows, h, j => by
    have hr := h r (List.mem_cons_self ..)
    have ih := flatten_rows rows (fun r' hr' => h r' (List.mem_cons_of_mem _ hr'))
    rw [List.flatten_cons]
    by_cases he : e = 0
    · subst he
      have hall : ∀ r' ∈ r :: rows, r' = [] := fun r' hr' => List.length_eq_zero_iff.1 (h r' hr')
      have h1 : r = [] := hall r (List.mem_cons_self ..)
      have h2 : rows.flatten = [] := by
        apply List.flatten_eq_nil_iff.2
        exact fun l hl => hall l (List.mem_cons_of_mem _ hl)
      rw [h1, h2]
      simp
    · by_cases hj : j < e
      · rw [List.getElem?_append_left (by omega), Nat.div_eq_of_lt hj, Nat.mod_eq_of_lt hj]
        simp
      · rw [List.getElem?_append_right (by omega), hr, ih (j - e)]
        have h1 : j / e = (j - e) / e + 1 := by
          rw [← Nat.sub_add_cancel (show e ≤ j by omega), Nat.add_div_right _ (by omega), Nat.add_sub_cancel]
        have h2 : (j - e) % e = j % e := (Nat.mod_eq_sub_mod (by omega)).symm
        rw [h1, h2]
        simp
theorem IM.cells (h : IM w0 ok0 N σ mu a w) {v : Value} {x : ST} (hx : RT w mu (okOf w0 ok0 σ mu w) v x) {m e : Nat} {cs : List S1} (hc : σ.cellsOf x = some (m, e, cs)) (hl : cs.length = m * e) (hm : m ≠ 0) :
    ∃ (b off cap : Nat) (vs : List Value), v = .slice (some ⟨b, off, none⟩) m cap ∧ vs.length = m * e ∧ (∀ (j : Nat) (u : Value), vs[j]? = some u → w.cell? ((⟨b, off, none⟩ : Addr).add j) = some u) ∧
      ∀ (j : Nat) (s : S1), cs[j]? = some s → ∃ u, vs[j]? = some u ∧ R1 w mu (okOf w0 ok0 σ mu w) u s := by
  unfold SS.cellsOf at hc
  split at hc
  · rename_i fr e' rows
    simp only [Option.some.injEq, Prod.mk.injEq] at hc
    obtain ⟨rfl, rfl, rfl⟩ := hc
    have hx := R1.c0 hx rfl
    cases hx with
    | nilsl => simp at hm
    | emp => simp at hm
    | sl _ _ _ b off cap f hcap hlen hok hrow hcell hr =>
      have hrl : ∀ r ∈ rows, r.length = e' := fun r hr' => by
        obtain ⟨i, hi⟩ := List.getElem?_of_mem hr'
        exact hrow i r hi
      have key : ∀ (j : Nat) (s : S1), rows.flatten[j]? = some s → w.cell? ((⟨b, off, none⟩ : Addr).add j) = some (f (j / e') (j % e')) ∧ R1 w mu (okOf w0 ok0 σ mu w) (f (j / e') (j % e')) s := fun j s hj => by
        rw [flatten_rows rows hrl j, Option.bind_eq_some_iff] at hj
        obtain ⟨r, hr1, hr2⟩ := hj
        have := hcell _ r hr1 _ s hr2
        rw [Nat.mul_comm, Nat.div_add_mod] at this
        rw [add_none]
        exact ⟨this, .c (hr _ r hr1 _ s hr2)⟩
      refine ⟨b, off, cap, (List.range (rows.length * e')).map fun j => f (j / e') (j % e'), rfl, by simp, fun j u hj => ?_, fun j s hj => ?_⟩
      · simp only [List.getElem?_map, Option.map_eq_some_iff] at hj
        obtain ⟨k, hk, rfl⟩ := hj
        obtain ⟨hk1, hk2⟩ := List.getElem?_eq_some_iff.1 hk
        simp at hk1 hk2
        subst hk2
        exact (key j _ (List.getElem?_eq_getElem (by omega))).1
      · have hjl := (List.getElem?_eq_some_iff.1 hj).1
        refine ⟨f (j / e') (j % e'), ?_, (key j s hj).2⟩
        rw [List.getElem?_map, List.getElem?_range (by omega)]
        rfl
  · rename_i o off len e' full
    rw [Option.map_eq_some_iff] at hc
    obtain ⟨ob, ho, hc⟩ := hc
    simp only [Prod.mk.injEq] at hc
    obtain ⟨rfl, rfl, rfl⟩ := hc
    obtain ⟨b, cur, h1, h2, h3, h4, h5⟩ := h.m.objs o ob ho
    cases hx with
    | c hx => cases hx
    | ms _ _ _ _ _ b' cc cap off' hmm hcap hlen hin hfull hoff =>
      rw [h1] at hmm
      obtain ⟨rfl, rfl⟩ := Prod.mk.inj (Option.some.inj hmm)
      rw [hoff (Or.inl hm)]
      have hll : ((cur.toList.drop off).take (len * e')).length = len * e' := by
        rw [List.length_take, List.length_drop] at hl ⊢
        simp only [Array.length_toList]
        omega
      refine ⟨b, off, cap, (cur.toList.drop off).take (len * e'), rfl, hll, fun j u hj => ?_, fun j s hj => ?_⟩
      · rw [List.getElem?_take] at hj
        split at hj
        · rw [List.getElem?_drop] at hj
          rw [add_none, cell_of_row w b (off + j) cur ob.ty (0, 0) h3]
          simpa using hj
        · cases hj
      · rw [List.getElem?_take] at hj ⊢
        split at hj
        · rename_i hjl
          rw [if_pos hjl]
          rw [List.getElem?_drop] at hj ⊢
          obtain ⟨u, hu, hr⟩ := h5 _ s hj
          exact ⟨u, by simpa using hu, hr⟩
        · cases hj
  · simp only [Option.some.injEq, Prod.mk.injEq] at hc
    omega
  · cases hc
theorem IM.cells0 (h : IM w0 ok0 N σ mu a w) {v : Value} {x : ST} (hx : RT w mu (okOf w0 ok0 σ mu w) v x) {e : Nat} {cs : List S1} (hc : σ.cellsOf x = some (0, e, cs)) : ∃ b cap, v = .slice b 0 cap := by
  unfold SS.cellsOf at hc
  split at hc
  · rename_i fr e' rows
    simp only [Option.some.injEq, Prod.mk.injEq] at hc
    have hx := R1.c0 hx rfl
    cases hx with
    | nilsl => exact ⟨_, _, rfl⟩
    | emp => exact ⟨_, _, rfl⟩
    | sl => exact ⟨_, _, by rw [hc.1]⟩
  · rename_i o off len e' full
    rw [Option.map_eq_some_iff] at hc
    obtain ⟨ob, ho, hc⟩ := hc
    simp only [Prod.mk.injEq] at hc
    cases hx with
    | c hx => cases hx
    | ms _ _ _ _ _ b' cc cap off' hmm hcap hlen hin hfull hoff => exact ⟨_, _, by rw [hc.1]⟩
  · have hx := R1.c0 hx rfl
    cases hx
    exact ⟨_, _, rfl⟩
  · cases hc
theorem run_append_zero {P : Program} (w : World) (t ty e : TypeId) (i : TypeInfo) (ht : P.underlying t = some (.slice e)) (hi : P.info? e = some i) (g : Addr) (n cap : Nat) (hn : n ≤ cap) (b : Option Addr) (c : Nat) :
    (Builtin.append_ #[t, t] ty #[.slice (some g) n cap, .slice b 0 c]).run P w = .ok (.slice (some g) n cap) w := by
  cases b with
  | none => simp [Builtin.append_, run_underlying ht, sizeOf, typeInfo, hi, Builtin.lenOf, Builtin.firstCells, loadCells, loadCellsFrom, hn, storeCells]
  | some a => simp [Builtin.append_, run_underlying ht, sizeOf, typeInfo, hi, Builtin.lenOf, Builtin.firstCells, loadCells, loadCellsFrom, hn, storeCells]
def sAppend (P : Program) (σ : SS) (o : Oper) (ob : SObj) (bo : Option Nat) (x : S1) : Prop :=
  match o.op with
  | .call c => c.callee = .builtin .append ∧ ∃ s y t τ te z τe n m e old news, c.args = #[s, y] ∧ c.argTypes = #[t, t] ∧ tyOf P t = some τ ∧ τ.kind = .slice te z ∧ tyOf P te = some τe ∧ (τe.zero.length = z ∧ z ≠ 0 ∧ τe.size = z) ∧
      σ.base z te (σ.ev s) = some (n, bo, old) ∧ σ.cellsOf (σ.ev y) = some (m, e, news) ∧ (e = z ∧ news.length = m * z ∧ (m ≠ 0 ∨ bo.isSome = true) ∧ news.all S1.known = true) ∧ ((n + m) * τe.bytes ≤ 140737488355328 ∧ n + m ≤ 140737488355328) ∧
      ob = ⟨te, old ++ news⟩ ∧ x = .ms σ.n 0 (n + m) z true
  | _ => False
theorem IM.base (h : IM w0 ok0 N σ mu a w) {v : Value} {x : ST} (hx : RT w mu (okOf w0 ok0 σ mu w) v x) {z te n : Nat} {bo : Option Nat} {old : List S1} (hb : σ.base z te x = some (n, bo, old)) :
    ∃ xs : List Value, w.ownsRow 0 te z v n xs ∧ (∀ (j : Nat) (s : S1), old[j]? = some s → ∃ u, xs[j]? = some u ∧ R1 w mu (okOf w0 ok0 σ mu w) u s) ∧
      ((bo = none ∧ v.ownBlock = none) ∨ ∃ o ob b cc, bo = some o ∧ σ.objs o = some ob ∧ mu o = some (b, cc) ∧ v.ownBlock = some b) ∧ old.length = n * z := by
  unfold SS.base at hb
  split at hb
  · simp only [Option.some.injEq, Prod.mk.injEq] at hb
    obtain ⟨rfl, rfl, rfl⟩ := hb
    have hx := R1.c0 hx rfl
    cases hx
    exact ⟨[], ⟨by simp, Or.inl ⟨rfl, rfl⟩⟩, fun j s hj => by simp at hj, Or.inl ⟨rfl, rfl⟩, by simp⟩
  · rename_i o off len e full
    split at hb
    · rename_i ob ho
      have hb : (full = true ∧ e = z ∧ len * z ≤ ob.cells.length ∧ ob.ty = te) ∧ n = len ∧ bo = some o ∧ old = ob.cells.take (len * z) := by
        split at hb
        · rename_i hcond
          simp only [Option.some.injEq, Prod.mk.injEq] at hb
          obtain ⟨rfl, rfl, rfl⟩ := hb
          exact ⟨⟨hcond.1, hcond.2.1, by omega, hcond.2.2.2⟩, rfl, rfl, by rw [List.take_of_length_le (by omega)]⟩
        · split at hb
          · rename_i hcond
            simp only [Option.some.injEq, Prod.mk.injEq] at hb
            obtain ⟨rfl, rfl, rfl⟩ := hb
            exact ⟨hcond, rfl, rfl, rfl⟩
          · cases hb
      obtain ⟨hcond, rfl, rfl, rfl⟩ := hb
      · obtain ⟨hfull, rfl, hlen, rfl⟩ := hcond
        obtain ⟨b, cur, h1, h2, h3, h4, h5⟩ := h.m.objs o ob ho
        cases hx with
        | c hx => cases hx
        | ms _ _ _ _ _ b' cc cap off' hmm hcap hle hin hf hoff =>
          rw [h1] at hmm
          obtain ⟨rfl, rfl⟩ := Prod.mk.inj (Option.some.inj hmm)
          obtain ⟨f1, f2, f3⟩ := hf hfull
          have ho' : off' = 0 := by rw [hoff (Or.inr hfull), f1]
          subst ho'
          refine ⟨cur.toList.take (n * e), ⟨by simp; omega, Or.inr ⟨b, cap, cur, rfl, Nat.zero_le _, h3, hcap, f3, f2.symm, rfl⟩⟩, fun j s hj => ?_, Or.inr ⟨o, ob, b, cur.size, rfl, ho, h1, rfl⟩, by rw [List.length_take]; omega⟩
          have hjl := (List.getElem?_eq_some_iff.1 hj).1
          rw [List.length_take] at hjl
          rw [List.getElem?_take, if_pos (by omega)] at hj
          obtain ⟨u, hu, hr⟩ := h5 j s hj
          exact ⟨u, by rw [List.getElem?_take, if_pos (by omega)]; simpa using hu, hr⟩
    · cases hb
  · cases hb
theorem append_wp {o : Oper} {ob : SObj} {bo : Option Nat} {x : S1} {next : Act → World → Prop} {Q : Exit → Act → World → Prop} (h : Inv w0 ok0 N σ a w) (hp : sAppend P σ o ob bo x)
    (hd : ∀ i, o.dst = some i → i < N) (hK : ∀ a' w', Inv w0 ok0 N (((σ.kill bo).new ob).put o.dst (.v (.one x))) a' w' → next a' w') : o.wp P a w next Q := by
  obtain ⟨mu, h⟩ := h.im
  unfold sAppend at hp
  split at hp
  · rename_i c ho
    obtain ⟨hc, s, y, t, τ, te, z, τe, n, m, e, old, news, hargs, htys, ht, hk, hte, ⟨hzl, hz0, hze⟩, hbase, hcells, ⟨rfl, hnl, hm0, hkn⟩, ⟨hb1, hb2⟩, rfl, rfl⟩ := hp
    obtain ⟨ti, d, g1, g2, g3, g4, g5, g6⟩ := tyOf_some ht
    obtain ⟨tj, dj, j1, j2, j3, j4, j5, j6⟩ := tyOf_some hte
    rw [hk] at g5
    obtain ⟨rfl, hzz⟩ := slice_of g5
    cases hzv : tj.zero with
    | none => rw [hzv] at j6; simp at j6; rw [j6] at hzl; simp at hzl; omega
    | some zv =>
      rw [hzv] at j6
      simp only [Option.map_some, Option.getD_some] at j6
      have hzs : zv.cells.size = e := by rw [← hzl, ← j6]; simp
      obtain ⟨xs, hown, hxs, hblk, hol⟩ := h.base (h.ev s) hbase
      have key : ∃ (v' : Value) (w' : World) (vs : List Value), (execOp a.eval o).run P w = .ok (.value v') w' ∧ vs.length = m * e ∧ (∀ (j : Nat) (s : S1), news[j]? = some s → ∃ u, vs[j]? = some u ∧ R1 w mu (okOf w0 ok0 σ mu w) u s) ∧ w'.ownsRow 0 te e v' (n + m) (xs ++ vs) ∧ w.grownBy w' (a.eval s).ownBlock ∧ v' ≠ .slice none 0 0 ∧ (v'.ownBlock = (a.eval s).ownBlock ∨ v'.ownBlock = some w.heap.size) := by
        by_cases hm1 : m = 0
        · subst hm1
          have hn0 : news = [] := List.eq_nil_of_length_eq_zero (by simpa using hnl)
          subst hn0
          obtain ⟨yb, yc, hyv⟩ := h.cells0 (h.ev y) hcells
          rcases hblk with ⟨hbo, _⟩ | ⟨o1, ob1, b1, cc1, k1, k2, k3, k4⟩
          · rw [hbo] at hm0; simp at hm0
          · rcases hown.2 with ⟨hv0, _⟩ | ⟨g, cap, cur, hv, hgb, hgh, hgn, hgm, hgs, hgt⟩
            · rw [hv0] at k4; cases k4
            · have hrun := run_append_zero (P := P) w t o.type te tj g2 j1 ⟨g, 0, none⟩ n cap hgn yb yc
              refine ⟨a.eval s, w, [], ?_, by simp, fun j s hj => by simp at hj, by rw [List.append_nil]; exact hown, ⟨rfl, rfl, rfl, Nat.le_refl _, fun _ _ _ => rfl⟩, by rw [hv]; simp, .inl rfl⟩
              simp only [execOp, ho, resolve, hc, Sem.run_bind, Sem.run_pure, Result.andThen_ok, invoke, builtin, htys, hargs, List.map_toArray, List.map_cons, List.map_nil, hyv, hv, hrun]
        · obtain ⟨b, off, cap, vs, hyv, hvl, hvc, hvr⟩ := h.cells (h.ev y) hcells hnl hm1
          have h1c : ∀ u ∈ vs, u.oneCell' = true := fun u hu => by
            obtain ⟨j, hj⟩ := List.getElem?_of_mem hu
            have hjl := (List.getElem?_eq_some_iff.1 hj).1
            obtain ⟨u', hu', hr⟩ := hvr j _ (List.getElem?_eq_getElem (l := news) (by omega))
            rw [hj] at hu'
            cases hu'
            exact R1.one hr (List.all_eq_true.1 hkn _ (List.getElem_mem _))
          obtain ⟨v', w', hrun, hown', hg, hnil, hat⟩ := run_append_own_at (P := P) (w := w) 0 t o.type te tj zv e τe.bytes g2 j1 hzv (by rw [j3, hze]) j4 hzs (by omega) (a.eval s) n xs hown ⟨b, off, none⟩ m cap vs hvl hvc h1c (by simp only [maxLen]; omega) hb1 (Nat.zero_le _)
          refine ⟨v', w', vs, ?_, hvl, hvr, hown', hg, fun h => hm1 (hnil.1 h).2, hat⟩
          simp only [execOp, ho, resolve, hc, Sem.run_bind, Sem.run_pure, Result.andThen_ok, invoke, builtin, htys, hargs, List.map_toArray, List.map_cons, List.map_nil, hyv, hrun]
      obtain ⟨v', w', vs, hop, hvl, hvr, hown', hg, hnil, hat⟩ := key
      unfold Oper.wp
      rw [hop, Oper.upon_value]
      obtain ⟨hxl, hown2⟩ := hown'
      rcases hown2 with ⟨h0, _⟩ | ⟨g, cap', cur', rfl, hgb, hgh, hgn, hgm, hgs, hgt⟩
      · exact absurd h0 hnil
      have hgcase : (∃ o ob b cc, bo = some o ∧ σ.objs o = some ob ∧ mu o = some (b, cc) ∧ g = b) ∨ g = w.heap.size := by
        rcases hat with hat | hat
        · rcases hblk with ⟨_, h2⟩ | ⟨o1, ob1, b1, cc1, k1, k2, k3, k4⟩
          · rw [h2] at hat; cases hat
          · rw [k4] at hat
            exact Or.inl ⟨o1, ob1, b1, cc1, k1, k2, k3, Option.some.inj hat⟩
        · exact Or.inr (Option.some.inj hat)
      have hgb' : w0.heap.size ≤ g ∨ w0.X g := by
        rcases hgcase with ⟨o1, ob1, b1, cc1, _, k2, k3, rfl⟩ | k
        · obtain ⟨b2, cur2, l1, l2, _⟩ := h.m.objs o1 ob1 k2
          rw [k3] at l1
          obtain ⟨rfl, _⟩ := Prod.mk.inj (Option.some.inj l1)
          exact l2
        · exact Or.inl (by rw [k]; exact h.below.size)
      have hrowne : ∀ fr b', okOf w0 ok0 σ mu w fr b' → w'.heap[b']? = w.heap[b']? := by
        intro fr b' ⟨_, q2, q3⟩
        refine hg.block b' q2 ?_
        rcases hblk with ⟨_, h2⟩ | ⟨o1, ob1, b1, cc1, k1, k2, k3, k4⟩
        · rw [h2]; simp
        · rw [k4]; intro e; cases e; exact q3 o1 ob1 cc1 k2 k3
      have hokg : ∀ fr b', okOf w0 ok0 σ mu w fr b' → b' ≠ g := by
        intro fr b' ⟨_, q2, q3⟩ e
        rcases hgcase with ⟨o1, ob1, b1, cc1, _, k2, k3, k4⟩ | k
        · exact q3 o1 ob1 cc1 k2 (by rw [k3, e, k4])
        · omega
      have hn := h.m.fresh σ.n (Nat.le_refl _)
      have hmu : ∀ i p, mu i = some p → (if i = σ.n then some (g, cur'.size) else mu i) = some p := fun i p hp => by
        rw [if_neg (by rintro rfl; rw [hn.2] at hp; cases hp)]; exact hp
      have hkn2 : (σ.kill bo).n = σ.n := by cases bo <;> rfl
      have hlive : ∀ i obi, (σ.kill bo).objs i = some obi → σ.objs i = some obi ∧ bo ≠ some i := by
        intro i obi hi
        cases bo with
        | none => exact ⟨hi, by simp⟩
        | some o1 =>
          simp only [SS.kill] at hi
          split at hi
          · cases hi
          · rename_i hne; exact ⟨hi, by simpa using fun e => hne e.symm⟩
      have hsize' : g < w'.heap.size := (Array.getElem?_eq_some_iff.1 hgh).1
      have hmo : ∀ fr b', okOf w0 ok0 σ mu w fr b' → okOf w0 ok0 ((σ.kill bo).new ⟨te, old ++ news⟩) (fun i => if i = σ.n then some (g, cur'.size) else mu i) w' fr b' := by
        intro fr b' hok
        have hok' := hok
        obtain ⟨q1, q2, q3⟩ := hok
        refine ⟨q1, Nat.lt_of_lt_of_le q2 hg.size, fun i obi cc hi hmi => ?_⟩
        by_cases e : i = σ.n
        · simp only [e, if_true] at hmi
          exact hokg fr b' hok' (Prod.mk.inj (Option.some.inj hmi)).1.symm
        · simp only [if_neg e] at hmi
          have hi' : (σ.kill bo).objs i = some obi := by simpa [SS.new, hkn2, e] using hi
          exact q3 i obi cc (hlive i obi hi').1 hmi
      have hYx : ∀ k, (a.eval s).ownBlock = some k → w0.heap.size ≤ k ∨ w0.X k := fun k hk => by
        rcases hblk with ⟨_, h2⟩ | ⟨o1, ob1, b1, cc1, k1, k2, k3, k4⟩
        · rw [h2] at hk; cases hk
        · rw [k4] at hk; cases hk
          obtain ⟨b2, cur2, l1, l2, _⟩ := h.m.objs o1 ob1 k2
          rw [k3] at l1
          obtain ⟨rfl, _⟩ := Prod.mk.inj (Option.some.inj l1)
          exact l2
      have hstep : HS (fun b => (a.eval s).ownBlock = some b) w w' := HS.grown hg (fun k hk => by
        rcases hblk with ⟨_, h2⟩ | ⟨o1, ob1, b1, cc1, k1, k2, k3, k4⟩
        · rw [h2] at hk; cases hk
        · rw [k4] at hk; cases hk
          obtain ⟨b2, cur2, l1, _, l3, _⟩ := h.m.objs o1 ob1 k2
          rw [k3] at l1
          obtain ⟨rfl, _⟩ := Prod.mk.inj (Option.some.inj l1)
          exact ⟨_, l3, rfl⟩)
      refine hK _ _ ⟨h.below.grown hg (fun k hk => by
        rcases hblk with ⟨_, h2⟩ | ⟨o1, ob1, b1, cc1, k1, k2, k3, k4⟩
        · rw [h2] at hk; cases hk
        · rw [k4] at hk; cases hk
          obtain ⟨b2, cur2, l1, l2, _⟩ := h.m.objs o1 ob1 k2
          rw [k3] at l1
          obtain ⟨rfl, _⟩ := Prod.mk.inj (Option.some.inj l1)
          exact l2), by rw [size_put, h.size], by rw [defers_put]; exact h.defers.step hstep, fun i => if i = σ.n then some (g, cur'.size) else mu i, InvM.put (N := N) ⟨?_, ?_, ?_, ?_, fun o p h' => hmu o p (h.m.lent o p h'), h.m.ext.step (σ' := (σ.kill bo).new ⟨te, old ++ news⟩) (by cases bo <;> rfl) hstep hmo hrowne hmu h.below.size hYx⟩ h.size o.dst hd _ _ ?_⟩
      · intro t'
        have : ((σ.kill bo).new ⟨te, old ++ news⟩).t t' = σ.t t' := by cases bo <;> rfl
        rw [this]
        exact RT.mono hmo hrowne hmu (h.m.tmps t')
      · intro i obi hi
        by_cases e : i = σ.n
        · subst e
          have : obi = ⟨te, old ++ news⟩ := by simpa [SS.new, hkn2] using hi.symm
          subst this
          have hsz2 : (old ++ news).length = (n + m) * e := by rw [List.length_append, hol, hnl, Nat.add_mul]
          have hcl : (n + m) * e ≤ cur'.size := by rw [hgs]; exact Nat.mul_le_mul_right _ hgn
          refine ⟨g, cur', by simp, hgb', hgh, by rw [hsz2]; exact hcl, fun j s' hj => ?_⟩
          have hjl := (List.getElem?_eq_some_iff.1 hj).1
          rw [hsz2] at hjl
          have hget : ∀ u, (xs ++ vs)[j]? = some u → cur'[j]? = some u := fun u hu => by
            rw [← hgt, List.getElem?_take, if_pos hjl] at hu
            simpa using hu
          have hxsl : xs.length = old.length := by rw [hol]; exact hown.1
          by_cases hj2 : j < old.length
          · simp only at hj
            rw [List.getElem?_append_left hj2] at hj
            obtain ⟨u, hu, hr⟩ := hxs j s' hj
            exact ⟨u, hget u (by rw [List.getElem?_append_left (by omega)]; exact hu), R1.mono hmo hrowne hmu hr⟩
          · simp only at hj
            rw [List.getElem?_append_right (by omega)] at hj
            obtain ⟨u, hu, hr⟩ := hvr _ s' hj
            exact ⟨u, hget u (by rw [List.getElem?_append_right (by omega), hxsl]; exact hu), R1.mono hmo hrowne hmu hr⟩
        · have hi' : (σ.kill bo).objs i = some obi := by simpa [SS.new, hkn2, e] using hi
          obtain ⟨hi2, hne⟩ := hlive i obi hi'
          obtain ⟨b2, cur2, l1, l2, l3, l4, l5⟩ := h.m.objs i obi hi2
          refine ⟨b2, cur2, by rw [if_neg e]; exact l1, l2, ?_, l4, fun j s' hj => ?_⟩
          · rw [← l3]
            refine hg.block b2 (Array.getElem?_eq_some_iff.1 l3).1 ?_
            rcases hblk with ⟨_, h2⟩ | ⟨o1, ob1, b1, cc1, k1, k2, k3, k4⟩
            · rw [h2]; simp
            · rw [k4]; intro e2; cases e2
              exact hne (by rw [k1, h.m.inj i o1 obi ob1 _ cur2.size cc1 hi2 k2 l1 k3])
          · obtain ⟨u, hu, hr⟩ := l5 j s' hj
            exact ⟨u, hu, R1.mono hmo hrowne hmu hr⟩
      · intro i1 i2 ob1 ob2 b1 c1 c2 q1 q2 q3 q4
        have aux : ∀ i obi b c, i ≠ σ.n → ((σ.kill bo).new ⟨te, old ++ news⟩).objs i = some obi → (if i = σ.n then some (g, cur'.size) else mu i) = some (b, c) → b ≠ g ∧ σ.objs i = some obi ∧ mu i = some (b, c) := by
          intro i obi b c e q q'
          rw [if_neg e] at q'
          obtain ⟨hi2, hne⟩ := hlive i obi (by simpa [SS.new, hkn2, e] using q)
          refine ⟨?_, hi2, q'⟩
          rintro rfl
          rcases hgcase with ⟨o1, obb, bb, cc1, k1, k2, k3, k4⟩ | k
          · subst k4
            exact hne (by rw [k1, h.m.inj i o1 obi obb b c cc1 hi2 k2 q' k3])
          · have := h.m.lt hi2 q'
            omega
        by_cases e1 : i1 = σ.n <;> by_cases e2 : i2 = σ.n
        · rw [e1, e2]
        · simp only [e1, if_true] at q3
          obtain ⟨rfl, _⟩ := Prod.mk.inj (Option.some.inj q3)
          exact absurd rfl (aux i2 ob2 _ c2 e2 q2 q4).1
        · simp only [e2, if_true] at q4
          obtain ⟨rfl, _⟩ := Prod.mk.inj (Option.some.inj q4)
          exact absurd rfl (aux i1 ob1 _ c1 e1 q1 q3).1
        · obtain ⟨_, a2, a3⟩ := aux i1 ob1 b1 c1 e1 q1 q3
          obtain ⟨_, a5, a6⟩ := aux i2 ob2 b1 c2 e2 q2 q4
          exact h.m.inj i1 i2 ob1 ob2 b1 c1 c2 a2 a5 a3 a6
      · intro i hi
        have hi' : σ.n + 1 ≤ i := by simpa [SS.new, hkn2] using hi
        have := h.m.fresh i (by omega)
        refine ⟨?_, by rw [if_neg (by omega)]; exact this.2⟩
        simp only [SS.new, hkn2]
        rw [if_neg (by omega)]
        cases bo with
        | none => exact this.1
        | some o1 =>
          simp only [SS.kill]
          split
          · rfl
          · exact this.1
      · refine R1.ms σ.n 0 (n + m) e true g cur'.size cap' 0 (by simp) hgn (by simp only [maxLen]; omega) ?_ (fun _ => ⟨rfl, hgs.symm, hgm⟩) (fun _ => rfl)
        rw [Nat.zero_add, hgs]; exact Nat.mul_le_mul_right _ hgn
  · cases hp
end
end Go.Proofs.YtaljbebkooppiaaGreat.Sh

namespace Go.Proofs.YtaljbebkooppiaaGreat.Sh
open Go Go.RowKit
section
variable {w0 : W0} {w w' : World} {ok0 : Bool → Nat → Prop} {N : Nat} {σ σ' : SS} {a : Act} {mu mu' : Nat → Option (Nat × Nat)} {ok : Bool → Nat → Prop} {P : Program}
def sAppNil (P : Program) (σ : SS) (o : Oper) (r : ST) : Prop :=
  match o.op with
  | .call c => c.callee = .builtin .append ∧ ∃ y t τ te z τe fr rows, c.args = #[.const (.slice none 0 0), y] ∧ c.argTypes = #[t, t] ∧ tyOf P t = some τ ∧ τ.kind = .slice te z ∧ tyOf P te = some τe ∧ (τe.zero.length = z ∧ z ≠ 0 ∧ τe.size = z) ∧
    σ.ev y = .v (.one (.sl fr z rows)) ∧ (∀ row ∈ rows, row.length = z ∧ row.all S1.known = true ∧ row.all S1.closed = true) ∧ (rows.length * τe.bytes ≤ 140737488355328 ∧ rows.length ≤ 140737488355328) ∧ r = .v (.one (.sl true z rows))
  | _ => False
theorem run_append_nil0 {P : Program} (w : World) (t ty e : TypeId) (i : TypeInfo) (ht : P.underlying t = some (.slice e)) (hi : P.info? e = some i) (b : Option Addr) (c : Nat) :
    (Builtin.append_ #[t, t] ty #[.slice none 0 0, .slice b 0 c]).run P w = .ok (.slice none 0 0) w := by
  cases b with
  | none => simp [Builtin.append_, run_underlying ht, sizeOf, typeInfo, hi, Builtin.lenOf, Builtin.firstCells, loadCells, loadCellsFrom]
  | some a => simp [Builtin.append_, run_underlying ht, sizeOf, typeInfo, hi, Builtin.lenOf, Builtin.firstCells, loadCells, loadCellsFrom]
theorem appNil_wp {o : Oper} {r : ST} {next : Act → World → Prop} {Q : Exit → Act → World → Prop} (h : Inv w0 ok0 N σ a w) (hp : sAppNil P σ o r)
    (hd : ∀ i, o.dst = some i → i < N) (hK : ∀ a' w', Inv w0 ok0 N (σ.put o.dst r) a' w' → next a' w') : o.wp P a w next Q := by
  obtain ⟨mu, h⟩ := h.im
  unfold sAppNil at hp
  split at hp
  · rename_i c ho
    obtain ⟨hc, y, t, τ, te, z, τe, fr, rows, hargs, htys, ht, hk, hte, ⟨hzl, hz0, hze⟩, hy, hrows, ⟨hb1, hb2⟩, rfl⟩ := hp
    obtain ⟨ti, d, g1, g2, g3, g4, g5, g6⟩ := tyOf_some ht
    obtain ⟨tj, dj, j1, j2, j3, j4, j5, j6⟩ := tyOf_some hte
    rw [hk] at g5
    obtain ⟨rfl, hzz⟩ := slice_of g5
    have hcells : σ.cellsOf (σ.ev y) = some (rows.length, z, rows.flatten) := by rw [hy]; rfl
    have hnl : rows.flatten.length = rows.length * z := by
      have e : rows.map List.length = List.replicate rows.length z := List.eq_replicate_iff.2 ⟨by simp, fun b hb => by obtain ⟨p, hp, rfl⟩ := List.mem_map.1 hb; exact (hrows p hp).1⟩
      rw [List.length_flatten, e, List.sum_replicate_nat]
    have hop : ∀ v' w', (Builtin.append_ #[t, t] o.type #[.slice none 0 0, a.eval y]).run P w = .ok v' w' → (execOp a.eval o).run P w = .ok (.value v') w' := fun v' w' hrun => by
      simp only [execOp, ho, resolve, hc, Sem.run_bind, Sem.run_pure, Result.andThen_ok, invoke, builtin, htys, hargs, List.map_toArray, List.map_cons, List.map_nil]
      rw [show a.eval (.const (.slice none 0 0)) = .slice none 0 0 from rfl, hrun]; rfl
    by_cases hm0 : rows.length = 0
    · have hr0 : rows = [] := List.length_eq_zero_iff.1 hm0
      subst hr0
      obtain ⟨yb, yc, hyv⟩ := h.cells0 (h.ev y) hcells
      exact wp_val h (r := .v (.one (.sl true z []))) (v := .slice none 0 0) (hop _ _ (by rw [hyv]; exact run_append_nil0 w t o.type te tj g2 j1 yb yc)) (R1.c (.nilsl _ _)) hd hK
    · cases hzv : tj.zero with
      | none => rw [hzv] at j6; simp at j6; rw [j6] at hzl; simp at hzl; omega
      | some zv =>
        obtain ⟨b, off, cap, vs, hyv, hvl, hvc, hvr⟩ := h.cells (h.ev y) hcells hnl hm0
        have hrun := run_append_nil (P := P) w t o.type te tj zv g2 j1 hzv ⟨b, off, none⟩ rows.length cap vs (by rw [hvl, j3, hze]) hvc (by omega) (by omega) (by rw [j4]; omega)
        have hge := grownCap_ge w rows.length 0 te
        have hb : Below w.heap.size w (w.drew.alloc (.cells (vs.toArray ++ Builtin.zeroCells zv.cells (grownCap w rows.length 0 te - rows.length)) te)) :=
          ⟨rfl, rfl, rfl, by simp, fun i hi => heap_alloc_old w.drew _ hi⟩
        have hnew := heap_alloc_new w.drew (.cells (vs.toArray ++ Builtin.zeroCells zv.cells (grownCap w rows.length 0 te - rows.length)) te)
        generalize hw' : w.drew.alloc (.cells (vs.toArray ++ Builtin.zeroCells zv.cells (grownCap w rows.length 0 te - rows.length)) te) = w1 at *
        unfold Oper.wp
        rw [hop _ _ (by rw [hyv]; exact hrun), Oper.upon_value]
        have hsz1 : w.heap.size < w1.heap.size := by rw [← hw']; simp
        have hmo : ∀ fr b, okOf w0 ok0 σ mu w fr b → okOf w0 ok0 σ mu w1 fr b := fun fr b h => ⟨h.1, by have := h.2.1; omega, h.2.2⟩
        refine hK _ _ ⟨h.below.called hb, by rw [size_put, h.size], by rw [defers_put]; exact h.defers.step (.of_below hb), mu, (h.m.called h.below.size hb).put h.size o.dst hd _ _ ?_⟩
        have hzp : ∀ (i j : Nat) (row : List S1) (s : S1), rows[i]? = some row → row[j]? = some s → rows.flatten[i * z + j]? = some s := fun i j row s hi hj => by
          rw [flatten_rows rows (fun r hr => (hrows r hr).1)]
          have hjz : j < z := by rw [← (hrows row (List.mem_of_getElem? hi)).1]; exact (List.getElem?_eq_some_iff.1 hj).1
          rw [show (i * z + j) / z = i by rw [Nat.mul_comm, Nat.mul_add_div (by omega), Nat.div_eq_of_lt hjz, Nat.add_zero], show (i * z + j) % z = j by rw [Nat.mul_comm, Nat.mul_add_mod, Nat.mod_eq_of_lt hjz], hi]
          exact hj
        refine R1.c (.sl true z rows w.heap.size 0 _ (fun i j => vs.getD (i * z + j) undef) hge (by simp only [maxLen]; omega) (fun _ => ⟨Or.inr (Or.inl h.below.size), hsz1, fun o1 ob1 cc ho1 hmo1 => ?_⟩) (fun i row hi => (hrows row (List.mem_of_getElem? hi)).1) (fun i row hi j s hj => ?_) (fun i row hi j s hj => ?_))
        · obtain ⟨b2, cur2, l1, l2, l3, _⟩ := h.m.objs o1 ob1 ho1
          rw [hmo1] at l1
          obtain ⟨e1, _⟩ := Prod.mk.inj (Option.some.inj l1)
          have := (Array.getElem?_eq_some_iff.1 l3).1
          omega
        · obtain ⟨u, hu, _⟩ := hvr _ s (hzp i j row s hi hj)
          have hul := (List.getElem?_eq_some_iff.1 hu).1
          rw [cell_of_row w1 w.heap.size _ _ te (0, 0) hnew]
          rw [Array.getElem?_append_left (by simpa using (show 0 + (i * z + j) < vs.length by omega))]
          simp [hu]
        · obtain ⟨u, hu, hr⟩ := hvr _ s (hzp i j row s hi hj)
          have hcl : s.closed = true := List.all_eq_true.1 (hrows row (List.mem_of_getElem? hi)).2.2 s (List.mem_of_getElem? hj)
          have hr0 := R1.c0 hr hcl
          have e : vs.getD (i * z + j) undef = u := by rw [List.getD_eq_getElem?_getD, hu]; rfl
          rw [e]
          exact R0.mono hmo (fun fr b hb2 => hb.block b hb2.2.1) hr0
  · cases hp
end
end Go.Proofs.YtaljbebkooppiaaGreat.Sh

namespace Go.Proofs.YtaljbebkooppiaaGreat.Sh
open Go Go.RowKit
section
variable {w0 : W0} {w w' : World} {ok0 : Bool → Nat → Prop} {N : Nat} {σ σ' : SS} {a : Act} {mu mu' : Nat → Option (Nat × Nat)} {ok : Bool → Nat → Prop} {P : Program}
def sBuildSl (P : Program) (σ : SS) (o : Oper) (r : ST) : Prop :=
  match o.op with
  | .buildSlice t len ps => ∃ τ te z τe cs, tyOf P t = some τ ∧ τ.kind = .slice te z ∧ tyOf P te = some τe ∧ τe.zero.isEmpty = false ∧ (z ≠ 0 ∧ len * z ≤ 2 ^ 24) ∧
      fillS (slots z len) σ (List.replicate (len * z) .any) ps.toList = some cs ∧ cs.all S1.closed = true ∧ r = .v (.one (.sl true z (rowsOf cs 0 z len)))
  | _ => False
theorem buildSl_wp {o : Oper} {r : ST} {next : Act → World → Prop} {Q : Exit → Act → World → Prop} (h : Inv w0 ok0 N σ a w) (hp : sBuildSl P σ o r)
    (hd : ∀ i, o.dst = some i → i < N) (hK : ∀ a' w', Inv w0 ok0 N (σ.put o.dst r) a' w' → next a' w') : o.wp P a w next Q := by
  obtain ⟨mu, h⟩ := h.im
  unfold sBuildSl at hp
  split at hp
  · rename_i t len parts ho
    obtain ⟨τ, te, z, τe, cs, ht, hk, hte, hne, ⟨hz0, hlen⟩, hf, hcl, rfl⟩ := hp
    obtain ⟨ti, d, g1, g2, g3, g4, g5, g6⟩ := tyOf_some ht
    obtain ⟨tj, dj, j1, j2, j3, j4, j5, j6⟩ := tyOf_some hte
    rw [hk] at g5
    obtain ⟨rfl, hzz⟩ := slice_of g5
    have hsz := run_cellsOf (w := w) hzz hz0
    cases hzv : tj.zero with
    | none => rw [hzv] at j6; simp at j6; rw [j6] at hne; simp at hne
    | some zv =>
      have hrc0 : RC w mu (okOf w0 ok0 σ mu w) ((Array.range (len * z)).map fun i => (if len * z = 0 then #[] else zv.cells)[i % (if len * z = 0 then #[] else zv.cells).size]!) (List.replicate (len * z) .any) := by
        refine ⟨by simp, fun j s hj => ?_⟩
        have hjl := (List.getElem?_eq_some_iff.1 hj).1
        simp at hjl
        obtain rfl := getD_replicate_any _ _ _ hj
        exact ⟨_, by simp [hjl]; rfl, .c (.any _)⟩
      obtain ⟨arr', h1, h2⟩ := run_fill_sh h (place := fun i => some (i * z, z)) (fs := slots z len) (fun i p hp => by rw [slots_get z len i p hp]) parts.toList hrc0 hf
      have hcsl : cs.length = len * z := by rw [fillS_length _ _ _ _ _ hf, List.length_replicate]
      have hrun : (execOp a.eval o).run P w = .ok (.value (.slice (some ⟨w.heap.size, 0, none⟩) len len)) (w.alloc (.cells arr' te)) := by
        refine run_vals' (s := Instr.buildSlice t len (parts.map fun (i, x) => (i, a.eval x))) (by simp only [execOp, ho]) ?_
        unfold Instr.buildSlice
        simp only [Sem.run_bind, underlying, run_program, Result.andThen_ok, g2, Sem.run_pure, hsz]
        rw [if_neg (by omega)]
        by_cases hc0 : len * z = 0
        · simp only [if_pos hc0] at h1 ⊢
          simp only [Sem.run_bind, Sem.run_pure, Result.andThen_ok, Array.toList_map]
          rw [h1]
          simp only [newRow, Sem.run_bind, run_newObj, Result.andThen_ok, Sem.run_pure]
          rfl
        · simp only [if_neg hc0] at h1 ⊢
          simp only [Sem.run_bind, zeroValue, typeInfo, run_program, Result.andThen_ok, j1, hzv, Sem.run_pure, Array.toList_map]
          rw [h1]
          simp only [newRow, Sem.run_bind, run_newObj, Result.andThen_ok, Sem.run_pure]
          rfl
      have hb : Below w.heap.size w (w.alloc (.cells arr' te)) := ⟨rfl, rfl, rfl, by simp, fun i hi => heap_alloc_old w _ hi⟩
      have hnew := heap_alloc_new w (.cells arr' te)
      generalize hw' : w.alloc (.cells arr' te) = w1 at *
      unfold Oper.wp
      rw [hrun, Oper.upon_value]
      have hsz1 : w.heap.size < w1.heap.size := by rw [← hw']; simp
      have hmo : ∀ fr b, okOf w0 ok0 σ mu w fr b → okOf w0 ok0 σ mu w1 fr b := fun fr b h => ⟨h.1, by have := h.2.1; omega, h.2.2⟩
      refine hK _ _ ⟨h.below.called hb, by rw [size_put, h.size], by rw [defers_put]; exact h.defers.step (.of_below hb), mu, (h.m.called h.below.size hb).put h.size o.dst hd _ _ ?_⟩
      have hrl : (rowsOf cs 0 z len).length = len := by simp [rowsOf]
      have hlm : len ≤ maxLen := by simp only [maxLen]; have := Nat.le_mul_of_pos_right len (show 0 < z by omega); omega
      have hrow : ∀ (i : Nat) (row : List S1), (rowsOf cs 0 z len)[i]? = some row → i < len ∧ row = (cs.drop (i * z)).take z := fun i row hi => by
        have hil := (List.getElem?_eq_some_iff.1 hi).1
        rw [hrl] at hil
        refine ⟨hil, ?_⟩
        simp [rowsOf, hil] at hi
        exact hi.symm
      have hin : ∀ i, i < len → i * z + z ≤ cs.length := fun i hi => by
        have : (i + 1) * z ≤ len * z := Nat.mul_le_mul_right z hi
        rw [Nat.add_mul, Nat.one_mul] at this
        omega
      have hcell : ∀ (i : Nat) (row : List S1), (rowsOf cs 0 z len)[i]? = some row → ∀ (j : Nat) (s : S1), row[j]? = some s → cs[i * z + j]? = some s := fun i row hi j s hj => by
        obtain ⟨hil, rfl⟩ := hrow i row hi
        have hjz : j < z := by have := (List.getElem?_eq_some_iff.1 hj).1; rw [List.length_take] at this; omega
        rw [List.getElem?_take, if_pos hjz, List.getElem?_drop] at hj
        exact hj
      have hval : R0 w1 (okOf w0 ok0 σ mu w1) (.slice (some ⟨w.heap.size, 0, none⟩) (rowsOf cs 0 z len).length len) (.sl true z (rowsOf cs 0 z len)) := by
        refine .sl true z (rowsOf cs 0 z len) w.heap.size 0 len (fun i j => arr'.getD (i * z + j) undef) (by omega) (by omega) (fun _ => ⟨Or.inr (Or.inl h.below.size), hsz1, fun o1 ob1 cc ho1 hmo1 => ?_⟩) (fun i row hi => ?_) (fun i row hi j s hj => ?_) (fun i row hi j s hj => ?_)
        · obtain ⟨b2, cur2, l1, l2, l3, _⟩ := h.m.objs o1 ob1 ho1
          rw [hmo1] at l1
          obtain ⟨e1, _⟩ := Prod.mk.inj (Option.some.inj l1)
          have := (Array.getElem?_eq_some_iff.1 l3).1
          omega
        · obtain ⟨hil, rfl⟩ := hrow i row hi
          have := hin i hil
          rw [List.length_take, List.length_drop]; omega
        · obtain ⟨u, hu, _⟩ := h2.2 _ s (hcell i row hi j s hj)
          rw [cell_of_row w1 w.heap.size _ _ te (0, 0) hnew, Nat.zero_add]
          rw [hu]
          simp [hu]
        · obtain ⟨u, hu, hr⟩ := h2.2 _ s (hcell i row hi j s hj)
          have hcl1 : s.closed = true := List.all_eq_true.1 hcl s (List.mem_of_getElem? (hcell i row hi j s hj))
          have hr0 := R1.c0 hr hcl1
          have e : arr'.getD (i * z + j) undef = u := by simp [hu]
          rw [e]
          exact R0.mono hmo (fun fr b hb2 => hb.block b hb2.2.1) hr0
      rw [hrl] at hval
      exact R1.c hval
  · cases hp
end
end Go.Proofs.YtaljbebkooppiaaGreat.Sh

namespace Go.Proofs.YtaljbebkooppiaaGreat.Sh
open Go Go.RowKit
section
variable {w0 : W0} {w w' : World} {ok0 : Bool → Nat → Prop} {N : Nat} {σ σ' : SS} {a : Act} {mu mu' : Nat → Option (Nat × Nat)} {ok : Bool → Nat → Prop} {P : Program}
def sCopy (P : Program) (σ : SS) (o : Oper) (σ' : SS) (n : Nat) : Prop :=
  match o.op with
  | .call c => c.callee = .builtin .copy ∧ ∃ d y t t2 τ te z i off len full ob m e news, c.args = #[d, y] ∧ c.argTypes = #[t, t2] ∧ tyOf P t = some τ ∧ τ.kind = .slice te z ∧ z ≠ 0 ∧
      σ.ev d = .v (.one (.ms i off len z full)) ∧ σ.objs i = some ob ∧ σ.cellsOf (σ.ev y) = some (m, e, news) ∧ (n = min m len) ∧ (n ≠ 0 → e = z ∧ news.length = m * z ∧ off + n * z ≤ ob.cells.length ∧ news.all S1.known = true) ∧
      σ' = σ.setObj i { ob with cells := putL ob.cells off (news.take (n * z)) }
  | _ => False
theorem copy_wp {o : Oper} {n : Nat} {next : Act → World → Prop} {Q : Exit → Act → World → Prop} (h : Inv w0 ok0 N σ a w) (hp : sCopy P σ o σ' n)
    (hd : ∀ i, o.dst = some i → i < N) (hK : ∀ a' w', Inv w0 ok0 N (σ'.put o.dst (I .i64 n)) a' w' → next a' w') : o.wp P a w next Q := by
  obtain ⟨mu, h⟩ := h.im
  unfold sCopy at hp
  split at hp
  · rename_i c ho
    obtain ⟨hc, d, y, t, t2, τ, te, z, i, off, len, full, ob, m, e, news, hargs, htys, ht, hk, hz0, hdst, hob, hcells, rfl, hcond, rfl⟩ := hp
    obtain ⟨ti, dd, g1, g2, g3, g4, g5, g6⟩ := tyOf_some ht
    rw [hk] at g5
    obtain ⟨rfl, hzz⟩ := slice_of g5
    have hsz := run_cellsOf (w := w) hzz hz0
    have hxv := h.ev d
    rw [hdst] at hxv
    generalize hge : a.eval d = X at hxv
    cases hxv with
    | c hxv => cases hxv
    | ms _ _ _ _ _ b cc cap off' hm hcap hle hin hf hoff =>
      have hlen : ∃ (A : Option Addr) (cp : Nat), a.eval y = .slice A m cp := by
        have hy := h.ev y
        generalize a.eval y = Y at hy
        unfold SS.cellsOf at hcells
        split at hcells
        · simp only [Option.some.injEq, Prod.mk.injEq] at hcells
          rename_i hh; rw [hh] at hy
          have hy := R1.c0 hy rfl
          cases hy with
          | nilsl => exact ⟨_, _, by rw [← hcells.1]; rfl⟩
          | emp => exact ⟨_, _, by rw [← hcells.1]; rfl⟩
          | sl => exact ⟨_, _, by rw [← hcells.1]⟩
        · rename_i hh; rw [hh] at hy
          rw [Option.map_eq_some_iff] at hcells
          obtain ⟨ob', _, hcells⟩ := hcells
          simp only [Prod.mk.injEq] at hcells
          cases hy with
          | c hy => cases hy
          | ms => exact ⟨_, _, by rw [← hcells.1]⟩
        · simp only [Option.some.injEq, Prod.mk.injEq] at hcells
          rename_i hh; rw [hh] at hy
          have hy := R1.c0 hy rfl
          cases hy
          exact ⟨_, _, by rw [← hcells.1]⟩
        · cases hcells
      have fin : ∀ w2, (execOp a.eval o).run P w = .ok (.value (.int .i64 (min m len : Nat))) w2 → IM w0 ok0 N (σ.setObj i { ob with cells := putL ob.cells off (news.take (min m len * z)) }) mu a w2 → o.wp P a w next Q := by
        intro w2 hrun h2
        unfold Oper.wp
        rw [hrun, Oper.upon_value]
        exact hK _ _ ⟨h2.below, by rw [size_put, h2.size], by rw [defers_put]; exact h2.defers, mu, h2.m.put h2.size o.dst hd _ _ (R1.c (.int _ _))⟩
      obtain ⟨A, cp, hyv⟩ := hlen
      have hop : execOp a.eval o = (do let d ← resolve a.eval c o.type; invoke d.target d.args) := by simp only [execOp, ho]
      by_cases h0 : min m len = 0
      · refine fin w ?_ ?_
        · have hnl : Nat.min m len = 0 := h0
          rw [hop]
          have hfc : (Builtin.firstCells z 0 (.slice A m cp)).run P w = .ok #[] w := by
            cases A <;> simp [Builtin.firstCells, loadCells, loadCellsFrom]
          simp [resolve, hc, invoke, builtin, htys, hargs, hge, hyv, Builtin.copy_, underlying, g2, Builtin.lenOf, hsz, hnl, hfc, storeCells, goInt]
        · rw [h0, Nat.zero_mul]
          simp only [List.take_zero, putL]
          rw [show ({ ob with cells := ob.cells } : SObj) = ob from rfl, SS.setObj_same hob]
          exact h
      · obtain ⟨rfl, hnl, hfit, hkn⟩ := hcond h0
        obtain ⟨b2, off2, cap2, vs, hyv2, hvl, hvc, hvr⟩ := h.cells (h.ev y) hcells hnl (by omega)
        have hmz : min m len * e ≤ m * e := Nat.mul_le_mul_right _ (Nat.min_le_left _ _)
        rw [hoff (Or.inl (by omega))] at hge
        obtain ⟨w2, r1, r2⟩ := run_storeCells_sh (P := P) hm (news.take (min m len * e)) (vs.take (min m len * e)) σ w ob off 0 h hob (by rw [List.length_take, List.length_take, hvl, hnl]) (by rw [List.length_take, hnl]; omega) (fun j s hj => by
          rw [List.getElem?_take] at hj
          split at hj
          · rename_i hjl
            obtain ⟨u, hu, hr⟩ := hvr j s hj
            exact ⟨List.all_eq_true.1 hkn s (List.mem_of_getElem? hj), u, by rw [List.getElem?_take, if_pos hjl]; exact hu, hr⟩
          · cases hj)
        rw [Nat.add_zero] at r2
        refine fin w2 ?_ r2
        rw [hop]
        have hlc : (loadCells ⟨b2, off2, none⟩ (min m len * e)).run P w = .ok (vs.take (min m len * e)).toArray w := by
          have := run_loadCells_list (P := P) w ⟨b2, off2, none⟩ (vs.take (min m len * e)) (fun j v hj => by
            rw [List.getElem?_take] at hj
            split at hj
            · exact hvc j v hj
            · cases hj)
          rw [List.length_take, hvl, Nat.min_eq_left hmz] at this
          exact this
        rw [hyv] at hyv2
        cases hyv2
        have hmn : Nat.min m len = min m len := rfl
        simp [resolve, hc, invoke, builtin, htys, hargs, hge, hyv, Builtin.copy_, underlying, g2, Builtin.lenOf, hsz, hmn, Builtin.firstCells, hlc, goInt]
        simp [r1]
  · cases hp
end
end Go.Proofs.YtaljbebkooppiaaGreat.Sh

