/- A part of the proof: Sh1, Sh2, Sh3, Sh4 -/
import Derived.WalkKit
import Derived.Below
import Derived.Maps.AppendAt
set_option linter.unusedSimpArgs false
set_option linter.unusedVariables false
set_option linter.unusedSectionVars false
namespace Go.Proofs.YtaljbebkooppiaaGreat.Sh
open Go Go.RowKit
inductive S1 where
  | any
  | int (k : IntKind) (n : Int)
  | bool (b : Bool)
  | str (s : ByteArray)
  | val (v : Value)
  | nils
  | sl (fr : Bool) (e : Nat) (rows : List (List S1))
  | ms (o off len e : Nat) (full : Bool)
  | mp (o off : Nat)
  | rp (fr : Bool) (cs : List S1)
  | fn (f : Nat) (caps : List S1)
inductive SV where
  | one (s : S1)
  | agg (l : List S1)
inductive ST where
  | v (x : SV)
  | tup (l : List SV)
def ST.any : ST := .v (.one .any)
inductive R0 (w : World) (ok : Bool → Nat → Prop) : Value → S1 → Prop where
  | any (v : Value) : R0 w ok v .any
  | int (k : IntKind) (n : Int) : R0 w ok (.int k n) (.int k n)
  | bool (b : Bool) : R0 w ok (.bool b) (.bool b)
  | str (s : ByteArray) : R0 w ok (.string s) (.str s)
  | val (v : Value) (h : v.oneCell' = true) : R0 w ok v (.val v)
  | nils : R0 w ok (.slice none 0 0) .nils
  | nilsl (fr : Bool) (e : Nat) : R0 w ok (.slice none 0 0) (.sl fr e [])
  | emp (fr : Bool) (e : Nat) (A : Addr) (cap : Nat) : R0 w ok (.slice (some A) 0 cap) (.sl fr e [])
  | sl (fr : Bool) (e : Nat) (rows : List (List S1)) (b off cap : Nat) (f : Nat → Nat → Value) (hcap : rows.length ≤ cap) (hlen : rows.length ≤ maxLen) (hok : rows ≠ [] → ok fr b)
      (hrow : ∀ (i : Nat) (row : List S1), rows[i]? = some row → row.length = e) (hc : ∀ (i : Nat) (row : List S1), rows[i]? = some row → ∀ (j : Nat) (s : S1), row[j]? = some s → w.cell? ⟨b, off + (i * e + j), none⟩ = some (f i j))
      (hr : ∀ (i : Nat) (row : List S1), rows[i]? = some row → ∀ (j : Nat) (s : S1), row[j]? = some s → R0 w ok (f i j) s) : R0 w ok (.slice (some ⟨b, off, none⟩) rows.length cap) (.sl fr e rows)
  | rp (fr : Bool) (cs : List S1) (b off : Nat) (f : Nat → Value) (hok : ok fr b) (hc : ∀ (j : Nat) (s : S1), cs[j]? = some s → w.cell? ⟨b, off + j, none⟩ = some (f j)) (hr : ∀ (j : Nat) (s : S1), cs[j]? = some s → R0 w ok (f j) s) :
      R0 w ok (.pointer (some ⟨b, off, none⟩)) (.rp fr cs)
  | fn (f : Nat) (caps : List S1) (arr : Array Value) (hs : arr.size = caps.length) (hr : ∀ (j : Nat) (s : S1), caps[j]? = some s → R0 w ok (arr.getD j undef) s) : R0 w ok (.func (.func f) #[] arr) (.fn f caps)
inductive R1 (w : World) (mu : Nat → Option (Nat × Nat)) (ok : Bool → Nat → Prop) : Value → S1 → Prop where
  | c {v : Value} {s : S1} (h : R0 w ok v s) : R1 w mu ok v s
  | ms (o off len e : Nat) (full : Bool) (b cc cap off' : Nat) (hm : mu o = some (b, cc)) (hcap : len ≤ cap) (hlen : len ≤ maxLen) (hin : off + len * e ≤ cc) (hfull : full = true → off = 0 ∧ cap * e = cc ∧ cap ≤ maxLen)
      (hoff : len ≠ 0 ∨ full = true → off' = off) : R1 w mu ok (.slice (some ⟨b, off', none⟩) len cap) (.ms o off len e full)
  | mp (o off b cc : Nat) (hm : mu o = some (b, cc)) : R1 w mu ok (.pointer (some ⟨b, off, none⟩)) (.mp o off)
def S1.closed : S1 → Bool
  | .ms .. => false
  | .mp .. => false
  | _ => true
theorem R1.c0 {w : World} {mu : Nat → Option (Nat × Nat)} {ok : Bool → Nat → Prop} {v : Value} {s : S1} (h : R1 w mu ok v s) (hs : s.closed = true) : R0 w ok v s := by
  cases h with
  | c h => exact h
  | ms => cases hs
  | mp => cases hs
def RV (w : World) (mu : Nat → Option (Nat × Nat)) (ok : Bool → Nat → Prop) (v : Value) : SV → Prop
  | .one s => R1 w mu ok v s
  | .agg l => ∃ arr, v = .agg arr ∧ arr.size = l.length ∧ ∀ (j : Nat) (s : S1), l[j]? = some s → ∃ u, arr[j]? = some u ∧ R1 w mu ok u s
def RT (w : World) (mu : Nat → Option (Nat × Nat)) (ok : Bool → Nat → Prop) (v : Value) : ST → Prop
  | .v x => RV w mu ok v x
  | .tup l => ∃ arr, v = .tuple arr ∧ arr.size = l.length ∧ ∀ (j : Nat) (x : SV), l[j]? = some x → ∃ u, arr[j]? = some u ∧ RV w mu ok u x
section
variable {w w' : World} {mu mu' : Nat → Option (Nat × Nat)} {ok ok' : Bool → Nat → Prop}
theorem R0.monoC (hok : ∀ fr b, ok fr b → ok' fr b) (hh : ∀ (fr : Bool) (b : Nat), ok fr b → ∀ (a : Addr) (v : Value), a.block = b → w.cell? a = some v → w'.cell? a = some v) : ∀ {v s}, R0 w ok v s → R0 w' ok' v s := by
  intro v s h
  induction h with
  | any v => exact .any v
  | int k n => exact .int k n
  | bool b => exact .bool b
  | str s => exact .str s
  | val v h => exact .val v h
  | nils => exact .nils
  | nilsl fr e => exact .nilsl fr e
  | emp fr e A cap => exact .emp fr e A cap
  | sl fr e rows b off cap f hcap hlen hb hrow hc hr ih =>
    refine .sl fr e rows b off cap f hcap hlen (fun h => hok _ _ (hb h)) hrow (fun i row hi j s hj => ?_) (fun i row hi j s hj => ih i row hi j s hj)
    have hne : rows ≠ [] := by rintro rfl; simp at hi
    exact hh _ _ (hb hne) _ _ rfl (hc i row hi j s hj)
  | rp fr cs b off f hb hc hr ih =>
    refine .rp fr cs b off f (hok _ _ hb) (fun j s hj => ?_) (fun j s hj => ih j s hj)
    exact hh _ _ hb _ _ rfl (hc j s hj)
  | fn f caps arr hs hr ih => exact .fn f caps arr hs (fun j s hj => ih j s hj)
theorem R1.monoC (hok : ∀ fr b, ok fr b → ok' fr b) (hh : ∀ (fr : Bool) (b : Nat), ok fr b → ∀ (a : Addr) (v : Value), a.block = b → w.cell? a = some v → w'.cell? a = some v) (hm : ∀ o p, mu o = some p → mu' o = some p) :
    ∀ {v s}, R1 w mu ok v s → R1 w' mu' ok' v s := by
  intro v s h
  cases h with
  | c h => exact .c (h.monoC hok hh)
  | ms o off len e full b cc cap off' h1 h2 h3 h4 h5 h6 => exact .ms o off len e full b cc cap off' (hm _ _ h1) h2 h3 h4 h5 h6
  | mp o off b cc h1 => exact .mp o off b cc (hm _ _ h1)
theorem RV.monoC (hok : ∀ fr b, ok fr b → ok' fr b) (hh : ∀ (fr : Bool) (b : Nat), ok fr b → ∀ (a : Addr) (v : Value), a.block = b → w.cell? a = some v → w'.cell? a = some v) (hm : ∀ o p, mu o = some p → mu' o = some p) {v : Value} : ∀ {x : SV}, RV w mu ok v x → RV w' mu' ok' v x
  | .one _, h => R1.monoC hok hh hm h
  | .agg _, ⟨arr, h1, h2, h3⟩ => ⟨arr, h1, h2, fun j s hj => by obtain ⟨u, hu, hr⟩ := h3 j s hj; exact ⟨u, hu, R1.monoC hok hh hm hr⟩⟩
theorem RT.monoC (hok : ∀ fr b, ok fr b → ok' fr b) (hh : ∀ (fr : Bool) (b : Nat), ok fr b → ∀ (a : Addr) (v : Value), a.block = b → w.cell? a = some v → w'.cell? a = some v) (hm : ∀ o p, mu o = some p → mu' o = some p) {v : Value} : ∀ {x : ST}, RT w mu ok v x → RT w' mu' ok' v x
  | .v _, h => RV.monoC hok hh hm h
  | .tup _, ⟨arr, h1, h2, h3⟩ => ⟨arr, h1, h2, fun j s hj => by obtain ⟨u, hu, hr⟩ := h3 j s hj; exact ⟨u, hu, RV.monoC hok hh hm hr⟩⟩
theorem cellsKept (hh : ∀ (fr : Bool) (b : Nat), ok fr b → w'.heap[b]? = w.heap[b]?) : ∀ (fr : Bool) (b : Nat), ok fr b → ∀ (a : Addr) (v : Value), a.block = b → w.cell? a = some v → w'.cell? a = some v := by
  rintro fr b h ⟨bl, off, sp⟩ v rfl hv
  rw [World.cell?_of_block (w := w) (hh fr _ h)]
  exact hv
theorem R0.mono (hok : ∀ fr b, ok fr b → ok' fr b) (hh : ∀ fr b, ok fr b → w'.heap[b]? = w.heap[b]?) {v s} (h : R0 w ok v s) : R0 w' ok' v s := h.monoC hok (cellsKept hh)
theorem R1.mono (hok : ∀ fr b, ok fr b → ok' fr b) (hh : ∀ fr b, ok fr b → w'.heap[b]? = w.heap[b]?) (hm : ∀ o p, mu o = some p → mu' o = some p) {v s} (h : R1 w mu ok v s) : R1 w' mu' ok' v s := h.monoC hok (cellsKept hh) hm
theorem RV.mono (hok : ∀ fr b, ok fr b → ok' fr b) (hh : ∀ fr b, ok fr b → w'.heap[b]? = w.heap[b]?) (hm : ∀ o p, mu o = some p → mu' o = some p) {v : Value} {x : SV} (h : RV w mu ok v x) : RV w' mu' ok' v x := RV.monoC hok (cellsKept hh) hm h
theorem RT.mono (hok : ∀ fr b, ok fr b → ok' fr b) (hh : ∀ fr b, ok fr b → w'.heap[b]? = w.heap[b]?) (hm : ∀ o p, mu o = some p → mu' o = some p) {v : Value} {x : ST} (h : RT w mu ok v x) : RT w' mu' ok' v x := RT.monoC hok (cellsKept hh) hm h
theorem RT.any (v : Value) : RT w mu ok v ST.any := R1.c (.any v)
end
structure SObj where
  ty : Nat
  cells : List S1
abbrev Ctx := World → (Bool → Nat → Prop) → Prop
structure W0 extends World where
  mu : Nat → Option (Nat × Nat)
  Z : Nat → Prop
  rho : Option Nat
abbrev W0.at (w : World) (mu : Nat → Option (Nat × Nat)) : W0 := ⟨w, mu, fun _ => False, none⟩
inductive MK where
  | str (s : ByteArray)
  | int (n : Int)
  | two (a b : Int)
  deriving DecidableEq
def MK.val : MK → Value
  | .str s => .string s
  | .int n => .int .i64 n
  | .two a b => .agg #[.int .i64 a, .int .i64 b]
structure XS where
  maps : List (Nat × List MK)
  ctx : Ctx
  base : W0 → (Bool → Nat → Prop) → Prop
def XS.nil : XS := ⟨[], fun _ _ => True, fun _ _ => True⟩
structure SS where
  t : Nat → ST
  objs : Nat → Option SObj
  n : Nat
  x : XS
def SS.put (σ : SS) (d : Option Nat) (x : ST) : SS :=
  match d with
  | some d => { σ with t := fun i => if i = d then x else σ.t i }
  | none => σ
def W0.X (w0 : W0) (b : Nat) : Prop := ∃ o cc, w0.mu o = some (b, cc)
def mu0 : Nat → Option (Nat × Nat) := fun _ => none
structure Bel (w0 : W0) (w : World) : Prop where
  os : w.os = w0.os
  tape : w.tape = w0.tape
  output : w.output = w0.output
  size : w0.heap.size ≤ w.heap.size
  block : ∀ k, k < w0.heap.size → ¬ w0.X k → ¬ w0.Z k → w.heap[k]? = w0.heap[k]?
theorem Bel.refl (w : World) (mu : Nat → Option (Nat × Nat)) : Bel (.at w mu) w := ⟨rfl, rfl, rfl, Nat.le_refl _, fun _ _ _ _ => rfl⟩
theorem Bel.below {w w' : World} (h : Bel (.at w mu0) w') : Below w.heap.size w w' := ⟨h.os, h.tape, h.output, h.size, fun k hk => h.block k hk (fun ⟨_, _, h⟩ => by cases h) (fun h => h)⟩
theorem Bel.called {w0 : W0} {w w' : World} (h : Bel w0 w) (k : Below w.heap.size w w') : Bel w0 w' :=
  ⟨k.os.trans h.os, k.tape.trans h.tape, k.output.trans h.output, Nat.le_trans h.size k.size, fun i hi hx hz => (k.block i (Nat.lt_of_lt_of_le hi h.size)).trans (h.block i hi hx hz)⟩
theorem Bel.drew {w0 : W0} {w : World} (h : Bel w0 w) : Bel w0 w.drew := ⟨h.os, h.tape, h.output, h.size, h.block⟩
theorem Bel.alloc {w0 : W0} {w : World} (h : Bel w0 w) (o : Obj) : Bel w0 (w.alloc o) :=
  h.called ((Below.refl _ _).alloc (Nat.le_refl _) o)
theorem Bel.setCell {w0 : W0} {w : World} (h : Bel w0 w) {p : Addr} (hp : w0.heap.size ≤ p.block ∨ w0.X p.block) (u : Value) : Bel w0 (w.setCell p u) :=
  ⟨h.os, h.tape, h.output, by simpa [World.setCell] using h.size, fun k hk hx hz => (Below.heap_setCell _ _ _ _ (by rintro rfl; rcases hp with hp | hp; omega; exact hx hp)).trans (h.block k hk hx hz)⟩
theorem Bel.grown {w0 : W0} {w w' : World} {row : Option Nat} (h : Bel w0 w) (hg : w.grownBy w' row) (hr : ∀ k, row = some k → w0.heap.size ≤ k ∨ w0.X k) : Bel w0 w' :=
  ⟨hg.os.trans h.os, hg.tape.trans h.tape, hg.output.trans h.output, Nat.le_trans h.size hg.size, fun k hk hx hz => (hg.block k (Nat.lt_of_lt_of_le hk h.size) (fun e => by rcases hr k e.symm with h | h; omega; exact hx h)).trans (h.block k hk hx hz)⟩
def okOf (w0 : W0) (ok0 : Bool → Nat → Prop) (σ : SS) (mu : Nat → Option (Nat × Nat)) (w : World) (fr : Bool) (b : Nat) : Prop :=
  (ok0 fr b ∨ w0.heap.size ≤ b ∨ w0.X b) ∧ b < w.heap.size ∧ ∀ o ob cc, σ.objs o = some ob → mu o ≠ some (b, cc)
def isCells : Go.Obj → Bool
  | .cells .. => true
  | _ => false
def isMap : Go.Obj → Bool
  | .map .. => true
  | _ => false
structure HS (Y : Nat → Prop) (w w' : World) : Prop where
  os : w'.os = w.os
  tape : w'.tape = w.tape
  output : w'.output = w.output
  size : w.heap.size ≤ w'.heap.size
  blk : ∀ b : Nat, b < w.heap.size → ¬ Y b → w'.heap[b]? = w.heap[b]?
  obj : ∀ (b : Nat) (o : Go.Obj), w.heap[b]? = some o → isCells o = false → w'.heap[b]? = some o
theorem HS.refl (w : World) : HS (fun _ => False) w w := ⟨rfl, rfl, rfl, Nat.le_refl _, fun _ _ _ => rfl, fun _ _ h _ => h⟩
theorem HS.drew (w : World) : HS (fun _ => False) w w.drew := ⟨rfl, rfl, rfl, Nat.le_refl _, fun _ _ _ => rfl, fun _ _ h _ => h⟩
theorem HS.of_below {w w' : World} (h : Below w.heap.size w w') : HS (fun _ => False) w w' := ⟨h.os, h.tape, h.output, h.size, fun b hb _ => h.block b hb, fun b o ho _ => (h.block b (Array.getElem?_eq_some_iff.1 ho).1).trans ho⟩
theorem HS.alloc (w : World) (o : Go.Obj) : HS (fun _ => False) w (w.alloc o) := .of_below ((Below.refl _ _).alloc (Nat.le_refl _) o)
theorem HS.setCell (w : World) (p : Addr) (u : Value) : HS (fun b => b = p.block) w (w.setCell p u) :=
  ⟨rfl, rfl, rfl, by simp [World.setCell], fun b _ hy => Below.heap_setCell _ _ _ _ hy, fun b o ho hc => by
    by_cases e : b = p.block
    · subst e
      simp only [World.setCell, Array.getElem?_modify, if_true, ho]
      cases o <;> first | rfl | (simp [isCells] at hc)
    · exact (Below.heap_setCell _ _ _ _ e).trans ho⟩
theorem HS.grown {w w' : World} {row : Option Nat} (hg : w.grownBy w' row) (hr : ∀ k, row = some k → ∃ o, w.heap[k]? = some o ∧ isCells o = true) : HS (fun b => row = some b) w w' :=
  ⟨hg.os, hg.tape, hg.output, hg.size, fun b hb hy => hg.block b hb (fun e => hy e.symm), fun b o ho hc => (hg.block b (Array.getElem?_eq_some_iff.1 ho).1 (fun e => by
    obtain ⟨o', h1, h2⟩ := hr b e.symm
    rw [ho] at h1; cases h1; rw [hc] at h2; cases h2)).trans ho⟩
structure Grow0 (Z : Nat → Prop) (w w' : World) (ok ok' : Bool → Nat → Prop) : Prop where
  os : w'.os = w.os
  tape : w'.tape = w.tape
  output : w'.output = w.output
  size : w.heap.size ≤ w'.heap.size
  gok : ∀ fr b, ok fr b → ok' fr b
  heap : ∀ (fr : Bool) (b : Nat), ok fr b → ∀ (a : Addr) (v : Value), a.block = b → w.cell? a = some v → w'.cell? a = some v
  z : ∀ b : Nat, Z b → w'.heap[b]? = w.heap[b]?
def Stable (Z : Nat → Prop) (c : Ctx) : Prop := ∀ w w' ok ok', c w ok → Grow0 Z w w' ok ok' → c w' ok'
def BStable (base : W0 → (Bool → Nat → Prop) → Prop) : Prop := ∀ (w0 w1 : W0) (ok0 ok1 : Bool → Nat → Prop), base w0 ok0 → w1.Z = w0.Z → w0.heap.size ≤ w1.heap.size → (∀ fr b, ok1 fr b → ok0 fr b ∨ w0.heap.size ≤ b ∨ w0.X b) → (∀ b, w1.X b → w0.heap.size ≤ b ∨ w0.X b) → base w1 ok1
def MapAt (r : Nat) (ks : List MK) (w : World) : Prop := ∃ (ents : Array MapEntry) (clock : Nat), w.heap[r]? = some (.map ents clock) ∧ ents.toList.map (fun e => e.key) = ks.map MK.val ∧ ∀ e ∈ ents.toList, e.val = .bool true
theorem MapAt.step {r : Nat} {es : List MK} {Y : Nat → Prop} {w w' : World} (h : MapAt r es w) (s : HS Y w w') : MapAt r es w' := by
  obtain ⟨ents, clock, h1, h2, h3⟩ := h
  exact ⟨ents, clock, s.obj r _ h1 rfl, h2, h3⟩
structure Ext (w0 : W0) (ok0 : Bool → Nat → Prop) (σ : SS) (mu : Nat → Option (Nat × Nat)) (w : World) : Prop where
  maps : ∀ p ∈ σ.x.maps, w0.heap.size ≤ p.1 ∧ MapAt p.1 p.2 w
  nodup : (σ.x.maps.map (·.1)).Nodup
  ctx : σ.x.ctx w (okOf w0 ok0 σ mu w)
  st : Stable w0.Z σ.x.ctx
  base : σ.x.base w0 ok0
  bst : BStable σ.x.base
  zed : ∀ b, w0.Z b → b < w0.heap.size ∧ ¬ w0.X b ∧ ∀ fr, ¬ ok0 fr b
  rnd : ∀ l : Nat, w0.rho = some l → ¬ w0.Z l ∧ ∃ r, w.heap[l]? = some (.loop r)
theorem okOf.notZ {w0 : W0} {ok0 : Bool → Nat → Prop} {σ : SS} {mu : Nat → Option (Nat × Nat)} {w : World} (hz : ∀ b, w0.Z b → b < w0.heap.size ∧ ¬ w0.X b ∧ ∀ fr, ¬ ok0 fr b) {fr : Bool} {b : Nat} (h : okOf w0 ok0 σ mu w fr b) : ¬ w0.Z b := fun k => by
  obtain ⟨k1, k2, k3⟩ := hz b k
  rcases h.1 with h | h | h
  · exact k3 fr h
  · omega
  · exact k2 h
theorem Ext.step {w0 : W0} {ok0 : Bool → Nat → Prop} {σ σ' : SS} {mu mu' : Nat → Option (Nat × Nat)} {w w' : World} {Y : Nat → Prop} (h : Ext w0 ok0 σ mu w) (hx : σ'.x = σ.x) (s : HS Y w w') (hok : ∀ fr b, okOf w0 ok0 σ mu w fr b → okOf w0 ok0 σ' mu' w' fr b)
    (hh : ∀ (fr : Bool) (b : Nat), okOf w0 ok0 σ mu w fr b → w'.heap[b]? = w.heap[b]?) (_hm : ∀ o p, mu o = some p → mu' o = some p) (hb : w0.heap.size ≤ w.heap.size) (hY : ∀ b, Y b → w0.heap.size ≤ b ∨ w0.X b) : Ext w0 ok0 σ' mu' w' := by
  refine ⟨fun p hp => ?_, by rw [hx]; exact h.nodup, ?_, by rw [hx]; exact h.st, by rw [hx]; exact h.base, by rw [hx]; exact h.bst, h.zed, fun l hl => ?_⟩
  · rw [hx] at hp
    exact ⟨(h.maps p hp).1, (h.maps p hp).2.step s⟩
  · rw [hx]
    refine h.st _ _ _ _ h.ctx ⟨s.os, s.tape, s.output, s.size, hok, cellsKept hh, fun b hz => ?_⟩
    obtain ⟨k1, k2, _⟩ := h.zed b hz
    exact s.blk b (by omega) (fun hy => by rcases hY b hy with h | h; omega; exact k2 h)
  · obtain ⟨h1, r, hr⟩ := h.rnd l hl
    exact ⟨h1, r, s.obj l _ hr rfl⟩
theorem Ext.same {w0 : W0} {ok0 : Bool → Nat → Prop} {σ σ' : SS} {mu : Nat → Option (Nat × Nat)} {w : World} (h : Ext w0 ok0 σ mu w) (hx : σ'.x = σ.x) (hok : okOf w0 ok0 σ' mu w = okOf w0 ok0 σ mu w) : Ext w0 ok0 σ' mu w :=
  ⟨by rw [hx]; exact h.maps, by rw [hx]; exact h.nodup, by rw [hx, hok]; exact h.ctx, by rw [hx]; exact h.st, by rw [hx]; exact h.base, by rw [hx]; exact h.bst, h.zed, h.rnd⟩
def DefOK (w0 : W0) (ds : List Deferred) (w : World) : Prop := ds.Pairwise (fun a b => a.target ≠ b.target) ∧ ∀ d ∈ ds, ∃ r, d = { target := .collected r, args := #[] } ∧ w0.heap.size ≤ r ∧ w.heap[r]? = some (.deferred (some []))
theorem DefOK.nil (w0 : W0) (w : World) : DefOK w0 [] w := ⟨.nil, fun d h => by cases h⟩
theorem DefOK.step {w0 : W0} {ds : List Deferred} {w w' : World} {Y : Nat → Prop} (h : DefOK w0 ds w) (s : HS Y w w') : DefOK w0 ds w' :=
  ⟨h.1, fun d hd => by obtain ⟨r, h1, h2, h3⟩ := h.2 d hd; exact ⟨r, h1, h2, s.obj r _ h3 rfl⟩⟩
structure InvM (w0 : W0) (ok0 : Bool → Nat → Prop) (σ : SS) (mu : Nat → Option (Nat × Nat)) (a : Act) (w : World) : Prop where
  tmps : ∀ t, RT w mu (okOf w0 ok0 σ mu w) (a.tmps.getD t undef) (σ.t t)
  objs : ∀ o ob, σ.objs o = some ob → ∃ b cur, mu o = some (b, cur.size) ∧ (w0.heap.size ≤ b ∨ w0.X b) ∧ w.heap[b]? = some (.cells cur ob.ty (0, 0)) ∧ ob.cells.length ≤ cur.size ∧
    ∀ (j : Nat) (s : S1), ob.cells[j]? = some s → ∃ u, cur[j]? = some u ∧ R1 w mu (okOf w0 ok0 σ mu w) u s
  inj : ∀ o o' ob ob' b c c', σ.objs o = some ob → σ.objs o' = some ob' → mu o = some (b, c) → mu o' = some (b, c') → o = o'
  fresh : ∀ o, σ.n ≤ o → σ.objs o = none ∧ mu o = none
  lent : ∀ o p, w0.mu o = some p → mu o = some p
  ext : Ext w0 ok0 σ mu w
structure Inv (w0 : W0) (ok0 : Bool → Nat → Prop) (N : Nat) (σ : SS) (a : Act) (w : World) : Prop where
  below : Bel w0 w
  size : a.tmps.size = N
  defers : DefOK w0 a.defers w
  mem : ∃ mu, InvM w0 ok0 σ mu a w
theorem getD_put (a : Act) (d : Option Nat) (v : Value) (t : Nat) (h : ∀ i, d = some i → i < a.tmps.size) :
    (a.put d v).tmps.getD t undef = if d = some t then v else a.tmps.getD t undef := by
  cases d with
  | none => simp [Act.put]
  | some d =>
    have hd := h d rfl
    simp only [Act.put, Array.getD_eq_getD_getElem?, Array.getElem?_setIfInBounds]
    by_cases e : d = t
    · subst e; simp [hd]
    · simp [e]
theorem size_put (a : Act) (d : Option Nat) (v : Value) : (a.put d v).tmps.size = a.tmps.size := by cases d <;> simp [Act.put]
theorem defers_put (a : Act) (d : Option Nat) (v : Value) : (a.put d v).defers = a.defers := by cases d <;> simp [Act.put]
theorem InvM.put {w0 : W0} {ok0 : Bool → Nat → Prop} {N : Nat} {σ : SS} {a : Act} {w : World} {mu : Nat → Option (Nat × Nat)} (hm : InvM w0 ok0 σ mu a w) (hs : a.tmps.size = N) (d : Option Nat) (hd : ∀ i, d = some i → i < N) (v : Value) (x : ST)
    (hx : RT w mu (okOf w0 ok0 σ mu w) v x) : InvM w0 ok0 (σ.put d x) mu (a.put d v) w := by
  have ho : (σ.put d x).objs = σ.objs := by cases d <;> rfl
  have hn : (σ.put d x).n = σ.n := by cases d <;> rfl
  have hokk : okOf w0 ok0 (σ.put d x) mu w = okOf w0 ok0 σ mu w := by funext fr b; simp only [okOf, ho]
  have hx' : (σ.put d x).x = σ.x := by cases d <;> rfl
  refine ⟨fun t => ?_, fun o ob he => ?_, fun o o' ob ob' b c c' h1 h2 => hm.inj o o' ob ob' b c c' (by rw [← ho]; exact h1) (by rw [← ho]; exact h2), fun o hno => ?_, hm.lent, hm.ext.same hx' hokk⟩
  · rw [hokk, getD_put a d v t (fun i hi => by rw [hs]; exact hd i hi)]
    by_cases e : d = some t
    · subst e; simp only [if_true, SS.put]; exact hx
    · rw [if_neg e]
      have : (σ.put d x).t t = σ.t t := by
        cases d with
        | none => rfl
        | some d => simp only [SS.put]; rw [if_neg (fun h => e (by rw [h]))]
      rw [this]; exact hm.tmps t
  · rw [ho] at he; rw [hokk]; exact hm.objs o ob he
  · rw [ho]; exact hm.fresh o (by rw [← hn]; exact hno)
theorem Inv.put {w0 : W0} {ok0 : Bool → Nat → Prop} {N : Nat} {σ : SS} {a : Act} {w : World} (h : Inv w0 ok0 N σ a w) (d : Option Nat) (hd : ∀ i, d = some i → i < N) (v : Value) (x : ST)
    (hx : ∀ mu, InvM w0 ok0 σ mu a w → RT w mu (okOf w0 ok0 σ mu w) v x) : Inv w0 ok0 N (σ.put d x) (a.put d v) w := by
  obtain ⟨hb, hs, hdf, mu, hm⟩ := h
  exact ⟨hb, by rw [size_put, hs], by rw [defers_put]; exact hdf, mu, hm.put hs d hd v x (hx mu hm)⟩
section
variable {w0 : W0} {w w' : World} {ok0 : Bool → Nat → Prop} {N : Nat} {σ σ' : SS} {a : Act} {mu mu' : Nat → Option (Nat × Nat)}
theorem InvM.lt (h : InvM w0 ok0 σ mu a w) {o : Nat} {ob : SObj} {b c : Nat} (ho : σ.objs o = some ob) (hm : mu o = some (b, c)) : b < w.heap.size := by
  obtain ⟨b', cur, h1, _, h3, _⟩ := h.objs o ob ho
  rw [hm] at h1
  obtain ⟨rfl, _⟩ := Prod.mk.inj (Option.some.inj h1)
  exact (Array.getElem?_eq_some_iff.1 h3).1
theorem Inv.drew (h : Inv w0 ok0 N σ a w) : Inv w0 ok0 N σ a w.drew := by
  obtain ⟨hb, hs, hd, mu, hm⟩ := h
  have e : okOf w0 ok0 σ mu w.drew = okOf w0 ok0 σ mu w := rfl
  refine ⟨hb.drew, hs, hd.step (HS.drew w), mu, ?_, ?_, hm.inj, hm.fresh, hm.lent, hm.ext.step rfl (HS.drew w) (fun _ _ h => h) (fun _ _ _ => rfl) (fun _ _ h => h) hb.size (fun _ h => h.elim)⟩
  · intro t; rw [e]; exact RT.mono (w := w) (w' := w.drew) (fun _ _ h => h) (fun _ _ _ => rfl) (fun _ _ h => h) (hm.tmps t)
  · intro o ob ho
    obtain ⟨b, cur, h1, h2, h3, h4, h5⟩ := hm.objs o ob ho
    refine ⟨b, cur, h1, h2, h3, h4, fun j s hj => ?_⟩
    obtain ⟨u, hu, hr⟩ := h5 j s hj
    exact ⟨u, hu, by rw [e]; exact R1.mono (w := w) (w' := w.drew) (fun _ _ h => h) (fun _ _ _ => rfl) (fun _ _ h => h) hr⟩
theorem InvM.called (hm : InvM w0 ok0 σ mu a w) (hs0 : w0.heap.size ≤ w.heap.size) (hb : Below w.heap.size w w') : InvM w0 ok0 σ mu a w' := by
  have hmo : ∀ fr b, okOf w0 ok0 σ mu w fr b → okOf w0 ok0 σ mu w' fr b := fun fr b h => ⟨h.1, Nat.lt_of_lt_of_le h.2.1 hb.size, h.2.2⟩
  have hh : ∀ fr b, okOf w0 ok0 σ mu w fr b → w'.heap[b]? = w.heap[b]? := fun fr b h => hb.block b h.2.1
  refine ⟨?_, ?_, hm.inj, hm.fresh, hm.lent, hm.ext.step rfl (.of_below hb) hmo hh (fun _ _ h => h) hs0 (fun _ h => h.elim)⟩
  · intro t; exact RT.mono hmo hh (fun _ _ h => h) (hm.tmps t)
  · intro o ob ho
    obtain ⟨b, cur, h1, h2, h3, h4, h5⟩ := hm.objs o ob ho
    refine ⟨b, cur, h1, h2, (hb.block b (Array.getElem?_eq_some_iff.1 h3).1).trans h3, h4, fun j s hj => ?_⟩
    obtain ⟨u, hu, hr⟩ := h5 j s hj
    exact ⟨u, hu, R1.mono hmo hh (fun _ _ h => h) hr⟩
theorem Inv.called (h : Inv w0 ok0 N σ a w) (hb : Below w.heap.size w w') : Inv w0 ok0 N σ a w' := by
  obtain ⟨hb0, hs, hd, mu, hm⟩ := h
  exact ⟨hb0.called hb, hs, hd.step (.of_below hb), mu, hm.called hb0.size hb⟩
def SS.new (σ : SS) (ob : SObj) : SS := { t := σ.t, objs := fun o => if o = σ.n then some ob else σ.objs o, n := σ.n + 1, x := σ.x }
theorem InvM.newPut (hb0 : Bel w0 w) (hs : a.tmps.size = N) (hdf : DefOK w0 a.defers w) (hm : InvM w0 ok0 σ mu a w) (ob : SObj) (cur : Array Value) (hl : ob.cells.length ≤ cur.size)
    (hc : ∀ (j : Nat) (s : S1), ob.cells[j]? = some s → ∃ u, cur[j]? = some u ∧ R1 w mu (okOf w0 ok0 σ mu w) u s)
    (d : Option Nat) (hd : ∀ i, d = some i → i < N) (v : Value) (x : ST)
    (hx : ∀ mu w1 ok1, mu σ.n = some (w.heap.size, cur.size) → RT w1 mu ok1 v x) :
    Inv w0 ok0 N ((σ.new ob).put d x) (a.put d v) (w.alloc (.cells cur ob.ty)) := by
  have hsz : (w.alloc (.cells cur ob.ty)).heap.size = w.heap.size + 1 := by simp
  have hn := hm.fresh σ.n (Nat.le_refl _)
  have hmu : ∀ o p, mu o = some p → (if o = σ.n then some (w.heap.size, cur.size) else mu o) = some p := fun o p hp => by
    rw [if_neg (by rintro rfl; rw [hn.2] at hp; cases hp)]; exact hp
  have hmo : ∀ fr b, okOf w0 ok0 σ mu w fr b → okOf w0 ok0 (σ.new ob) (fun o => if o = σ.n then some (w.heap.size, cur.size) else mu o) (w.alloc (.cells cur ob.ty)) fr b := by
    intro fr b ⟨h1, h2, h3⟩
    refine ⟨h1, by rw [hsz]; omega, fun o ob' cc ho => ?_⟩
    by_cases e : o = σ.n
    · simp only [e, if_true]; intro h; have := (Prod.mk.inj (Option.some.inj h)).1; omega
    · show (if o = σ.n then some (w.heap.size, cur.size) else mu o) ≠ _
      rw [if_neg e]; exact h3 o ob' cc (by simpa [SS.new, e] using ho)
  have hh : ∀ fr b, okOf w0 ok0 σ mu w fr b → (w.alloc (.cells cur ob.ty)).heap[b]? = w.heap[b]? := fun fr b h => Below.heap_alloc w _ b h.2.1
  refine ⟨hb0.alloc _, by rw [size_put, hs], by rw [defers_put]; exact hdf.step (HS.alloc w _), fun o => if o = σ.n then some (w.heap.size, cur.size) else mu o, InvM.put (N := N) ⟨?_, ?_, ?_, ?_, fun o p h => hmu o p (hm.lent o p h), hm.ext.step (σ' := σ.new ob) rfl (HS.alloc w _) hmo hh hmu hb0.size (fun _ h => h.elim)⟩ hs d hd v x (hx _ _ _ (by simp))⟩
  · intro t; exact RT.mono hmo hh hmu (hm.tmps t)
  · intro o ob' ho
    by_cases e : o = σ.n
    · subst e
      have : ob' = ob := by simpa [SS.new] using ho.symm
      subst this
      refine ⟨w.heap.size, cur, by simp, Or.inl hb0.size, heap_alloc_new w _, hl, fun j s hj => ?_⟩
      obtain ⟨u, hu, hr⟩ := hc j s hj
      exact ⟨u, hu, R1.mono hmo hh hmu hr⟩
    · obtain ⟨b, cur', h1, h2, h3, h4, h5⟩ := hm.objs o ob' (by simpa [SS.new, e] using ho)
      refine ⟨b, cur', by rw [if_neg e]; exact h1, h2, (Below.heap_alloc w _ b (Array.getElem?_eq_some_iff.1 h3).1).trans h3, h4, fun j s hj => ?_⟩
      obtain ⟨u, hu, hr⟩ := h5 j s hj
      exact ⟨u, hu, R1.mono hmo hh hmu hr⟩
  · intro o o' ob1 ob2 b c c' h1 h2 h3 h4
    by_cases e : o = σ.n <;> by_cases e' : o' = σ.n
    · rw [e, e']
    · simp only [e, if_true] at h3; rw [if_neg e'] at h4
      obtain ⟨rfl, _⟩ := Prod.mk.inj (Option.some.inj h3)
      have := hm.lt (by simpa [SS.new, e'] using h2) h4; omega
    · simp only [e', if_true] at h4; rw [if_neg e] at h3
      obtain ⟨rfl, _⟩ := Prod.mk.inj (Option.some.inj h4)
      have := hm.lt (by simpa [SS.new, e] using h1) h3; omega
    · rw [if_neg e] at h3; rw [if_neg e'] at h4
      exact hm.inj o o' ob1 ob2 b c c' (by simpa [SS.new, e] using h1) (by simpa [SS.new, e'] using h2) h3 h4
  · intro o hno
    have hno' : σ.n + 1 ≤ o := hno
    have := hm.fresh o (by omega)
    refine ⟨by simp only [SS.new]; rw [if_neg (by omega)]; exact this.1, by rw [if_neg (by omega)]; exact this.2⟩
end
end Go.Proofs.YtaljbebkooppiaaGreat.Sh

namespace Go.Proofs.YtaljbebkooppiaaGreat.Sh
open Go Go.RowKit
section
variable {w0 : W0} {w w' : World} {ok0 : Bool → Nat → Prop} {N : Nat} {σ σ' : SS} {a : Act} {mu mu' : Nat → Option (Nat × Nat)} {ok : Bool → Nat → Prop}
def S1.known : S1 → Bool
  | .any => false
  | _ => true
theorem R0.one {v : Value} {s : S1} (h : R0 w ok v s) (hk : s.known = true) : v.oneCell' = true := by
  cases h with
  | any => simp [S1.known] at hk
  | int => rfl
  | bool => rfl
  | str => rfl
  | val v h => exact h
  | nils => rfl
  | nilsl => rfl
  | emp => rfl
  | sl => rfl
  | rp => rfl
  | fn => rfl
theorem R1.one {v : Value} {s : S1} (h : R1 w mu ok v s) (hk : s.known = true) : v.oneCell' = true := by
  cases h with
  | c h => exact h.one hk
  | ms => rfl
  | mp => rfl
theorem setCell_heap (w : World) (b off : Nat) (u : Value) (cur : Array Value) (e : Nat) (fr : Nat × Nat) (h : w.heap[b]? = some (.cells cur e fr)) :
    (w.setCell ⟨b, off, none⟩ u).heap[b]? = some (.cells (cur.setIfInBounds off u) e fr) := by
  simp only [World.setCell, Array.getElem?_modify, if_true, h]
  simp
def SS.setObj (σ : SS) (o : Nat) (ob : SObj) : SS := { σ with objs := fun i => if i = o then some ob else σ.objs i }
theorem InvM.store (hs0 : w0.heap.size ≤ w.heap.size) (hm : InvM w0 ok0 σ mu a w) {o : Nat} {ob : SObj} (ho : σ.objs o = some ob) {b cc off : Nat} (hb : mu o = some (b, cc)) (hoff : off < ob.cells.length) {u : Value} {s : S1}
    (hu : R1 w mu (okOf w0 ok0 σ mu w) u s) :
    InvM w0 ok0 (σ.setObj o { ob with cells := ob.cells.set off s }) mu a (w.setCell ⟨b, off, none⟩ u) ∧ (w0.heap.size ≤ b ∨ w0.X b) ∧ (∃ v, w.cell? ⟨b, off, none⟩ = some v) ∧ w.frozen? ⟨b, off, none⟩ = false := by
  obtain ⟨b', cur, h1, h2, h3, h4, h5⟩ := hm.objs o ob ho
  rw [hb] at h1
  obtain ⟨rfl, hcc⟩ := Prod.mk.inj (Option.some.inj h1)
  have hsz : (w.setCell ⟨b, off, none⟩ u).heap.size = w.heap.size := by simp [World.setCell]
  have hlt : b < w.heap.size := (Array.getElem?_eq_some_iff.1 h3).1
  have hmo : ∀ fr b', okOf w0 ok0 σ mu w fr b' → okOf w0 ok0 (σ.setObj o { ob with cells := ob.cells.set off s }) mu (w.setCell ⟨b, off, none⟩ u) fr b' := by
    intro fr b' ⟨g1, g2, g3⟩
    refine ⟨g1, by rw [hsz]; exact g2, fun o' ob' c' hob => ?_⟩
    by_cases e : o' = o
    · subst e; exact g3 o' ob c' ho
    · exact g3 o' ob' c' (by simpa [SS.setObj, e] using hob)
  have hh : ∀ fr b', okOf w0 ok0 σ mu w fr b' → (w.setCell ⟨b, off, none⟩ u).heap[b']? = w.heap[b']? := by
    intro fr b' ⟨_, _, g3⟩
    exact Below.heap_setCell w _ u b' (fun e => g3 o ob cc ho (by rw [hb, e]))
  have hnew := setCell_heap w b off u cur ob.ty (0, 0) h3
  refine ⟨⟨fun t => RT.mono hmo hh (fun _ _ h => h) (hm.tmps t), fun o' ob' hob => ?_, ?_, ?_, hm.lent, hm.ext.step (σ' := σ.setObj o { ob with cells := ob.cells.set off s }) rfl (HS.setCell w ⟨b, off, none⟩ u) hmo hh (fun _ _ h => h) hs0 (fun b' e => by cases e; exact h2)⟩, h2, ?_, ?_⟩
  · by_cases e : o' = o
    · subst e
      have : ob' = { ob with cells := ob.cells.set off s } := by simpa [SS.setObj] using hob.symm
      subst this
      refine ⟨b, cur.setIfInBounds off u, by rw [hb, hcc]; simp, h2, hnew, by simpa using h4, fun j s' hj => ?_⟩
      simp only at hj
      rw [List.getElem?_set] at hj
      by_cases e2 : off = j
      · subst e2
        simp only [if_true, hoff] at hj
        cases hj
        exact ⟨u, by simp [Array.getElem?_setIfInBounds]; omega, R1.mono hmo hh (fun _ _ h => h) hu⟩
      · rw [if_neg e2] at hj
        obtain ⟨u', hu', hr⟩ := h5 j s' hj
        exact ⟨u', by rw [Array.getElem?_setIfInBounds_ne e2]; exact hu', R1.mono hmo hh (fun _ _ h => h) hr⟩
    · have hob' : σ.objs o' = some ob' := by simpa [SS.setObj, e] using hob
      obtain ⟨b2, cur2, g1, g2, g3, g4, g5⟩ := hm.objs o' ob' hob'
      have hne : b2 ≠ b := fun e2 => e (hm.inj o' o ob' ob b cur2.size cc hob' ho (by rw [g1, e2]) hb)
      refine ⟨b2, cur2, g1, g2, (Below.heap_setCell w _ u b2 hne).trans g3, g4, fun j s' hj => ?_⟩
      obtain ⟨u', hu', hr⟩ := g5 j s' hj
      exact ⟨u', hu', R1.mono hmo hh (fun _ _ h => h) hr⟩
  · intro o1 o2 ob1 ob2 b1 c1 c2 g1 g2 g3 g4
    have k1 : ∃ ob1, σ.objs o1 = some ob1 := by
      by_cases e : o1 = o
      · exact ⟨ob, by rw [e]; exact ho⟩
      · exact ⟨ob1, by simpa [SS.setObj, e] using g1⟩
    have k2 : ∃ ob2, σ.objs o2 = some ob2 := by
      by_cases e : o2 = o
      · exact ⟨ob, by rw [e]; exact ho⟩
      · exact ⟨ob2, by simpa [SS.setObj, e] using g2⟩
    obtain ⟨p1, k1⟩ := k1
    obtain ⟨p2, k2⟩ := k2
    exact hm.inj o1 o2 p1 p2 b1 c1 c2 k1 k2 g3 g4
  · intro o1 hno
    have := hm.fresh o1 hno
    refine ⟨?_, this.2⟩
    simp only [SS.setObj]
    rw [if_neg (by rintro rfl; rw [this.1] at ho; cases ho)]
    exact this.1
  · exact ⟨cur[off]'(by omega), by rw [cell_of_row w b off cur ob.ty (0, 0) h3]; exact Array.getElem?_eq_getElem (by omega)⟩
  · simp [World.frozen?, h3]
def S1.close : S1 → S1
  | .ms .. => .any
  | .mp .. => .any
  | s => s
theorem R1.close {v : Value} {s : S1} (h : R1 w mu ok v s) : R0 w ok v s.close := by
  cases h with
  | ms => exact .any _
  | mp => exact .any _
  | c h => cases s <;> first | exact h | exact .any _
def rowsOf (cs : List S1) (off e len : Nat) : List (List S1) := (List.range len).map fun i => (cs.drop (off + i * e)).take e
def S1.frz (o : Nat) (cs : List S1) : S1 → S1
  | .ms o' off len e full => if o' = o then (if off + len * e ≤ cs.length then .sl true e (rowsOf (cs.map S1.close) off e len) else .any) else .ms o' off len e full
  | .mp o' off => if o' = o then .rp true ((cs.map S1.close).drop off) else .mp o' off
  | s => s
def SV.frz (o : Nat) (cs : List S1) : SV → SV
  | .one s => .one (s.frz o cs)
  | .agg l => .agg (l.map (S1.frz o cs))
def ST.frz (o : Nat) (cs : List S1) : ST → ST
  | .v x => .v (x.frz o cs)
  | .tup l => .tup (l.map (SV.frz o cs))
def SS.freeze (σ : SS) (o : Nat) (cs : List S1) : SS :=
  { t := fun i => (σ.t i).frz o cs, objs := fun i => if i = o then none else (σ.objs i).map fun ob => { ob with cells := ob.cells.map (S1.frz o cs) }, n := σ.n, x := σ.x }
theorem R1.frz {o b : Nat} {cs : List S1} {cur : Array Value} (hb : mu o = some (b, cur.size)) (hok : ok true b) (hh : ∃ ty, w.heap[b]? = some (.cells cur ty (0, 0))) (_hl : cs.length ≤ cur.size)
    (hc : ∀ (j : Nat) (s : S1), cs[j]? = some s → ∃ u, cur[j]? = some u ∧ R1 w mu ok u s) {v : Value} {s : S1} (h : R1 w mu ok v s) : R1 w mu ok v (s.frz o cs) := by
  obtain ⟨ty, hh⟩ := hh
  have hcell : ∀ (j : Nat) (s : S1), (cs.map S1.close)[j]? = some s → w.cell? ⟨b, j, none⟩ = some (cur[j]?.getD undef) ∧ R0 w ok (cur[j]?.getD undef) s := fun j s hj => by
    rw [List.getElem?_map, Option.map_eq_some_iff] at hj
    obtain ⟨s', hj, rfl⟩ := hj
    obtain ⟨u, hu, hr⟩ := hc j s' hj
    rw [cell_of_row w b j cur ty (0, 0) hh, hu]
    exact ⟨rfl, hr.close⟩
  generalize hcs : cs.map S1.close = ds at hcell
  have hdl : ds.length = cs.length := by rw [← hcs, List.length_map]
  cases h with
  | ms o' off len e full b' cc cap off' hm hcap hlen hin hfull hoff =>
    by_cases e1 : o' = o
    · subst e1
      rw [hb] at hm
      obtain ⟨rfl, rfl⟩ := Prod.mk.inj (Option.some.inj hm)
      simp only [S1.frz, if_true, hcs]
      split
      · rename_i hle
        have hrl : (rowsOf ds off e len).length = len := by simp [rowsOf]
        have hrow : ∀ (i : Nat) (row : List S1), (rowsOf ds off e len)[i]? = some row → row = (ds.drop (off + i * e)).take e ∧ i < len := by
          intro i row hi
          simp only [rowsOf, List.getElem?_map, Option.map_eq_some_iff] at hi
          obtain ⟨k, hk, rfl⟩ := hi
          have := List.getElem?_eq_some_iff.1 hk
          obtain ⟨hk1, hk2⟩ := this
          simp at hk1 hk2
          subst hk2
          exact ⟨rfl, hk1⟩
        have key : ∀ i, i < len → i * e + e ≤ len * e := fun i hi => by rw [← Nat.succ_mul]; exact Nat.mul_le_mul_right _ hi
        have hoff' : len ≠ 0 → off' = off := fun h => hoff (Or.inl h)
        have := R0.sl (w := w) (ok := ok) true e (rowsOf ds off e len) b off' cap (fun i j => cur[off + (i * e + j)]?.getD undef) (by rw [hrl]; exact hcap) (by rw [hrl]; exact hlen) (fun _ => hok) ?_ ?_ ?_
        · rw [hrl] at this; exact .c this
        · intro i row hi
          obtain ⟨rfl, hi2⟩ := hrow i row hi
          have := key i hi2
          rw [List.length_take, List.length_drop]; omega
        · intro i row hi j s hj
          obtain ⟨rfl, hlt⟩ := hrow i row hi
          rw [hoff' (by omega)]
          rw [List.getElem?_take] at hj
          split at hj
          · rw [List.getElem?_drop] at hj
            rw [Nat.add_assoc] at hj
            exact (hcell _ s hj).1
          · cases hj
        · intro i row hi j s hj
          obtain ⟨rfl, _⟩ := hrow i row hi
          rw [List.getElem?_take] at hj
          split at hj
          · rw [List.getElem?_drop] at hj
            rw [Nat.add_assoc] at hj
            exact (hcell _ s hj).2
          · cases hj
      · exact .c (.any _)
    · simp only [S1.frz, if_neg e1]
      exact .ms o' off len e full b' cc cap off' hm hcap hlen hin hfull hoff
  | mp o' off b' cc hm =>
    by_cases e1 : o' = o
    · subst e1
      rw [hb] at hm
      obtain ⟨rfl, rfl⟩ := Prod.mk.inj (Option.some.inj hm)
      simp only [S1.frz, if_true, hcs]
      refine .c (.rp true (ds.drop off) b off (fun j => cur[off + j]?.getD undef) hok (fun j s hj => ?_) (fun j s hj => ?_))
      · rw [List.getElem?_drop] at hj; exact (hcell _ s hj).1
      · rw [List.getElem?_drop] at hj; exact (hcell _ s hj).2
    · simp only [S1.frz, if_neg e1]
      exact .mp o' off b' cc hm
  | c h => cases h <;> simp only [S1.frz] <;> first | exact .c (.any _) | exact .c (.int _ _) | exact .c (.bool _) | exact .c (.str _) | exact .c .nils | exact .c (.nilsl _ _) | exact .c (.emp _ _ _ _) | exact .c (.val _ ‹_›) | exact .c (.sl _ _ _ _ _ _ _ ‹_› ‹_› ‹_› ‹_› ‹_› ‹_›) | exact .c (.rp _ _ _ _ _ ‹_› ‹_› ‹_›) | exact .c (.fn _ _ _ ‹_› ‹_›)
theorem RV.frz {o b : Nat} {cs : List S1} {cur : Array Value} (hb : mu o = some (b, cur.size)) (hok : ok true b) (hh : ∃ ty, w.heap[b]? = some (.cells cur ty (0, 0))) (hl : cs.length ≤ cur.size)
    (hc : ∀ (j : Nat) (s : S1), cs[j]? = some s → ∃ u, cur[j]? = some u ∧ R1 w mu ok u s) {v : Value} : ∀ {x : SV}, RV w mu ok v x → RV w mu ok v (x.frz o cs)
  | .one _, h => R1.frz hb hok hh hl hc h
  | .agg l, ⟨arr, h1, h2, h3⟩ => ⟨arr, h1, by rw [h2, List.length_map], fun j s hj => by
      rw [List.getElem?_map, Option.map_eq_some_iff] at hj
      obtain ⟨s', hj, rfl⟩ := hj
      obtain ⟨u, hu, hr⟩ := h3 j s' hj
      exact ⟨u, hu, R1.frz hb hok hh hl hc hr⟩⟩
theorem RT.frz {o b : Nat} {cs : List S1} {cur : Array Value} (hb : mu o = some (b, cur.size)) (hok : ok true b) (hh : ∃ ty, w.heap[b]? = some (.cells cur ty (0, 0))) (hl : cs.length ≤ cur.size)
    (hc : ∀ (j : Nat) (s : S1), cs[j]? = some s → ∃ u, cur[j]? = some u ∧ R1 w mu ok u s) {v : Value} : ∀ {x : ST}, RT w mu ok v x → RT w mu ok v (x.frz o cs)
  | .v _, h => RV.frz hb hok hh hl hc h
  | .tup l, ⟨arr, h1, h2, h3⟩ => ⟨arr, h1, by rw [h2, List.length_map], fun j s hj => by
      rw [List.getElem?_map, Option.map_eq_some_iff] at hj
      obtain ⟨s', hj, rfl⟩ := hj
      obtain ⟨u, hu, hr⟩ := h3 j s' hj
      exact ⟨u, hu, RV.frz hb hok hh hl hc hr⟩⟩
theorem Inv.freeze (h : Inv w0 ok0 N σ a w) (o : Nat) (ob : SObj) (ho : σ.objs o = some ob) : Inv w0 ok0 N (σ.freeze o ob.cells) a w := by
  obtain ⟨hb0, hs, hdf, mu, hm⟩ := h
  refine ⟨hb0, hs, hdf, mu, ?_⟩
  obtain ⟨b, cur, h1, h2, h3, h4, h5⟩ := hm.objs o ob ho
  have hlt : b < w.heap.size := (Array.getElem?_eq_some_iff.1 h3).1
  have hlive : ∀ o' ob', (σ.freeze o ob.cells).objs o' = some ob' → o' ≠ o ∧ ∃ ob1, σ.objs o' = some ob1 ∧ ob' = { ob1 with cells := ob1.cells.map (S1.frz o ob.cells) } := by
    intro o' ob' hob
    by_cases e : o' = o
    · simp [SS.freeze, e] at hob
    · simp only [SS.freeze, if_neg e, Option.map_eq_some_iff] at hob
      obtain ⟨ob1, g1, g2⟩ := hob
      exact ⟨e, ob1, g1, g2.symm⟩
  have hmo : ∀ fr b', okOf w0 ok0 σ mu w fr b' → okOf w0 ok0 (σ.freeze o ob.cells) mu w fr b' := by
    intro fr b' ⟨g1, g2, g3⟩
    refine ⟨g1, g2, fun o' ob' c' hob => ?_⟩
    obtain ⟨_, ob1, k1, _⟩ := hlive o' ob' hob
    exact g3 o' ob1 c' k1
  have hokb : okOf w0 ok0 (σ.freeze o ob.cells) mu w true b := by
    refine ⟨Or.inr h2, hlt, fun o' ob' c' hob hmu => ?_⟩
    obtain ⟨e, ob1, k1, _⟩ := hlive o' ob' hob
    exact e (hm.inj o' o ob1 ob b c' cur.size k1 ho hmu h1)
  have hc : ∀ (j : Nat) (s : S1), ob.cells[j]? = some s → ∃ u, cur[j]? = some u ∧ R1 w mu (okOf w0 ok0 (σ.freeze o ob.cells) mu w) u s := fun j s hj => by
    obtain ⟨u, hu, hr⟩ := h5 j s hj
    exact ⟨u, hu, R1.mono hmo (fun _ _ _ => rfl) (fun _ _ h => h) hr⟩
  refine ⟨fun t => ?_, fun o' ob' hob => ?_, fun o1 o2 ob1 ob2 b1 c1 c2 g1 g2 g3 g4 => ?_, fun o1 hno => ?_, hm.lent, hm.ext.step (σ' := σ.freeze o ob.cells) rfl (HS.refl w) hmo (fun _ _ _ => rfl) (fun _ _ h => h) hb0.size (fun _ h => h.elim)⟩
  · exact RT.frz h1 hokb ⟨_, h3⟩ h4 hc (RT.mono hmo (fun _ _ _ => rfl) (fun _ _ h => h) (hm.tmps t))
  · obtain ⟨e, ob1, k1, rfl⟩ := hlive o' ob' hob
    obtain ⟨b2, cur2, g1, g2, g3, g4, g5⟩ := hm.objs o' ob1 k1
    refine ⟨b2, cur2, g1, g2, g3, by simpa using g4, fun j s hj => ?_⟩
    simp only [List.getElem?_map, Option.map_eq_some_iff] at hj
    obtain ⟨s', hj, rfl⟩ := hj
    obtain ⟨u, hu, hr⟩ := g5 j s' hj
    exact ⟨u, hu, R1.frz h1 hokb ⟨_, h3⟩ h4 hc (R1.mono hmo (fun _ _ _ => rfl) (fun _ _ h => h) hr)⟩
  · obtain ⟨_, p1, k1, _⟩ := hlive o1 ob1 g1
    obtain ⟨_, p2, k2, _⟩ := hlive o2 ob2 g2
    exact hm.inj o1 o2 p1 p2 b1 c1 c2 k1 k2 g3 g4
  · have := hm.fresh o1 hno
    refine ⟨?_, this.2⟩
    simp only [SS.freeze]
    split
    · rfl
    · rw [this.1]; rfl
end
end Go.Proofs.YtaljbebkooppiaaGreat.Sh

namespace Go.Proofs.YtaljbebkooppiaaGreat.Sh
open Go Go.RowKit
abbrev I (k : IntKind) (n : Int) : ST := .v (.one (.int k n))
abbrev B (b : Bool) : ST := .v (.one (.bool b))
/-! ### Types -/
inductive TyK where
  | cell
  | int (k : IntKind)
  | str
  | bool
  | struct (fs : List (Nat × Nat))
  | arr (n e z : Nat)
  | slice (e z : Nat)
structure TyI where
  size : Nat
  bytes : Nat
  kind : TyK
  zero : List Value
def TyI.agg (τ : TyI) : Bool := match τ.kind with | .struct _ => true | .arr _ _ _ => true | _ => false
def kindOf (P : Program) : TypeDesc → TyK
  | .int k => .int k
  | .string => .str
  | .bool => .bool
  | .struct fs => .struct (fs.toList.map fun f => (f.offset, P.cellsOf f.type))
  | .array n e => .arr n e (P.cellsOf e)
  | .slice e => .slice e (P.cellsOf e)
  | _ => .cell
def tyOf (P : Program) (t : Nat) : Option TyI :=
  match P.info? t, P.underlying t with
  | some i, some d => some { size := i.size, bytes := i.bytes, kind := kindOf P d, zero := (i.zero.map fun z => z.cells.toList).getD [] }
  | _, _ => none
theorem tyOf_some {P : Program} {t : Nat} {τ : TyI} (h : tyOf P t = some τ) : ∃ i d, P.info? t = some i ∧ P.underlying t = some d ∧ i.size = τ.size ∧ i.bytes = τ.bytes ∧ kindOf P d = τ.kind ∧ (i.zero.map fun z => z.cells.toList).getD [] = τ.zero := by
  unfold tyOf at h
  split at h
  · rename_i i d h1 h2
    cases h
    exact ⟨i, d, h1, h2, rfl, rfl, rfl, rfl⟩
  · cases h
/-! ### Operands -/
def ofVal1 : Value → S1
  | .int k n => .int k n
  | .bool b => .bool b
  | .string s => .str s
  | .slice none 0 0 => .nils
  | .pointer none => .val (.pointer none)
  | _ => .any
def ofVal : Value → ST
  | .agg arr => .v (.agg (arr.toList.map ofVal1))
  | v => .v (.one (ofVal1 v))
def SS.ev (σ : SS) : Operand → ST
  | .tmp t => σ.t t
  | .const v => ofVal v
  | .func f => .v (.one (.fn f []))
  | _ => .any
section
variable {w0 : W0} {w w' : World} {ok0 : Bool → Nat → Prop} {N : Nat} {σ σ' : SS} {a : Act} {mu mu' : Nat → Option (Nat × Nat)} {ok : Bool → Nat → Prop} {P : Program}
theorem R1_ofVal1 (v : Value) : R1 w mu ok v (ofVal1 v) := by
  unfold ofVal1
  split
  · exact .c (.int _ _)
  · exact .c (.bool _)
  · exact .c (.str _)
  · exact .c .nils
  · exact .c (.val _ rfl)
  · exact .c (.any _)
theorem RT_ofVal (v : Value) : RT w mu ok v (ofVal v) := by
  unfold ofVal
  split
  · rename_i arr
    refine ⟨arr, rfl, by simp, fun j s hj => ?_⟩
    rw [List.getElem?_map, Option.map_eq_some_iff] at hj
    obtain ⟨u, hu, rfl⟩ := hj
    exact ⟨u, by simpa using hu, R1_ofVal1 u⟩
  · exact R1_ofVal1 _
structure IM (w0 : W0) (ok0 : Bool → Nat → Prop) (N : Nat) (σ : SS) (mu : Nat → Option (Nat × Nat)) (a : Act) (w : World) : Prop where
  below : Bel w0 w
  size : a.tmps.size = N
  defers : DefOK w0 a.defers w
  m : InvM w0 ok0 σ mu a w
theorem Inv.im (h : Inv w0 ok0 N σ a w) : ∃ mu, IM w0 ok0 N σ mu a w := by
  obtain ⟨h1, h2, h3, mu, hm⟩ := h
  exact ⟨mu, h1, h2, h3, hm⟩
theorem IM.inv (h : IM w0 ok0 N σ mu a w) : Inv w0 ok0 N σ a w := ⟨h.below, h.size, h.defers, mu, h.m⟩
theorem IM.ev (h : IM w0 ok0 N σ mu a w) (x : Operand) : RT w mu (okOf w0 ok0 σ mu w) (a.eval x) (σ.ev x) := by
  cases x with
  | tmp t => exact h.m.tmps t
  | const v => exact RT_ofVal v
  | global g => exact RT.any _
  | func f => exact R1.c (.fn f [] #[] rfl (fun j s h => by simp at h))
theorem IM.int (h : IM w0 ok0 N σ mu a w) {x : Operand} {k : IntKind} {n : Int} (e : σ.ev x = I k n) : a.eval x = .int k n := by
  have := h.ev x
  rw [e] at this
  generalize a.eval x = v at this
  cases this with | c this => cases this; rfl
theorem IM.bool (h : IM w0 ok0 N σ mu a w) {x : Operand} {b : Bool} (e : σ.ev x = B b) : a.eval x = .bool b := by
  have := h.ev x
  rw [e] at this
  generalize a.eval x = v at this
  cases this with | c this => cases this; rfl
/-! ### Integers -/
def bitsOf (op : BinOp) (k : IntKind) (x y : Int) : Int :=
  match op with
  | .and => k.wrap (BitVec.ofInt k.bits x &&& BitVec.ofInt k.bits y).toNat
  | .or => k.wrap (BitVec.ofInt k.bits x ||| BitVec.ofInt k.bits y).toNat
  | .xor => k.wrap (BitVec.ofInt k.bits x ^^^ BitVec.ofInt k.bits y).toNat
  | _ => k.wrap (BitVec.ofInt k.bits x &&& ~~~(BitVec.ofInt k.bits y)).toNat
def sInt (op : BinOp) (k : IntKind) (x y : Int) : Option S1 :=
  match op with
  | .add => some (.int k (k.wrap (x + y)))
  | .sub => some (.int k (k.wrap (x - y)))
  | .mul => some (.int k (k.wrap (x * y)))
  | .quo => if y = 0 then none else some (.int k (k.wrap (x.tdiv y)))
  | .rem => if y = 0 then none else some (.int k (x.tmod y))
  | .and => some (.int k (bitsOf .and k x y))
  | .or => some (.int k (bitsOf .or k x y))
  | .xor => some (.int k (bitsOf .xor k x y))
  | .andNot => some (.int k (bitsOf .andNot k x y))
  | .eql => some (.bool (x == y))
  | .neq => some (.bool (x != y))
  | .lss => some (.bool (decide (x < y)))
  | .leq => some (.bool (decide (x ≤ y)))
  | .gtr => some (.bool (decide (x > y)))
  | .geq => some (.bool (decide (x ≥ y)))
  | .shl => none
  | .shr => none
def sBin (op : BinOp) : ST → ST → Option S1
  | .v (.one (.int k x)), .v (.one (.int k' y)) =>
    match op with
    | .shl => if y < 0 then none else some (.int k (k.wrap (x * 2 ^ (min y.toNat k.bits))))
    | .shr => if y < 0 then none else some (.int k (x.fdiv (2 ^ (min y.toNat k.bits))))
    | op => if k = k' then sInt op k x y else none
  | .v (.one (.str x)), .v (.one (.str y)) =>
    match op with
    | .add => if x.size + y.size ≤ 140737488355328 then some (.str (x ++ y)) else none
    | .eql => some (.bool (x.toList == y.toList))
    | .neq => some (.bool (!(x.toList == y.toList)))
    | _ => none
  | _, _ => none
def sUn (op : UnOp) : ST → Option S1
  | .v (.one (.int k x)) => match op with | .neg => some (.int k (k.wrap (0 - x))) | _ => none
  | .v (.one (.bool b)) => match op with | .not => some (.bool !b) | _ => none
  | _ => none
theorem run_sInt {op : BinOp} {k : IntKind} {x y : Int} {s : S1} (h : sInt op k x y = some s) (t : Nat) :
    ∃ v, (binOp op t (.int k x) (.int k y)).run P w = .ok v w ∧ R1 w mu ok v s := by
  cases op <;> simp only [sInt] at h
  case shl => cases h
  case shr => cases h
  case quo =>
    split at h
    · cases h
    · rename_i hy; cases h; refine ⟨_, ?_, .c (.int _ _)⟩; simp [binOp, Op.intDiv, hy]
  case rem =>
    split at h
    · cases h
    · rename_i hy; cases h; refine ⟨_, ?_, .c (.int _ _)⟩; simp [binOp, Op.intDiv, hy]
  all_goals
    cases h
    first
      | (refine ⟨_, ?_, .c (.int _ _)⟩; unfold binOp; simp only [ne_eq, not_true_eq_false, if_false]; rfl)
      | (refine ⟨_, ?_, .c (.bool _)⟩; unfold binOp; simp only [ne_eq, not_true_eq_false, if_false]; rfl)
theorem run_sBin {op : BinOp} {X Y : Value} {x y : ST} {s : S1} (h : sBin op x y = some s) (hx : RT w mu ok X x) (hy : RT w mu ok Y y) (t : Nat) (p q : Operand) :
    ∃ v, (do eqGuard op t p q X Y; binOp op t X Y : Sem Value).run P w = .ok v w ∧ R1 w mu ok v s := by
  unfold sBin at h
  split at h
  · rename_i k a k' b
    obtain hx := hx.c0 (by rfl); obtain hy := hy.c0 (by rfl)
    cases hx; cases hy
    have hg : (eqGuard op t p q (.int k a) (.int k' b)).run P w = .ok () w := by
      unfold eqGuard; cases op <;> simp
    split at h
    · split at h
      · cases h
      · rename_i hy; cases h
        refine ⟨_, ?_, .c (.int _ _)⟩; simp [hg, binOp, Op.shift, hy]
    · split at h
      · cases h
      · rename_i hy; cases h
        refine ⟨_, ?_, .c (.int _ _)⟩; simp [hg, binOp, Op.shift, hy]
    · split at h
      · rename_i hk; subst hk
        obtain ⟨v, hv, hr⟩ := run_sInt (P := P) (w := w) (mu := mu) (ok := ok) h t
        exact ⟨v, by simp [hg, hv], hr⟩
      · cases h
  · obtain hx := hx.c0 (by rfl); obtain hy := hy.c0 (by rfl)
    cases hx; cases hy
    rename_i a b
    have hg : (eqGuard op t p q (.string a) (.string b)).run P w = .ok () w := by
      unfold eqGuard; cases op <;> simp
    split at h
    · split at h
      · rename_i hl
        cases h
        have hn : ¬ ((a.size + b.size : Nat) : Int) > IntKind.i64.max := by
          rw [show IntKind.i64.max = 9223372036854775807 from rfl]; omega
        refine ⟨_, ?_, .c (.str _)⟩
        simp only [Sem.run_bind, hg, Result.andThen_ok, binOp, Op.stringOp, if_neg hn]; rfl
      · cases h
    · cases h; refine ⟨_, ?_, .c (.bool _)⟩; simp only [Sem.run_bind, hg, Result.andThen_ok, binOp]; rfl
    · cases h; refine ⟨_, ?_, .c (.bool _)⟩; simp only [Sem.run_bind, hg, Result.andThen_ok, binOp]; rfl
    · cases h
  · cases h
theorem run_sUn {op : UnOp} {X : Value} {x : ST} {s : S1} (h : sUn op x = some s) (hx : RT w mu ok X x) : ∃ v, (Op.unary op X).run P w = .ok v w ∧ R1 w mu ok v s := by
  unfold sUn at h
  split at h
  · obtain hx := hx.c0 (by rfl)
    cases hx
    split at h
    · cases h; refine ⟨_, ?_, .c (.int _ _)⟩; rfl
    · cases h
  · obtain hx := hx.c0 (by rfl)
    cases hx
    split at h
    · cases h; refine ⟨_, ?_, .c (.bool _)⟩; rfl
    · cases h
  · cases h
end
end Go.Proofs.YtaljbebkooppiaaGreat.Sh

namespace Go.Proofs.YtaljbebkooppiaaGreat.Sh
open Go Go.RowKit
section
variable {w0 : W0} {w w' : World} {ok0 : Bool → Nat → Prop} {N : Nat} {σ σ' : SS} {a : Act} {mu mu' : Nat → Option (Nat × Nat)} {ok : Bool → Nat → Prop} {P : Program}
theorem add_none (b off n : Nat) : (⟨b, off, none⟩ : Addr).add n = ⟨b, off + n, none⟩ := by
  unfold Addr.add
  split
  · rename_i h; subst h; rfl
  · rfl
def SS.at (σ : SS) : ST → Option (List S1)
  | .v (.one (.rp _ cs)) => some cs
  | .v (.one (.mp o off)) => (σ.objs o).map fun ob => ob.cells.drop off
  | _ => none
theorem IM.at (h : IM w0 ok0 N σ mu a w) {v : Value} {x : ST} (hx : RT w mu (okOf w0 ok0 σ mu w) v x) {cs : List S1} (hc : σ.at x = some cs) :
    ∃ (b off : Nat) (f : Nat → Value), v = .pointer (some ⟨b, off, none⟩) ∧ ∀ (j : Nat) (s : S1), cs[j]? = some s → w.cell? ⟨b, off + j, none⟩ = some (f j) ∧ R1 w mu (okOf w0 ok0 σ mu w) (f j) s := by
  unfold SS.at at hc
  split at hc
  · cases hc
    have hx := R1.c0 hx rfl
    cases hx with
    | rp fr cs b off f hok hcell hr => exact ⟨b, off, f, rfl, fun j s hj => ⟨hcell j s hj, .c (hr j s hj)⟩⟩
  · rename_i o off
    rw [Option.map_eq_some_iff] at hc
    obtain ⟨ob, ho, rfl⟩ := hc
    obtain ⟨b, cur, h1, h2, h3, h4, h5⟩ := h.m.objs o ob ho
    cases hx with
    | c hx => cases hx
    | mp _ _ b' cc hm =>
      rw [h1] at hm
      obtain ⟨rfl, _⟩ := Prod.mk.inj (Option.some.inj hm)
      refine ⟨b, off, fun j => cur[off + j]?.getD undef, rfl, fun j s hj => ?_⟩
      rw [List.getElem?_drop] at hj
      obtain ⟨u, hu, hr⟩ := h5 (off + j) s hj
      rw [cell_of_row w b (off + j) cur ob.ty (0, 0) h3]
      simp only [hu, Option.getD_some]
      exact ⟨trivial, hr⟩
  · cases hc
def sLoad (σ : SS) (τ : TyI) (x : ST) : Option SV :=
  match σ.at x with
  | some cs => if τ.agg then (if τ.size ≤ cs.length then some (.agg (cs.take τ.size)) else none) else cs[0]?.map .one
  | none => none
theorem run_isAgg {t : Nat} {τ : TyI} (ht : tyOf P t = some τ) : (isAgg t).run P w = .ok τ.agg w := by
  obtain ⟨i, d, h1, h2, h3, h4, h5, _⟩ := tyOf_some ht
  unfold TyI.agg
  rw [← h5]
  cases d <;> simp [isAgg, underlying, h2, kindOf]
theorem run_sizeOf {t : Nat} {τ : TyI} (ht : tyOf P t = some τ) : (sizeOf t).run P w = .ok τ.size w := by
  obtain ⟨i, d, h1, h2, h3, h4, h5, _⟩ := tyOf_some ht
  simp [sizeOf, typeInfo, h1, h3]
theorem run_load_sh (h : IM w0 ok0 N σ mu a w) {t : Nat} {τ : TyI} (ht : tyOf P t = some τ) {v : Value} {x : ST} (hx : RT w mu (okOf w0 ok0 σ mu w) v x) {r : SV} (hr : sLoad σ τ x = some r) :
    ∃ u, (Instr.loadAt t v).run P w = .ok u w ∧ RV w mu (okOf w0 ok0 σ mu w) u r := by
  unfold sLoad at hr
  split at hr
  · rename_i cs hc
    obtain ⟨b, off, f, rfl, hcell⟩ := h.at hx hc
    have hag := run_isAgg (w := w) ht
    have hsz := run_sizeOf (w := w) ht
    split at hr
    · rename_i hagg
      split at hr
      · rename_i hle
        cases hr
        have hl := run_loadCells (P := P) w ⟨b, off, none⟩ τ.size f (fun j hj => by
          rw [add_none]
          exact (hcell j _ (List.getElem?_eq_getElem (by omega))).1)
        refine ⟨.agg ((List.range τ.size).map f).toArray, by simp [Instr.loadAt, Instr.sureAddr, loadVar, hag, hsz, hl, hagg], ((List.range τ.size).map f).toArray, rfl, by simp [List.length_take]; omega, fun j s hj => ?_⟩
        rw [List.getElem?_take] at hj
        split at hj
        · rename_i hjlt
          refine ⟨f j, ?_, (hcell j s hj).2⟩
          simp [hjlt]
        · cases hj
      · cases hr
    · rename_i hagg
      rw [Option.map_eq_some_iff] at hr
      obtain ⟨s, hs, rfl⟩ := hr
      obtain ⟨h1, h2⟩ := hcell 0 s hs
      rw [Nat.add_zero] at h1
      exact ⟨f 0, by simp [Instr.loadAt, Instr.sureAddr, loadVar, hag, hagg, h1], h2⟩
  · cases hr
def sFieldAddr (τ : TyI) (f : Nat) : ST → Option S1
  | .v (.one (.rp fr cs)) => match τ.kind with
    | .struct fs => match fs[f]? with | some (off, size) => if size = 0 then none else some (.rp fr (cs.drop off)) | none => none
    | _ => none
  | .v (.one (.mp o k)) => match τ.kind with
    | .struct fs => match fs[f]? with | some (off, size) => if size = 0 then none else some (.mp o (k + off)) | none => none
    | _ => none
  | _ => none
theorem struct_of {d : TypeDesc} {fs : List (Nat × Nat)} (hk : kindOf P d = .struct fs) : ∃ gs, d = .struct gs ∧ fs = gs.toList.map fun f => (f.offset, P.cellsOf f.type) := by
  cases d <;> simp [kindOf] at hk
  exact ⟨_, rfl, hk.symm⟩
theorem run_fieldAt {t f : Nat} {τ : TyI} (ht : tyOf P t = some τ) {fs : List (Nat × Nat)} (hk : τ.kind = .struct fs) {off size : Nat} (hf : fs[f]? = some (off, size)) (hs : size ≠ 0) (b k : Nat) :
    (Instr.fieldAt t (.pointer (some ⟨b, k, none⟩)) f).run P w = .ok (.pointer (some ⟨b, k + off, none⟩)) w := by
  obtain ⟨i, d, h1, h2, h3, h4, h5, _⟩ := tyOf_some ht
  rw [hk] at h5
  obtain ⟨gs, rfl, rfl⟩ := struct_of h5
  rw [List.getElem?_map, Option.map_eq_some_iff] at hf
  obtain ⟨g, hg, hg2⟩ := hf
  obtain ⟨rfl, rfl⟩ := Prod.mk.inj hg2
  have hg' : gs[f]? = some g := by simpa using hg
  have hz : (sizeOf g.type).run P w = .ok (P.cellsOf g.type) w := by
    cases hi : P.info? g.type with
    | none => simp [Program.cellsOf, hi] at hs
    | some j => simp [sizeOf, typeInfo, hi, Program.cellsOf]
  simp [Instr.fieldAt, underlying, h2, hg', Instr.sureAddr, fieldPlace, hz, hs, add_none]
theorem run_fieldAddr_sh {t f : Nat} {τ : TyI} (ht : tyOf P t = some τ) {v : Value} {x : ST} (hx : RT w mu ok v x) {s : S1} (hs : sFieldAddr τ f x = some s) :
    ∃ u, (Instr.fieldAt t v f).run P w = .ok u w ∧ R1 w mu ok u s := by
  unfold sFieldAddr at hs
  split at hs
  · rename_i fr cs
    split at hs
    · rename_i fs hk
      split at hs
      · rename_i off size hf
        split at hs
        · cases hs
        · rename_i hz
          cases hs
          have hx := R1.c0 hx rfl
          cases hx with
          | rp _ _ b k g hok hc hr =>
            refine ⟨_, run_fieldAt ht hk hf hz b k, .c (.rp fr (cs.drop off) b (k + off) (fun j => g (off + j)) hok (fun j s hj => ?_) (fun j s hj => ?_))⟩
            · rw [List.getElem?_drop] at hj
              rw [Nat.add_assoc]; exact hc _ s hj
            · rw [List.getElem?_drop] at hj
              exact hr _ s hj
      · cases hs
    · cases hs
  · rename_i o k
    split at hs
    · rename_i fs hk
      split at hs
      · rename_i off size hf
        split at hs
        · cases hs
        · rename_i hz
          cases hs
          cases hx with
          | c hx => cases hx
          | mp _ _ b cc hm => exact ⟨_, run_fieldAt ht hk hf hz b k, .mp o (k + off) b cc hm⟩
      · cases hs
    · cases hs
  · cases hs
def sIndexAddr (τ : TyI) (i : Int) : ST → Option (Nat × S1)
  | .v (.one (.sl fr e rows)) => match τ.kind with
    | .slice _ z => if z = e ∧ z ≠ 0 then some (rows.length, .rp fr (rows[i.toNat]?.getD [])) else none
    | _ => none
  | .v (.one (.ms o off len e _)) => match τ.kind with
    | .slice _ z => if z = e ∧ z ≠ 0 then some (len, .mp o (off + i.toNat * e)) else none
    | _ => none
  | .v (.one (.mp o off)) => match τ.kind with
    | .arr n _ z => if z ≠ 0 then some (n, .mp o (off + i.toNat * z)) else none
    | _ => none
  | .v (.one (.rp fr cs)) => match τ.kind with
    | .arr n _ z => if z ≠ 0 then some (n, .rp fr (cs.drop (i.toNat * z))) else none
    | _ => none
  | _ => none
theorem slice_of {d : TypeDesc} {e z : Nat} (hk : kindOf P d = .slice e z) : d = .slice e ∧ P.cellsOf e = z := by
  cases d <;> simp [kindOf] at hk
  exact ⟨by rw [hk.1], by rw [← hk.1]; exact hk.2⟩
theorem str_of {d : TypeDesc} (hk : kindOf P d = .str) : d = .string := by
  cases d <;> simp [kindOf] at hk
  rfl
theorem arr_of {d : TypeDesc} {n e z : Nat} (hk : kindOf P d = .arr n e z) : d = .array n e ∧ P.cellsOf e = z := by
  cases d <;> simp [kindOf] at hk
  exact ⟨by rw [hk.1, hk.2.1], by rw [← hk.2.1]; exact hk.2.2⟩
theorem run_cellsOf {t z : Nat} (h : P.cellsOf t = z) (hz : z ≠ 0) : (sizeOf t).run P w = .ok z w := by
  cases hi : P.info? t with
  | none => simp [Program.cellsOf, hi] at h; exact absurd h.symm hz
  | some i => simp [sizeOf, typeInfo, hi, ← h, Program.cellsOf]
theorem run_indexAddr_sh {t : Nat} {τ : TyI} (ht : tyOf P t = some τ) {v : Value} {x : ST} (hx : RT w mu ok v x) {k : IntKind} {i : Int} {n : Nat} {s : S1}
    (hs : sIndexAddr τ i x = some (n, s)) (h0 : 0 ≤ i) (h1 : i < n) : ∃ u, (Instr.indexAt t v (.int k i)).run P w = .ok u w ∧ R1 w mu ok u s := by
  obtain ⟨ti, d, g1, g2, g3, g4, g5, _⟩ := tyOf_some ht
  unfold sIndexAddr at hs
  split at hs
  · rename_i fr e rows
    split at hs
    · rename_i te z hk
      rw [hk] at g5
      obtain ⟨rfl, hz⟩ := slice_of g5
      split at hs
      · rename_i hee
        obtain ⟨rfl, hz0⟩ := hee
        have hsz := run_cellsOf (w := w) hz hz0
        obtain ⟨rfl, rfl⟩ := Prod.mk.inj (Option.some.inj hs)
        have hx := R1.c0 hx rfl
        cases hx with
        | nilsl => simp at h1; omega
        | emp => simp at h1; omega
        | sl _ _ _ b off cap f hcap hlen hok hrow hc hr =>
          have hlt : i.toNat < rows.length := by omega
          have hget := List.getElem?_eq_getElem hlt
          refine ⟨.pointer (some ⟨b, off + i.toNat * z, none⟩), by simp [Instr.indexAt, asIntOf, underlying, g2, h0, h1, hsz, add_none], ?_⟩
          rw [hget, Option.getD_some]
          refine .c (.rp fr _ b _ (fun j => f i.toNat j) (hok (by rintro rfl; simp at hlt)) (fun j s hj => ?_) (fun j s hj => hr i.toNat _ hget j s hj))
          rw [Nat.add_assoc]; exact hc i.toNat _ hget j s hj
      · cases hs
    · cases hs
  · rename_i o off len e full
    split at hs
    · rename_i te z hk
      rw [hk] at g5
      obtain ⟨rfl, hz⟩ := slice_of g5
      split at hs
      · rename_i hee
        obtain ⟨rfl, hz0⟩ := hee
        have hsz := run_cellsOf (w := w) hz hz0
        obtain ⟨rfl, rfl⟩ := Prod.mk.inj (Option.some.inj hs)
        cases hx with
        | c hx => cases hx
        | ms _ _ _ _ _ b cc cap off' hm hcap hlen hin hfull hoff =>
          rw [hoff (Or.inl (by omega))]
          exact ⟨.pointer (some ⟨b, off + i.toNat * z, none⟩), by simp [Instr.indexAt, asIntOf, underlying, g2, h0, h1, hsz, add_none], .mp o _ b cc hm⟩
      · cases hs
    · cases hs
  · rename_i o off
    split at hs
    · rename_i m te z hk
      rw [hk] at g5
      obtain ⟨rfl, hz⟩ := arr_of g5
      split at hs
      · rename_i hz0
        have hsz := run_cellsOf (w := w) hz hz0
        obtain ⟨rfl, rfl⟩ := Prod.mk.inj (Option.some.inj hs)
        cases hx with
        | c hx => cases hx
        | mp _ _ b cc hm => exact ⟨.pointer (some ⟨b, off + i.toNat * z, none⟩), by simp [Instr.indexAt, Instr.sureAddr, asIntOf, underlying, g2, h0, h1, hsz, add_none], .mp o _ b cc hm⟩
      · cases hs
    · cases hs
  · rename_i fr cs
    split at hs
    · rename_i m te z hk
      rw [hk] at g5
      obtain ⟨rfl, hz⟩ := arr_of g5
      split at hs
      · rename_i hz0
        have hsz := run_cellsOf (w := w) hz hz0
        obtain ⟨rfl, rfl⟩ := Prod.mk.inj (Option.some.inj hs)
        have hx := R1.c0 hx rfl
        cases hx with
        | rp _ _ b off g hok hc hr =>
          refine ⟨.pointer (some ⟨b, off + i.toNat * z, none⟩), by simp [Instr.indexAt, Instr.sureAddr, asIntOf, underlying, g2, h0, h1, hsz, add_none], .c (.rp fr (cs.drop (i.toNat * z)) b (off + i.toNat * z) (fun j => g (i.toNat * z + j)) hok (fun j s hj => ?_) (fun j s hj => ?_))⟩
          · rw [List.getElem?_drop] at hj
            rw [Nat.add_assoc]; exact hc _ s hj
          · rw [List.getElem?_drop] at hj
            exact hr _ s hj
      · cases hs
    · cases hs
  · cases hs
end
end Go.Proofs.YtaljbebkooppiaaGreat.Sh

