/- The base of the proofs: a ghost heap of facts that stay, lists of what a call's own blocks hold, and rules for each operation over named slots. Plain theorems over any program. -/
import Derived.WalkKit
import Derived.Below
import Derived.Orders
set_option linter.unusedVariables false
set_option linter.unusedSimpArgs false
namespace Go.Proofs.TB
open Go.RowKit

abbrev PH := Nat → Option Obj
def Sub (H : PH) (W : World) : Prop := ∀ b o, H b = some o → W.heap[b]? = some o
def Le (H H' : PH) : Prop := ∀ b o, H b = some o → H' b = some o
theorem Le.refl (H : PH) : Le H H := fun _ _ h => h
theorem Le.trans {A B C : PH} (h : Le A B) (k : Le B C) : Le A C := fun b o e => k b o (h b o e)
def pcell (H : PH) (a : Addr) : Option Value :=
  match H a.block with
  | some (.cells c _ _) => if a.spot.isSome then none else c[a.off]?
  | _ => none
theorem pcell_le {H H' : PH} (h : Le H H') {a : Addr} {v : Value} (e : pcell H a = some v) : pcell H' a = some v := by
  unfold pcell at *
  cases hb : H a.block with
  | none => simp [hb] at e
  | some o => rw [h _ _ hb]; rw [hb] at e; exact e
theorem cell_of {H : PH} {W : World} (h : Sub H W) {a : Addr} {v : Value} (e : pcell H a = some v) : W.cell? a = some v := by
  unfold pcell at e
  unfold World.cell?
  cases hb : H a.block with
  | none => simp [hb] at e
  | some o => rw [h _ _ hb]; rw [hb] at e; exact e
/-- From address a on the cells cs lie. -/
def At (H : PH) (a : Addr) (cs : List Value) : Prop := ∀ j v, cs[j]? = some v → pcell H (a.add j) = some v
theorem At.le {H H' : PH} (h : Le H H') {a : Addr} {cs : List Value} (e : At H a cs) : At H' a cs := fun j v hj => pcell_le h (e j v hj)

/-- What a call owns: a block of cells; a row that may grow (v the slice, n elements of sz cells each, of type e). -/
inductive Own where
  | box (b : Nat) (o : Obj)
  | row (v : Value) (e : TypeId) (sz n : Nat) (xs : List Value)
def Own.blk : Own → Option Nat
  | .box b _ => some b
  | .row v _ _ _ _ => v.ownBlock
def Own.is (base : Nat) (W : World) : Own → Prop
  | .box b o => base ≤ b ∧ W.heap[b]? = some o
  | .row v e sz n xs => W.ownsRow base e sz v n xs
theorem Own.is_lt {base : Nat} {W : World} {x : Own} (h : x.is base W) {k : Nat} (hk : x.blk = some k) : base ≤ k ∧ k < W.heap.size := by
  cases x with
  | box b o =>
    simp only [Own.blk, Option.some.injEq] at hk
    subst hk
    exact ⟨h.1, (Array.getElem?_eq_some_iff.1 h.2).1⟩
  | row v e sz n xs => exact World.ownsRow.lt h k hk
theorem own_move {w w1 : World} {base : Nat} {e : TypeId} {size n : Nat} {v : Value} {xs : List Value} (h : w.ownsRow base e size v n xs) (hm : ∀ k, v.ownBlock = some k → w1.heap[k]? = w.heap[k]?) : w1.ownsRow base e size v n xs := by
  obtain ⟨h1, h2⟩ := h
  refine ⟨h1, ?_⟩
  rcases h2 with h2 | ⟨g, cap, cur, rfl, hg, hh, r⟩
  · exact .inl h2
  · exact .inr ⟨g, cap, cur, rfl, hg, (hm g (by simp [Value.ownBlock])).trans hh, r⟩
theorem Own.is_move {base : Nat} {W W' : World} {x : Own} (h : x.is base W) (hm : ∀ k, x.blk = some k → W'.heap[k]? = W.heap[k]?) : x.is base W' := by
  cases x with
  | box b o => exact ⟨h.1, (hm b rfl).trans h.2⟩
  | row v e sz n xs => exact own_move h hm
/-- What a call's own state says: w0 the world at its begin, H what stays, L what it owns and may change. -/
structure St (w0 W : World) (H0 H : PH) (L : List Own) : Prop where
  sub : Sub H W
  le : Le H0 H
  low : ∀ b, b < w0.heap.size → H b = H0 b
  bel : Below w0.heap.size w0 W
  own : ∀ e ∈ L, e.is w0.heap.size W ∧ ∀ k, e.blk = some k → H k = none
  nd : (L.filterMap Own.blk).Nodup
theorem St.start {w : World} {H : PH} (h : Sub H w) : St w w H H [] :=
  ⟨h, Le.refl _, fun _ _ => rfl, Below.refl _ _, (fun _ he => by cases he), List.nodup_nil⟩
theorem St.lt {w0 W : World} {H0 H : PH} {L} (h : St w0 W H0 H L) {b : Nat} {o : Obj} (e : H b = some o) : b < W.heap.size :=
  (Array.getElem?_eq_some_iff.1 (h.sub b o e)).1
/-- A call, or anything that leaves all that was there. -/
theorem St.grow {w0 W W' : World} {H0 H H' : PH} {L : List Own} (h : St w0 W H0 H L) (k : St W W' H H' []) : St w0 W' H0 H' L where
  sub := k.sub
  le := h.le.trans k.le
  low := fun b hb => (k.low b (Nat.lt_of_lt_of_le hb h.bel.size)).trans (h.low b hb)
  bel := h.bel.trans (k.bel.mono h.bel.size)
  own := fun e he => by
    obtain ⟨h1, h3⟩ := h.own e he
    exact ⟨Own.is_move h1 (fun b hb => k.bel.block _ (Own.is_lt h1 hb).2), fun b hb => (k.low _ (Own.is_lt h1 hb).2).trans (h3 b hb)⟩
  nd := h.nd
/-- Nothing that was there has changed. -/
theorem St.below {w0 W W' : World} {H0 H : PH} {L : List Own} (h : St w0 W H0 H L) (k : Below W.heap.size W W') : St w0 W' H0 H L :=
  h.grow ⟨fun b o e => (k.block b (h.lt e)).trans (h.sub b o e), Le.refl _, fun _ _ => rfl, k, (fun _ he => by cases he), List.nodup_nil⟩
/-- The world has come on by draws alone. -/
theorem St.drawn {w0 W W' : World} {H0 H : PH} {L : List Own} (h : St w0 W H0 H L) (hh : W'.heap = W.heap) (h1 : W'.os = W.os) (h2 : W'.tape = W.tape) (h3 : W'.output = W.output) : St w0 W' H0 H L :=
  h.below ⟨h1, h2, h3, by rw [hh]; exact Nat.le_refl _, fun k _ => by rw [hh]⟩
def put1 (H : PH) (b : Nat) (o : Obj) : PH := fun x => if x = b then some o else H x
theorem put1_self (H : PH) (b : Nat) (o : Obj) : put1 H b o b = some o := by simp [put1]
theorem put1_ne (H : PH) {b k : Nat} (o : Obj) (h : k ≠ b) : put1 H b o k = H k := by simp [put1, h]
theorem le_put1 {H : PH} {b : Nat} (o : Obj) (h : H b = none) : Le H (put1 H b o) := fun x u e => by
  unfold put1
  split
  · rename_i hx; subst hx; rw [h] at e; cases e
  · exact e
theorem heap_new (W : World) (o : Obj) : (W.alloc o).heap[W.heap.size]? = some o := by
  show (W.heap.push o)[W.heap.size]? = _
  rw [Array.getElem?_push, if_pos rfl]
theorem St.fresh {w0 W : World} {H0 H : PH} {L} (h : St w0 W H0 H L) : H W.heap.size = none := by
  cases e : H W.heap.size with
  | none => rfl
  | some o => have := h.lt e; omega
theorem St.blk_lt {w0 W : World} {H0 H : PH} {L} (h : St w0 W H0 H L) {k : Nat} (hk : k ∈ L.filterMap Own.blk) : w0.heap.size ≤ k ∧ k < W.heap.size := by
  obtain ⟨e, he, hb⟩ := List.mem_filterMap.1 hk
  exact Own.is_lt (h.own e he).1 hb
/-- A new block of the call's own. -/
theorem St.allocOwn {w0 W : World} {H0 H : PH} {L : List Own} (h : St w0 W H0 H L) (o : Obj) : St w0 (W.alloc o) H0 H (.box W.heap.size o :: L) where
  sub := fun b u e => (Below.heap_alloc W o b (h.lt e)).trans (h.sub b u e)
  le := h.le
  low := h.low
  bel := h.bel.alloc h.bel.size o
  own := fun e he => by
    rcases List.mem_cons.1 he with rfl | he
    · exact ⟨⟨h.bel.size, heap_new W o⟩, fun k hk => by simp only [Own.blk, Option.some.injEq] at hk; subst hk; exact h.fresh⟩
    · obtain ⟨h1, h3⟩ := h.own e he
      exact ⟨Own.is_move h1 (fun b hb => Below.heap_alloc W o _ (Own.is_lt h1 hb).2), h3⟩
  nd := by
    simp only [List.filterMap_cons, Own.blk, List.nodup_cons]
    refine ⟨fun hm => ?_, h.nd⟩
    have := (h.blk_lt hm).2
    omega
/-- What the call owned is let go: from now on it stays. -/
theorem St.keep {w0 W : World} {H0 H : PH} {b : Nat} {o : Obj} {e : Own} {L : List Own} (h : St w0 W H0 H (e :: L)) (he : e.blk = some b) (ho : W.heap[b]? = some o) : St w0 W H0 (put1 H b o) L where
  sub := fun x u e => by
    unfold put1 at e
    split at e
    · rename_i hx; subst hx; rw [← e]; exact ho
    · exact h.sub x u e
  le := h.le.trans (le_put1 o ((h.own _ List.mem_cons_self).2 b he))
  low := fun x hx => by
    have := (Own.is_lt (h.own _ List.mem_cons_self).1 he).1
    rw [put1_ne _ _ (by omega)]
    exact h.low x hx
  bel := h.bel
  own := fun x hx => by
    obtain ⟨h1, h3⟩ := h.own x (List.mem_cons_of_mem _ hx)
    refine ⟨h1, fun k hk => ?_⟩
    have hnd := h.nd
    rw [List.filterMap_cons, he, List.nodup_cons] at hnd
    rw [put1_ne _ _ (fun e' => hnd.1 (by rw [← e']; exact List.mem_filterMap.2 ⟨x, hx, hk⟩))]
    exact h3 k hk
  nd := by
    have hnd := h.nd
    rw [List.filterMap_cons, he, List.nodup_cons] at hnd
    exact hnd.2
/-- A new block that will not change. -/
theorem St.alloc {w0 W : World} {H0 H : PH} {L : List Own} (h : St w0 W H0 H L) (o : Obj) : St w0 (W.alloc o) H0 (put1 H W.heap.size o) L :=
  (h.allocOwn o).keep rfl (heap_new W o)
theorem St.perm {w0 W : World} {H0 H : PH} {L L' : List Own} (h : St w0 W H0 H L) (hp : L.Perm L') : St w0 W H0 H L' :=
  ⟨h.sub, h.le, h.low, h.bel, fun e he => h.own e (hp.mem_iff.2 he), ((hp.filterMap _).nodup_iff).1 h.nd⟩
theorem St.forget {w0 W : World} {H0 H : PH} {e : Own} {L : List Own} (h : St w0 W H0 H (e :: L)) : St w0 W H0 H L :=
  ⟨h.sub, h.le, h.low, h.bel, fun x hx => h.own x (List.mem_cons_of_mem _ hx), by
    have := h.nd
    rw [List.filterMap_cons] at this
    cases hb : e.blk <;> rw [hb] at this
    · exact this
    · exact (List.nodup_cons.1 this).2⟩
theorem St.front2 {w0 W : World} {H0 H : PH} {a b : Own} {L : List Own} (h : St w0 W H0 H (a :: b :: L)) : St w0 W H0 H (b :: a :: L) := h.perm (List.Perm.swap b a L)
theorem St.front3 {w0 W : World} {H0 H : PH} {a b c : Own} {L : List Own} (h : St w0 W H0 H (a :: b :: c :: L)) : St w0 W H0 H (c :: a :: b :: L) := h.perm ((List.Perm.cons a (List.Perm.swap c b L)).trans (List.Perm.swap c a (b :: L)))
theorem St.front4 {w0 W : World} {H0 H : PH} {a b c d : Own} {L : List Own} (h : St w0 W H0 H (a :: b :: c :: d :: L)) : St w0 W H0 H (d :: a :: b :: c :: L) := h.perm ((List.Perm.cons a ((List.Perm.cons b (List.Perm.swap d c L)).trans (List.Perm.swap d b (c :: L)))).trans (List.Perm.swap d a (b :: c :: L)))
theorem St.bare {w0 W : World} {H0 H : PH} {L : List Own} (h : St w0 W H0 H L) : St w0 W H0 H [] :=
  ⟨h.sub, h.le, h.low, h.bel, (fun _ hx => by cases hx), List.nodup_nil⟩
/-- What the call owns first is another thing now; its block may be a new one. -/
theorem St.turn {w0 W W' : World} {H0 H : PH} {e e' : Own} {L : List Own} (h : St w0 W H0 H (e :: L))
    (h1 : W'.os = W.os) (h2 : W'.tape = W.tape) (h3 : W'.output = W.output) (hsz : W.heap.size ≤ W'.heap.size) (hne : ∀ k, k < W.heap.size → some k ≠ e.blk → W'.heap[k]? = W.heap[k]?)
    (his : e'.is w0.heap.size W') (hb : e'.blk = e.blk ∨ e'.blk = some W.heap.size ∨ e'.blk = none) : St w0 W' H0 H (e' :: L) where
  sub := fun x u eq => by
    refine (hne x (h.lt eq) (fun e' => ?_)).trans (h.sub x u eq)
    rw [(h.own _ List.mem_cons_self).2 x e'.symm] at eq
    cases eq
  le := h.le
  low := h.low
  bel := h.bel.trans ⟨h1, h2, h3, hsz, fun k hk => by
    have hs := h.bel.size
    refine hne k (by omega) (fun e' => ?_)
    have := (Own.is_lt (h.own _ List.mem_cons_self).1 e'.symm).1
    omega⟩
  own := fun x hx => by
    rcases List.mem_cons.1 hx with rfl | hx'
    · refine ⟨his, fun k hk => ?_⟩
      rcases hb with hb | hb | hb
      · rw [hb] at hk; exact (h.own _ List.mem_cons_self).2 k hk
      · rw [hb, Option.some.injEq] at hk; subst hk; exact h.fresh
      · rw [hb] at hk; cases hk
    · obtain ⟨g1, g3⟩ := h.own x (List.mem_cons_of_mem _ hx')
      refine ⟨Own.is_move g1 (fun k hk => hne k (Own.is_lt g1 hk).2 (fun e' => ?_)), g3⟩
      have hnd := h.nd
      rw [List.filterMap_cons, ← e', List.nodup_cons] at hnd
      exact hnd.1 (List.mem_filterMap.2 ⟨x, hx', hk⟩)
  nd := by
    have hnd := h.nd
    rw [List.filterMap_cons] at hnd ⊢
    have hL : (L.filterMap Own.blk).Nodup := by
      cases hb' : e.blk <;> rw [hb'] at hnd
      · exact hnd
      · exact (List.nodup_cons.1 hnd).2
    rcases hb with hb | hb | hb
    · rw [hb]; exact hnd
    · rw [hb]
      refine List.nodup_cons.2 ⟨fun hm => ?_, hL⟩
      have := (h.forget.blk_lt hm).2
      omega
    · rw [hb]; exact hL
/-- A slice that is nil is a row of the call's own. -/
theorem St.rownil {w0 W : World} {H0 H : PH} {L : List Own} (h : St w0 W H0 H L) (e : TypeId) (sz : Nat) : St w0 W H0 H (.row (.slice none 0 0) e sz 0 [] :: L) where
  sub := h.sub
  le := h.le
  low := h.low
  bel := h.bel
  own := fun x hx => by
    rcases List.mem_cons.1 hx with rfl | hx
    · exact ⟨World.ownsRow_nil _ _ _ _, fun k hk => by cases hk⟩
    · exact h.own x hx
  nd := by
    rw [List.filterMap_cons]
    exact h.nd

/-! ### contracts -/
def Spec (P : Program) (f : FuncId) (args : Array Value) (w : World) (H : PH) (Post : PH → Value → Prop) : Prop :=
  Calls P f args w fun e W' => ∃ v H', e = .returned v ∧ St w W' H H' [] ∧ Post H' v
theorem Spec.mono {P : Program} {f : FuncId} {args : Array Value} {w : World} {H : PH} {Post Post' : PH → Value → Prop} (h : Spec P f args w H Post) (hp : ∀ H' v, Le H H' → Post H' v → Post' H' v) : Spec P f args w H Post' :=
  Calls.mono h fun _ _ ⟨v, H', he, hs, hq⟩ => ⟨v, H', he, hs, hp _ _ hs.le hq⟩

/-! ### slots -/
abbrev Env := List (Nat × Value)
def lk : Env → Nat → Option Value
  | [], _ => none
  | (j, v) :: r, i => bif i == j then some v else lk r i
def ev (env : Env) : Operand → Option Value
  | .tmp t => lk env t
  | .const v => some v
  | .global g => some (.pointer (some ⟨g, 0, none⟩))
  | .func f => some (.func (.func f) #[] #[])
structure Holds (N : Nat) (a : Act) (env : Env) : Prop where
  size : a.tmps.size = N
  defers : a.defers = []
  get : ∀ i v, lk env i = some v → a.tmps[i]? = some v
theorem Holds.eval {N : Nat} {a : Act} {env : Env} (h : Holds N a env) {x : Operand} {v : Value} (e : ev env x = some v) : a.eval x = v := by
  cases x with
  | tmp t => simp only [ev] at e; simp [Act.eval, h.get t v e]
  | const u => simp only [ev, Option.some.injEq] at e; exact e
  | global g => simp only [ev, Option.some.injEq] at e; exact e
  | func f => simp only [ev, Option.some.injEq] at e; exact e
theorem Holds.put {N : Nat} {a : Act} {env : Env} (h : Holds N a env) {d : Nat} (hd : Nat.blt d N = true) (v : Value) : Holds N (a.put (some d) v) ((d, v) :: env) where
  size := by simp [Act.put, h.size]
  defers := h.defers
  get := fun i u e => by
    have hd' : d < N := by simpa using hd
    simp only [lk] at e
    by_cases hi : i = d
    · subst hi
      simp only [beq_self_eq_true, cond_true, Option.some.injEq] at e
      subst e
      simp [Act.put, h.size, hd']
    · have : (i == d) = false := by simpa using hi
      rw [this, cond_false] at e
      simp only [Act.put]
      rw [Array.getElem?_setIfInBounds_ne (by omega)]
      exact h.get i u e
theorem Holds.put0 {N : Nat} {a : Act} {env : Env} (h : Holds N a env) (v : Value) : Holds N (a.put none v) env := h
/-- Only some slots are looked at from here on. -/
theorem Holds.weak {N : Nat} {a : Act} {env env' : Env} (h : Holds N a env) (hs : ∀ i v, lk env' i = some v → lk env i = some v) : Holds N a env' := ⟨h.size, h.defers, fun i v e => h.get i v (hs i v e)⟩
theorem lkq {env : Env} {i : Nat} {u v : Value} (h : lk env i = some u) (e : u = v) : lk env i = some v := by rw [h, e]
def sub (env' env : Env) : Prop := ∀ p ∈ env', lk env p.1 = some p.2
theorem sub.nil (env : Env) : sub [] env := fun _ h => by cases h
theorem sub.cons {env' env : Env} {i : Nat} {v : Value} (h : lk env i = some v) (hs : sub env' env) : sub ((i, v) :: env') env := fun p hp => by
  rcases List.mem_cons.1 hp with rfl | hp
  · exact h
  · exact hs p hp
theorem Holds.sub {N : Nat} {a : Act} {env env' : Env} (h : Holds N a env) (hs : sub env' env) : Holds N a env' := by
  refine h.weak (fun i v e => ?_)
  induction env' with
  | nil => cases e
  | cons p r ih =>
    obtain ⟨j, u⟩ := p
    simp only [lk] at e
    by_cases hi : i = j
    · subst hi
      simp only [beq_self_eq_true, cond_true, Option.some.injEq] at e
      subst e
      exact hs (i, u) List.mem_cons_self
    · have : (i == j) = false := by simpa using hi
      rw [this, cond_false] at e
      exact ih (fun p hp => hs p (List.mem_cons_of_mem _ hp)) e
/-- A slot is known to hold the same, told otherwise. -/
theorem Holds.again {N : Nat} {a : Act} {env : Env} (h : Holds N a env) {t : Nat} {v u : Value} (e : lk env t = some v) (huv : v = u) : Holds N a ((t, u) :: env) := by
  refine h.weak (fun i x ex => ?_)
  simp only [lk] at ex
  by_cases hi : i = t
  · subst hi
    simp only [beq_self_eq_true, cond_true, Option.some.injEq] at ex
    rw [← ex, ← huv]
    exact e
  · have : (i == t) = false := by simpa using hi
    rw [this, cond_false] at ex
    exact ex

/-! ### a region's operations, in the text's order -/
def WL (P : Program) (ops : Array Oper) (Q : Exit → Act → World → Prop) (rest : List Oper) (N : Nat) (env : Env) (W : World) : Prop := ∀ a, Holds N a env → wpList P ops Q rest a W
def CW (P : Program) (c : Code) (Q : Exit → Act → World → Prop) (N : Nat) (env : Env) (W : World) : Prop := ∀ a, Holds N a env → c.wp P Q a W
/-- Is an operation wanted? -/
def wn (ops : Array Oper) (env : Env) : Option (Nat × Bool) → Option Bool
  | none => some true
  | some (j, b) => match (ops[j]?).bind (·.dst) with
    | some t => match lk env t with
      | some (.bool x) => some (x == b)
      | some (.tuple _) => some false
      | _ => none
    | none => none
theorem wn_wanted {ops : Array Oper} {env : Env} {N : Nat} {a : Act} (h : Holds N a env) {o : Oper} {b : Bool} (hw : wn ops env o.guard = some b) : Region.wanted o (yielded ops a.tmps) = b := by
  unfold Region.wanted
  cases hg : o.guard with
  | none => rw [hg] at hw; simp only [wn, Option.some.injEq] at hw; exact hw
  | some g =>
    obtain ⟨j, w⟩ := g
    rw [hg] at hw
    simp only [wn] at hw
    cases ht : (ops[j]?).bind (·.dst) with
    | none => rw [ht] at hw; simp at hw
    | some t =>
      rw [ht] at hw
      simp only at hw
      cases hl : lk env t with
      | none => rw [hl] at hw; simp at hw
      | some v =>
        rw [hl] at hw
        have hy := h.get t v hl
        cases v <;> simp only [Option.some.injEq, reduceCtorEq] at hw
        case bool x =>
          simp only [yielded, ht, Option.bind_some, hy]
          rw [← hw]
          cases x <;> cases w <;> rfl
        case tuple x =>
          simp only [yielded, ht, Option.bind_some, hy]
          rw [← hw]
          rfl

/-- One operation: what it comes to. -/
def Op1 (P : Program) (o : Oper) (N : Nat) (env : Env) (W : World) (Post : Value → World → Prop) : Prop :=
  ∀ a, Holds N a env → ∀ (K : Act → World → Prop) (Q : Exit → Act → World → Prop), (∀ v W', Post v W' → K (a.put o.dst v) W') → o.wp P a W K Q
/-- One operation that only reckons or reads. -/
def Pu (P : Program) (o : Oper) (N : Nat) (env : Env) (W : World) (v : Value) : Prop := ∀ a, Holds N a env → (execOp a.eval o).run P W = .ok (.value v) W
theorem Pu.op1 {P : Program} {o : Oper} {N : Nat} {env : Env} {W : World} {v : Value} (h : Pu P o N env W v) : Op1 P o N env W (fun u W' => u = v ∧ W' = W) := by
  intro a ha K Q hK
  unfold Oper.wp
  rw [h a ha]
  exact hK v W ⟨rfl, rfl⟩
def dput (env : Env) : Option Tmp → Value → Env
  | some d, v => (d, v) :: env
  | none, _ => env
def dok (N : Nat) : Option Tmp → Bool
  | some d => Nat.blt d N
  | none => true
theorem Holds.dput {N : Nat} {a : Act} {env : Env} (h : Holds N a env) {d : Option Tmp} (hd : dok N d = true) (v : Value) : Holds N (a.put d v) (dput env d v) := by
  cases d with
  | none => exact h
  | some d => exact h.put hd v
section
variable {P : Program} {ops : Array Oper} {Q : Exit → Act → World → Prop} {rest : List Oper} {N : Nat} {env : Env} {W : World} {o : Oper}
theorem WL.nil (h : ∀ a, Holds N a env → Q .normal a W) : WL P ops Q [] N env W := fun a ha => wpList_nil (h a ha)
theorem WL.op {Post : Value → World → Prop} (hw : wn ops env o.guard = some true) (hd : dok N o.dst = true) (h : Op1 P o N env W Post) (k : ∀ v W', Post v W' → WL P ops Q rest N (dput env o.dst v) W') : WL P ops Q (o :: rest) N env W := by
  intro a ha
  refine wpList_step (fun K hK => ?_)
  rw [wn_wanted ha hw, if_pos rfl]
  exact h a ha K Q (fun v W' hp => hK _ _ (k v W' hp _ (ha.dput hd v)))
theorem WL.pu {d : Tmp} {op : Op} {ty : TypeId} {pos : String} {aft : Array Edge} {g : Option (Nat × Bool)} {v : Value} (hw : wn ops env g = some true) (hd : Nat.blt d N = true) (h : Pu P ⟨some d, op, ty, pos, aft, g⟩ N env W v) (k : WL P ops Q rest N ((d, v) :: env) W) : WL P ops Q (⟨some d, op, ty, pos, aft, g⟩ :: rest) N env W :=
  WL.op hw hd h.op1 (fun u W' ⟨hu, hW⟩ => by subst hu; subst hW; exact k)
/-- Not wanted: the slot holds nothing. -/
theorem WL.off {d : Tmp} {op : Op} {ty : TypeId} {pos : String} {aft : Array Edge} {g : Option (Nat × Bool)} (hw : wn ops env g = some false) (hd : Nat.blt d N = true) (k : WL P ops Q rest N ((d, undef) :: env) W) : WL P ops Q (⟨some d, op, ty, pos, aft, g⟩ :: rest) N env W := by
  intro a ha
  refine wpList_step (fun K hK => ?_)
  rw [wn_wanted ha hw, if_neg (by decide)]
  exact hK _ _ (k _ (ha.put hd undef))
theorem WL.offn {op : Op} {ty : TypeId} {pos : String} {aft : Array Edge} {g : Option (Nat × Bool)} (hw : wn ops env g = some false) (k : WL P ops Q rest N env W) : WL P ops Q (⟨none, op, ty, pos, aft, g⟩ :: rest) N env W := by
  intro a ha
  refine wpList_step (fun K hK => ?_)
  rw [wn_wanted ha hw, if_neg (by decide)]
  exact hK _ _ (k _ ha)
theorem WL.split {x : Bool} (t : Nat) (ht : lk env t = some (.bool x)) (h1 : x = true → WL P ops Q rest N ((t, .bool true) :: env) W) (h0 : x = false → WL P ops Q rest N ((t, .bool false) :: env) W) : WL P ops Q rest N env W := by
  intro a ha
  cases hx : x with
  | true => exact h1 hx a (ha.again ht (by rw [hx]))
  | false => exact h0 hx a (ha.again ht (by rw [hx]))
theorem WL.splitP {x : Bool} {p q : Prop} (t : Nat) (ht : lk env t = some (.bool x)) (hp : x = true → p) (hq : x = false → q) (h1 : p → WL P ops Q rest N ((t, .bool true) :: env) W) (h0 : q → WL P ops Q rest N ((t, .bool false) :: env) W) : WL P ops Q rest N env W :=
  WL.split t ht (fun e => h1 (hp e)) (fun e => h0 (hq e))
/-- A truth that is known by now. -/
theorem WL.kn {x b : Bool} (t : Nat) (ht : lk env t = some (.bool x)) (e : x = b) (k : WL P ops Q rest N ((t, .bool b) :: env) W) : WL P ops Q rest N env W := fun a ha => k a (ha.again ht (by rw [e]))
/-- A slot is told otherwise. -/
theorem WL.re {u v : Value} (t : Nat) (ht : lk env t = some u) (e : u = v) (k : WL P ops Q rest N ((t, v) :: env) W) : WL P ops Q rest N env W := fun a ha => k a (ha.again ht e)
end
theorem dT {p : Prop} [Decidable p] (h : decide p = true) : p := of_decide_eq_true h
theorem dF {p : Prop} [Decidable p] (h : decide p = false) : ¬ p := of_decide_eq_false h
theorem nT {p : Prop} [Decidable p] (h : (!decide p) = true) : ¬ p := by simpa using h
theorem nF {p : Prop} [Decidable p] (h : (!decide p) = false) : p := by simpa using h
theorem rT {x : Bool} (h : x = true) : x = true := h
theorem rF {x : Bool} (h : x = false) : ¬ x = true := by rw [h]; decide
theorem mT {x : Bool} (h : (!x) = true) : ¬ x = true := by simpa using h
theorem mF {x : Bool} (h : (!x) = false) : x = true := by simpa using h
theorem kdT {p : Prop} [Decidable p] (h : p) : decide p = true := decide_eq_true h
theorem kdF {p : Prop} [Decidable p] (h : ¬ p) : decide p = false := decide_eq_false h
theorem knT {p : Prop} [Decidable p] (h : ¬ p) : (!decide p) = true := by simpa using h
theorem knF {p : Prop} [Decidable p] (h : p) : (!decide p) = false := by simpa using h
theorem krT {x : Bool} (h : x = true) : x = true := h
theorem krF {x : Bool} (h : ¬ x = true) : x = false := by simpa using h
theorem kmT {x : Bool} (h : ¬ x = true) : (!x) = true := by simpa using h
theorem kmF {x : Bool} (h : x = true) : (!x) = false := by simpa using h
end Go.Proofs.TB
