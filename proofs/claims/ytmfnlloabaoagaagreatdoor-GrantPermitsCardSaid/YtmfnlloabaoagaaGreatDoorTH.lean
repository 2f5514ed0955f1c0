/- Joins, kept boxes, panics told alike, parts of slices. -/
import Derived.Test.YtmfnlloabaoagaaGreatDoorTG
set_option linter.unusedVariables false
set_option linter.unusedSimpArgs false
namespace Go.Proofs.TB
open Go.RowKit
def lk1 {ρ σ : Type} (x : σ) (k : σ → ρ) : ρ := k x
theorem lk1_eq {ρ σ : Type} {x s : σ} {k : σ → ρ} (h : x = s) : lk1 x k = k s := by subst h; rfl
section
variable {P : Program} {Q Q' : Exit → Act → World → Prop} {N : Nat} {env : Env} {W w0 : World} {K : Act → World → Prop} {H0 H : PH} {L : List Own}
theorem CW.cuts {σ : Type} {c : Code} (M : σ → World → Prop) (E' : σ → Env) (hcut : CW P c (Exit.then (fun a w => ∃ s, M s w ∧ Holds N a (E' s)) Q) N env W) (k : ∀ s W', M s W' → QX .normal Q N (E' s) W') : CW P c Q N env W := fun a ha =>
  Code.wp_mono (fun e a' w' h => by
    cases e with
    | normal => obtain ⟨s, h1, h2⟩ := h; exact k s w' h1 a' h2
    | _ => exact h) (hcut a ha)
theorem QX.meets {σ : Type} {M : σ → World → Prop} {E' : σ → Env} (s : σ) (h : M s W) (hs : sub (E' s) env) : QX .normal (Exit.then (fun a w => ∃ s, M s w ∧ Holds N a (E' s)) Q') N env W := fun a ha => ⟨s, h, ha.sub hs⟩
theorem perm2 {o1 o2 : Own} {L : List Own} : (o1 :: o2 :: L).Perm (o2 :: o1 :: L) := List.Perm.swap _ _ _
theorem perm3 {o1 o2 o3 : Own} {L : List Own} : (o1 :: o2 :: o3 :: L).Perm (o3 :: o1 :: o2 :: L) := (List.Perm.cons _ perm2).trans (List.Perm.swap _ _ _)
theorem perm4 {o1 o2 o3 o4 : Own} {L : List Own} : (o1 :: o2 :: o3 :: o4 :: L).Perm (o4 :: o1 :: o2 :: o3 :: L) := (List.Perm.cons _ perm3).trans (List.Perm.swap _ _ _)
theorem perm5 {o1 o2 o3 o4 o5 : Own} {L : List Own} : (o1 :: o2 :: o3 :: o4 :: o5 :: L).Perm (o5 :: o1 :: o2 :: o3 :: o4 :: L) := (List.Perm.cons _ perm4).trans (List.Perm.swap _ _ _)
theorem perm6 {o1 o2 o3 o4 o5 o6 : Own} {L : List Own} : (o1 :: o2 :: o3 :: o4 :: o5 :: o6 :: L).Perm (o6 :: o1 :: o2 :: o3 :: o4 :: o5 :: L) := (List.Perm.cons _ perm5).trans (List.Perm.swap _ _ _)
theorem perm7 {o1 o2 o3 o4 o5 o6 o7 : Own} {L : List Own} : (o1 :: o2 :: o3 :: o4 :: o5 :: o6 :: o7 :: L).Perm (o7 :: o1 :: o2 :: o3 :: o4 :: o5 :: o6 :: L) := (List.Perm.cons _ perm6).trans (List.Perm.swap _ _ _)
theorem perm8 {o1 o2 o3 o4 o5 o6 o7 o8 : Own} {L : List Own} : (o1 :: o2 :: o3 :: o4 :: o5 :: o6 :: o7 :: o8 :: L).Perm (o8 :: o1 :: o2 :: o3 :: o4 :: o5 :: o6 :: o7 :: L) := (List.Perm.cons _ perm7).trans (List.Perm.swap _ _ _)
theorem perm9 {o1 o2 o3 o4 o5 o6 o7 o8 o9 : Own} {L : List Own} : (o1 :: o2 :: o3 :: o4 :: o5 :: o6 :: o7 :: o8 :: o9 :: L).Perm (o9 :: o1 :: o2 :: o3 :: o4 :: o5 :: o6 :: o7 :: o8 :: L) := (List.Perm.cons _ perm8).trans (List.Perm.swap _ _ _)
theorem perm10 {o1 o2 o3 o4 o5 o6 o7 o8 o9 o10 : Own} {L : List Own} : (o1 :: o2 :: o3 :: o4 :: o5 :: o6 :: o7 :: o8 :: o9 :: o10 :: L).Perm (o10 :: o1 :: o2 :: o3 :: o4 :: o5 :: o6 :: o7 :: o8 :: o9 :: L) := (List.Perm.cons _ perm9).trans (List.Perm.swap _ _ _)
theorem perm11 {o1 o2 o3 o4 o5 o6 o7 o8 o9 o10 o11 : Own} {L : List Own} : (o1 :: o2 :: o3 :: o4 :: o5 :: o6 :: o7 :: o8 :: o9 :: o10 :: o11 :: L).Perm (o11 :: o1 :: o2 :: o3 :: o4 :: o5 :: o6 :: o7 :: o8 :: o9 :: o10 :: L) := (List.Perm.cons _ perm10).trans (List.Perm.swap _ _ _)
theorem perm12 {o1 o2 o3 o4 o5 o6 o7 o8 o9 o10 o11 o12 : Own} {L : List Own} : (o1 :: o2 :: o3 :: o4 :: o5 :: o6 :: o7 :: o8 :: o9 :: o10 :: o11 :: o12 :: L).Perm (o12 :: o1 :: o2 :: o3 :: o4 :: o5 :: o6 :: o7 :: o8 :: o9 :: o10 :: o11 :: L) := (List.Perm.cons _ perm11).trans (List.Perm.swap _ _ _)
theorem perm13 {o1 o2 o3 o4 o5 o6 o7 o8 o9 o10 o11 o12 o13 : Own} {L : List Own} : (o1 :: o2 :: o3 :: o4 :: o5 :: o6 :: o7 :: o8 :: o9 :: o10 :: o11 :: o12 :: o13 :: L).Perm (o13 :: o1 :: o2 :: o3 :: o4 :: o5 :: o6 :: o7 :: o8 :: o9 :: o10 :: o11 :: o12 :: L) := (List.Perm.cons _ perm12).trans (List.Perm.swap _ _ _)
theorem perm14 {o1 o2 o3 o4 o5 o6 o7 o8 o9 o10 o11 o12 o13 o14 : Own} {L : List Own} : (o1 :: o2 :: o3 :: o4 :: o5 :: o6 :: o7 :: o8 :: o9 :: o10 :: o11 :: o12 :: o13 :: o14 :: L).Perm (o14 :: o1 :: o2 :: o3 :: o4 :: o5 :: o6 :: o7 :: o8 :: o9 :: o10 :: o11 :: o12 :: o13 :: L) := (List.Perm.cons _ perm13).trans (List.Perm.swap _ _ _)
theorem perm15 {o1 o2 o3 o4 o5 o6 o7 o8 o9 o10 o11 o12 o13 o14 o15 : Own} {L : List Own} : (o1 :: o2 :: o3 :: o4 :: o5 :: o6 :: o7 :: o8 :: o9 :: o10 :: o11 :: o12 :: o13 :: o14 :: o15 :: L).Perm (o15 :: o1 :: o2 :: o3 :: o4 :: o5 :: o6 :: o7 :: o8 :: o9 :: o10 :: o11 :: o12 :: o13 :: o14 :: L) := (List.Perm.cons _ perm14).trans (List.Perm.swap _ _ _)
theorem St.front5 {w0 W : World} {H0 H : PH} {o1 o2 o3 o4 o5 : Own} {L : List Own} (h : St w0 W H0 H (o1 :: o2 :: o3 :: o4 :: o5 :: L)) : St w0 W H0 H (o5 :: o1 :: o2 :: o3 :: o4 :: L) := h.perm perm5
theorem St.front6 {w0 W : World} {H0 H : PH} {o1 o2 o3 o4 o5 o6 : Own} {L : List Own} (h : St w0 W H0 H (o1 :: o2 :: o3 :: o4 :: o5 :: o6 :: L)) : St w0 W H0 H (o6 :: o1 :: o2 :: o3 :: o4 :: o5 :: L) := h.perm perm6
theorem St.front7 {w0 W : World} {H0 H : PH} {o1 o2 o3 o4 o5 o6 o7 : Own} {L : List Own} (h : St w0 W H0 H (o1 :: o2 :: o3 :: o4 :: o5 :: o6 :: o7 :: L)) : St w0 W H0 H (o7 :: o1 :: o2 :: o3 :: o4 :: o5 :: o6 :: L) := h.perm perm7
theorem St.front8 {w0 W : World} {H0 H : PH} {o1 o2 o3 o4 o5 o6 o7 o8 : Own} {L : List Own} (h : St w0 W H0 H (o1 :: o2 :: o3 :: o4 :: o5 :: o6 :: o7 :: o8 :: L)) : St w0 W H0 H (o8 :: o1 :: o2 :: o3 :: o4 :: o5 :: o6 :: o7 :: L) := h.perm perm8
theorem St.front9 {w0 W : World} {H0 H : PH} {o1 o2 o3 o4 o5 o6 o7 o8 o9 : Own} {L : List Own} (h : St w0 W H0 H (o1 :: o2 :: o3 :: o4 :: o5 :: o6 :: o7 :: o8 :: o9 :: L)) : St w0 W H0 H (o9 :: o1 :: o2 :: o3 :: o4 :: o5 :: o6 :: o7 :: o8 :: L) := h.perm perm9
theorem St.front10 {w0 W : World} {H0 H : PH} {o1 o2 o3 o4 o5 o6 o7 o8 o9 o10 : Own} {L : List Own} (h : St w0 W H0 H (o1 :: o2 :: o3 :: o4 :: o5 :: o6 :: o7 :: o8 :: o9 :: o10 :: L)) : St w0 W H0 H (o10 :: o1 :: o2 :: o3 :: o4 :: o5 :: o6 :: o7 :: o8 :: o9 :: L) := h.perm perm10
theorem St.front11 {w0 W : World} {H0 H : PH} {o1 o2 o3 o4 o5 o6 o7 o8 o9 o10 o11 : Own} {L : List Own} (h : St w0 W H0 H (o1 :: o2 :: o3 :: o4 :: o5 :: o6 :: o7 :: o8 :: o9 :: o10 :: o11 :: L)) : St w0 W H0 H (o11 :: o1 :: o2 :: o3 :: o4 :: o5 :: o6 :: o7 :: o8 :: o9 :: o10 :: L) := h.perm perm11
theorem St.front12 {w0 W : World} {H0 H : PH} {o1 o2 o3 o4 o5 o6 o7 o8 o9 o10 o11 o12 : Own} {L : List Own} (h : St w0 W H0 H (o1 :: o2 :: o3 :: o4 :: o5 :: o6 :: o7 :: o8 :: o9 :: o10 :: o11 :: o12 :: L)) : St w0 W H0 H (o12 :: o1 :: o2 :: o3 :: o4 :: o5 :: o6 :: o7 :: o8 :: o9 :: o10 :: o11 :: L) := h.perm perm12
theorem St.front13 {w0 W : World} {H0 H : PH} {o1 o2 o3 o4 o5 o6 o7 o8 o9 o10 o11 o12 o13 : Own} {L : List Own} (h : St w0 W H0 H (o1 :: o2 :: o3 :: o4 :: o5 :: o6 :: o7 :: o8 :: o9 :: o10 :: o11 :: o12 :: o13 :: L)) : St w0 W H0 H (o13 :: o1 :: o2 :: o3 :: o4 :: o5 :: o6 :: o7 :: o8 :: o9 :: o10 :: o11 :: o12 :: L) := h.perm perm13
theorem St.front14 {w0 W : World} {H0 H : PH} {o1 o2 o3 o4 o5 o6 o7 o8 o9 o10 o11 o12 o13 o14 : Own} {L : List Own} (h : St w0 W H0 H (o1 :: o2 :: o3 :: o4 :: o5 :: o6 :: o7 :: o8 :: o9 :: o10 :: o11 :: o12 :: o13 :: o14 :: L)) : St w0 W H0 H (o14 :: o1 :: o2 :: o3 :: o4 :: o5 :: o6 :: o7 :: o8 :: o9 :: o10 :: o11 :: o12 :: o13 :: L) := h.perm perm14
theorem St.front15 {w0 W : World} {H0 H : PH} {o1 o2 o3 o4 o5 o6 o7 o8 o9 o10 o11 o12 o13 o14 o15 : Own} {L : List Own} (h : St w0 W H0 H (o1 :: o2 :: o3 :: o4 :: o5 :: o6 :: o7 :: o8 :: o9 :: o10 :: o11 :: o12 :: o13 :: o14 :: o15 :: L)) : St w0 W H0 H (o15 :: o1 :: o2 :: o3 :: o4 :: o5 :: o6 :: o7 :: o8 :: o9 :: o10 :: o11 :: o12 :: o13 :: o14 :: L) := h.perm perm15
theorem subN {L : List Own} : ∀ e ∈ ([] : List Own), e ∈ L := fun _ h => by cases h
theorem subC {a : Own} {L' L : List Own} (h : a ∈ L) (t : ∀ e ∈ L', e ∈ L) : ∀ e ∈ a :: L', e ∈ L := fun e he => by
  rcases List.mem_cons.1 he with rfl | he
  · exact h
  · exact t e he
theorem tlT {tail : List Nat} {l : Array Bool} {p : Prop} (h : tailB tail l = true) : tailB tail l = false → p := fun k => absurd (h.symm.trans k) (by decide)
/-- A box that changes no more. -/
theorem St.keepbox {b : Nat} {c : Array Value} {t : TypeId} {fr : Nat × Nat} (st : St w0 W H0 H (.box b (.cells c t fr) :: L)) : ∃ H', St w0 W H0 H' L ∧ Le H H' ∧ At H' ⟨b, 0, none⟩ c.toList :=
  ⟨_, st.keep rfl (st.own _ List.mem_cons_self).1.2, le_put1 _ ((st.own _ List.mem_cons_self).2 b rfl), At.block (put1_self _ _ _)⟩
theorem PanicBlind.then (h : PanicBlind Q) : PanicBlind (Exit.then K Q) := fun c a d v w k => h c a d v w k
theorem PanicBlind.blk {i : Nat} (h : PanicBlind Q) : PanicBlind (Exit.inBlock i Q) := fun c a d v w k => h c a d v w k
theorem PanicBlind.body {fn : Func} {R : Ending → World → Prop} : PanicBlind (bodyPost P fn R) := fun c a d v w k => by
  cases d <;> exact k
end
section
variable {P : Program} {ops : Array Oper} {Q : Exit → Act → World → Prop} {tail : List Nat} {f : Nat} {l : Array Bool} {N : Nat} {env : Env} {d : Tmp} {op : Op} {ty : TypeId} {pos : String} {aft : Array Edge} {g : Option (Nat × Bool)} {C S : World → Prop}
/-- The first of the row, its side facts by default. -/
theorem WS.pk {v : Value} (i : Nat) (hi : ops[i]? = some ⟨some d, op, ty, pos, aft, g⟩) (hg : Good C S) (h : ∀ W, C W → Pu P ⟨some d, op, ty, pos, aft, g⟩ N env W v) (k : WS P ops Q C tail f (l.setIfInBounds i true) N ((d, v) :: env) S)
    (hs : Region.noSelect ops = true := by kernel_rfl) (hQ : PanicBlind Q := by repeat (first | with_reducible refine PanicBlind.then ?_ | with_reducible refine PanicBlind.blk ?_ | exact PanicBlind.body)) (hb : firstB ops tail l i = true := by kernel_rfl) (hw : wn ops env g = some true := by rfl) (hd : Nat.blt d N = true := by rfl) : WS P ops Q C tail (f + 1) l N env S := WS.pu hs hQ i hi hb hg hw hd h k
theorem WS.ok (i : Nat) (hi : ops[i]? = some ⟨some d, op, ty, pos, aft, g⟩) (hg : Good C S) (k : WS P ops Q C tail f (l.setIfInBounds i true) N ((d, undef) :: env) S)
    (hs : Region.noSelect ops = true := by kernel_rfl) (hQ : PanicBlind Q := by repeat (first | with_reducible refine PanicBlind.then ?_ | with_reducible refine PanicBlind.blk ?_ | exact PanicBlind.body)) (hb : firstB ops tail l i = true := by kernel_rfl) (hw : wn ops env g = some false := by rfl) (hd : Nat.blt d N = true := by rfl) : WS P ops Q C tail (f + 1) l N env S := WS.off hs hQ i hi hb hg hw hd k
theorem gg {w0 : World} {H0 H : PH} {L : List Own} : Good (Cl w0 H L) (Grew w0 H0 H L) := good_grew (Le.refl _) (fun _ h => h)
end
section
variable {P : Program} {ops : Array Oper} {Q : Exit → Act → World → Prop} {C : World → Prop} {tail : List Nat} {f : Nat} {l : Array Bool} {N : Nat} {env : Env} {d : Tmp} {ty : TypeId} {pos : String} {aft : Array Edge} {g : Option (Nat × Bool)} {o : Oper} {w0 : World} {H0 H : PH} {L L' : List Own}
/-- One of those that are ready is taken. -/
def WO (P : Program) (ops : Array Oper) (Q : Exit → Act → World → Prop) (C : World → Prop) (tail : List Nat) (f : Nat) (l : Array Bool) (N : Nat) (env : Env) (S : World → Prop) (i : Nat) : Prop :=
  ∀ a, Holds N a env → ∀ W, S W → wpOp P ops Q i (fun a' W' => ∃ S', S' W' ∧ (tailB tail (l.setIfInBounds i true) = false → Good C S') ∧ wpS P .any ops Q C tail f (l.setIfInBounds i true) a' S') a W
theorem WS.step {S : World → Prop} (is : List Nat) (hr : Region.ready .any ops l = is) (hne : is.isEmpty = false) (h : ∀ i ∈ is, WO P ops Q C tail f l N env S i) : WS P ops Q C tail (f + 1) l N env S := by
  intro a ha W hW
  refine ⟨fun h0 => ?_, fun i hi => h i (hr ▸ hi) a ha W hW⟩
  rw [hr] at h0
  subst h0
  simp at hne
theorem WS.one {S : World → Prop} {i : Nat} (hr : Region.ready .any ops l = [i]) (h : WO P ops Q C tail f l N env S i) : WS P ops Q C tail (f + 1) l N env S :=
  WS.step [i] hr rfl (fun j hj => by rw [List.mem_singleton.1 hj]; exact h)
theorem WS.two {S : World → Prop} {i j : Nat} (hr : Region.ready .any ops l = [i, j]) (hi : WO P ops Q C tail f l N env S i) (hj : WO P ops Q C tail f l N env S j) : WS P ops Q C tail (f + 1) l N env S :=
  WS.step [i, j] hr rfl (fun k hk => by
    simp only [List.mem_cons, List.not_mem_nil, or_false] at hk
    rcases hk with rfl | rfl
    · exact hi
    · exact hj)
theorem WS.three {S : World → Prop} {i j k : Nat} (hr : Region.ready .any ops l = [i, j, k]) (hi : WO P ops Q C tail f l N env S i) (hj : WO P ops Q C tail f l N env S j) (hk : WO P ops Q C tail f l N env S k) : WS P ops Q C tail (f + 1) l N env S :=
  WS.step [i, j, k] hr rfl (fun m hm => by
    simp only [List.mem_cons, List.not_mem_nil, or_false] at hm
    rcases hm with rfl | rfl | rfl
    · exact hi
    · exact hj
    · exact hk)
theorem WO.op {S : World → Prop} (i : Nat) (hi : ops[i]? = some o) (hw : wn ops env o.guard = some true) (hd : dok N o.dst = true)
    (h : ∀ W, S W → Op1 P o N env W (fun v W' => ∃ S', S' W' ∧ (tailB tail (l.setIfInBounds i true) = false → Good C S') ∧ WS P ops Q C tail f (l.setIfInBounds i true) N (dput env o.dst v) S')) : WO P ops Q C tail f l N env S i := by
  intro a ha W hW
  unfold wpOp
  simp only [hi]
  rw [if_pos (wn_wanted ha hw)]
  exact .inl (h W hW a ha _ _ (fun v W' ⟨S', h1, h2, h3⟩ => ⟨S', h1, h2, h3 _ (ha.dput hd v)⟩))
theorem WO.off {S : World → Prop} {op : Op} (i : Nat) (hi : ops[i]? = some ⟨some d, op, ty, pos, aft, g⟩) (hw : wn ops env g = some false) (hd : Nat.blt d N = true) (hg : tailB tail (l.setIfInBounds i true) = false → Good C S)
    (k : WS P ops Q C tail f (l.setIfInBounds i true) N ((d, undef) :: env) S) : WO P ops Q C tail f l N env S i := by
  intro a ha W hW
  unfold wpOp
  simp only [hi]
  rw [if_neg (by rw [wn_wanted ha (o := ⟨some d, op, ty, pos, aft, g⟩) hw]; decide)]
  exact ⟨S, hW, hg, k _ (ha.put hd undef)⟩
theorem WO.offn {S : World → Prop} {op : Op} (i : Nat) (hi : ops[i]? = some ⟨none, op, ty, pos, aft, g⟩) (hw : wn ops env g = some false) (hg : tailB tail (l.setIfInBounds i true) = false → Good C S)
    (k : WS P ops Q C tail f (l.setIfInBounds i true) N env S) : WO P ops Q C tail f l N env S i := by
  intro a ha W hW
  unfold wpOp
  simp only [hi]
  rw [if_neg (by rw [wn_wanted ha (o := ⟨none, op, ty, pos, aft, g⟩) hw]; decide)]
  exact ⟨S, hW, hg, k _ ha⟩
theorem WO.wild {R : Value → PH → Prop} (i : Nat) (hi : ops[i]? = some o) (hw : wn ops env o.guard = some true) (hd : dok N o.dst = true)
    (hg : tailB tail (l.setIfInBounds i true) = false → ∀ H', Le H H' → Good C (Grew w0 H0 H' L'))
    (h : ∀ W H', St w0 W H0 H' L → Le H H' → Op1 P o N env W (fun v W' => ∃ H'', St w0 W' H0 H'' L' ∧ Le H' H'' ∧ R v H''))
    (kk : ∀ v H', Le H H' → R v H' → WS P ops Q C tail f (l.setIfInBounds i true) N (dput env o.dst v) (Grew w0 H0 H' L')) : WO P ops Q C tail f l N env (Grew w0 H0 H L) i :=
  WO.op i hi hw hd (fun W ⟨H1, st, le⟩ a ha K Q' hK => h W H1 st le a ha K Q' (fun v W' ⟨H2, st2, le2, hR⟩ => hK v W' ⟨Grew w0 H0 H2 L', ⟨H2, st2, Le.refl _⟩, fun ht => hg ht H2 (le.trans le2), kk v H2 (le.trans le2) hR⟩))
theorem WO.pu {op : Op} {v : Value} (i : Nat) (hi : ops[i]? = some ⟨some d, op, ty, pos, aft, g⟩) (hw : wn ops env g = some true) (hd : Nat.blt d N = true) (hg : tailB tail (l.setIfInBounds i true) = false → ∀ H', Le H H' → Good C (Grew w0 H0 H' L))
    (h : ∀ W H', St w0 W H0 H' L → Le H H' → Pu P ⟨some d, op, ty, pos, aft, g⟩ N env W v) (kk : WS P ops Q C tail f (l.setIfInBounds i true) N ((d, v) :: env) (Grew w0 H0 H L)) : WO P ops Q C tail f l N env (Grew w0 H0 H L) i :=
  WO.op (o := ⟨some d, op, ty, pos, aft, g⟩) i hi hw hd (fun W ⟨H1, st, le⟩ a ha K Q' hK => (h W H1 st le).op1 a ha K Q' (fun u W' ⟨hu, hW'⟩ => by
    subst hu; subst hW'
    exact hK u W' ⟨Grew w0 H0 H L, ⟨H1, st, le⟩, fun ht => hg ht H (Le.refl _), kk⟩))
theorem WO.call {fo : Operand} {xs : List Operand} {ts : Array TypeId} {k : FuncId} {vs cap : List Value} {Post : PH → Value → Prop} (i : Nat) (hi : ops[i]? = some ⟨some d, .call { callee := .value fo, args := xs.toArray, argTypes := ts }, ty, pos, aft, g⟩) (hw : wn ops env g = some true) (hd : Nat.blt d N = true)
    (hg : tailB tail (l.setIfInBounds i true) = false → ∀ H', Le H H' → Good C (Grew w0 H0 H' L)) (he : En P k) (hf : ev env fo = some (.func (.func k) #[] cap.toArray)) (hx : evs env xs = some vs) (hsp : ∀ W H', Sub H' W → Le H H' → Spec P k (vs ++ cap).toArray W H' Post)
    (kk : ∀ v H', Le H H' → Post H' v → WS P ops Q C tail f (l.setIfInBounds i true) N ((d, v) :: env) (Grew w0 H0 H' L)) : WO P ops Q C tail f l N env (Grew w0 H0 H L) i :=
  WO.wild (o := ⟨some d, .call { callee := .value fo, args := xs.toArray, argTypes := ts }, ty, pos, aft, g⟩) (R := fun v H => Post H v) i hi hw hd hg (fun W H' st le => call_op1 he hf hx st (hsp W H' st.sub le)) kk
theorem Op1.mono {W : World} {p q : Value → World → Prop} (h : Op1 P o N env W p) (hpq : ∀ v W', p v W' → q v W') : Op1 P o N env W q := fun a ha K Q' hK => h a ha K Q' (fun v W' hp => hK v W' (hpq v W' hp))
theorem WO.box {t : TypeId} {x : Operand} {v : Value} {cs : List Value} (i : Nat) (hi : ops[i]? = some ⟨some d, .box t x, ty, pos, aft, g⟩) (hw : wn ops env g = some true) (hd : Nat.blt d N = true) (hg : tailB tail (l.setIfInBounds i true) = false → ∀ H', Le H H' → Good C (Grew w0 H0 H' L)) (hx : ev env x = some v) (hc : v.cells.toList = cs)
    (kk : ∀ b H', Le H H' → At H' ⟨b, 0, none⟩ cs → WS P ops Q C tail f (l.setIfInBounds i true) N ((d, .pointer (some ⟨b, 0, none⟩)) :: env) (Grew w0 H0 H' L)) : WO P ops Q C tail f l N env (Grew w0 H0 H L) i :=
  WO.wild (o := ⟨some d, .box t x, ty, pos, aft, g⟩) (R := fun u H' => ∃ b, u = .pointer (some ⟨b, 0, none⟩) ∧ At H' ⟨b, 0, none⟩ cs) i hi hw hd hg (fun W H' st le => (box_op1 hx).mono fun u W' ⟨h1, h2⟩ => by
    subst h1; subst h2
    exact ⟨_, st.alloc _, le_put1 _ st.fresh, _, rfl, by subst hc; exact At.block (put1_self _ _ _)⟩) (fun v H' le ⟨b, hb, hat⟩ => by subst hb; exact kk b H' le hat)
theorem WO.alloco {t : TypeId} {v : Value} {c : Array Value} (i : Nat) (hi : ops[i]? = some ⟨some d, .alloc t, ty, pos, aft, g⟩) (hw : wn ops env g = some true) (hd : Nat.blt d N = true) (hz : zeOf P t = some v) (hc : v.cells = c)
    (hg : ∀ b, tailB tail (l.setIfInBounds i true) = false → ∀ H', Le H H' → Good C (Grew w0 H0 H' (.box b (.cells c t (0, 0)) :: L)))
    (kk : ∀ b H', Le H H' → WS P ops Q C tail f (l.setIfInBounds i true) N ((d, .pointer (some ⟨b, 0, none⟩)) :: env) (Grew w0 H0 H' (.box b (.cells c t (0, 0)) :: L))) : WO P ops Q C tail f l N env (Grew w0 H0 H L) i :=
  WO.op (o := ⟨some d, .alloc t, ty, pos, aft, g⟩) i hi hw hd (fun W ⟨H1, st, le⟩ => (alloc_op1 hz).mono fun u W' ⟨h1, h2⟩ => by
    subst h1; subst h2; subst hc
    exact ⟨_, ⟨H1, st.allocOwn _, Le.refl _⟩, fun ht => hg _ ht _ le, kk _ _ le⟩)
theorem WO.store {t : TypeId} {x y : Operand} {v : Value} {b o n : Nat} {bb : Bool} {c c' : List Value} {tt : TypeId} {ad : Addr} (i : Nat) (hi : ops[i]? = some ⟨none, .store t x y, ty, pos, aft, g⟩) (hw : wn ops env g = some true) (hg : tailB tail (l.setIfInBounds i true) = false → ∀ H', Le H H' → Good C (Grew w0 H0 H' (.box b (.cells c'.toArray tt (0, 0)) :: L))) (hx : ev env x = some (.pointer (some ad))) (had : ad = ⟨b, o, none⟩) (hy : ev env y = some v) (ht : tyOf P t = some (bb, n)) (hn : v.cells.size = n) (h1 : ∀ u ∈ v.cells.toList, u.oneCell' = true) (hl : Nat.ble (o + n) c.length = true) (hc : setL c o v.cells.toList = c')
    (kk : ∀ H', Le H H' → WS P ops Q C tail f (l.setIfInBounds i true) N env (Grew w0 H0 H' (.box b (.cells c'.toArray tt (0, 0)) :: L))) : WO P ops Q C tail f l N env (Grew w0 H0 H (.box b (.cells c.toArray tt (0, 0)) :: L)) i :=
  WO.wild (o := ⟨none, .store t x y, ty, pos, aft, g⟩) (R := fun _ _ => True) i hi hw rfl hg (fun W H' st le => (store_op1 hx had hy ht hn h1 hl hc st).mono fun v W' st' => ⟨H', st', Le.refl _, trivial⟩) (fun v H' le _ => kk H' le)
theorem WS.fin (hr : Region.ready .any ops l = []) (h : ∀ W H', St w0 W H0 H' L → Le H H' → QX .normal Q N env W) : WS P ops Q C tail f l N env (Grew w0 H0 H L) := WS.nil hr (fun W ⟨H', st, le⟩ => h W H' st le)
theorem WO.perm {L L' : List Own} {i : Nat} (hp : L.Perm L') (h : WO P ops Q C tail f l N env (Grew w0 H0 H L') i) : WO P ops Q C tail f l N env (Grew w0 H0 H L) i := by
  have : Grew w0 H0 H L = Grew w0 H0 H L' := by funext W; exact propext ⟨fun ⟨H', st, le⟩ => ⟨H', st.perm hp, le⟩, fun ⟨H', st, le⟩ => ⟨H', st.perm hp.symm, le⟩⟩
  rw [this]; exact h
theorem WO.front2 {o1 o2 : Own} {i : Nat} (h : WO P ops Q C tail f l N env (Grew w0 H0 H (o2 :: o1 :: L)) i) : WO P ops Q C tail f l N env (Grew w0 H0 H (o1 :: o2 :: L)) i := WO.perm perm2 h
theorem WO.front3 {o1 o2 o3 : Own} {i : Nat} (h : WO P ops Q C tail f l N env (Grew w0 H0 H (o3 :: o1 :: o2 :: L)) i) : WO P ops Q C tail f l N env (Grew w0 H0 H (o1 :: o2 :: o3 :: L)) i := WO.perm perm3 h
theorem WO.front4 {o1 o2 o3 o4 : Own} {i : Nat} (h : WO P ops Q C tail f l N env (Grew w0 H0 H (o4 :: o1 :: o2 :: o3 :: L)) i) : WO P ops Q C tail f l N env (Grew w0 H0 H (o1 :: o2 :: o3 :: o4 :: L)) i := WO.perm perm4 h
theorem WO.front5 {o1 o2 o3 o4 o5 : Own} {i : Nat} (h : WO P ops Q C tail f l N env (Grew w0 H0 H (o5 :: o1 :: o2 :: o3 :: o4 :: L)) i) : WO P ops Q C tail f l N env (Grew w0 H0 H (o1 :: o2 :: o3 :: o4 :: o5 :: L)) i := WO.perm perm5 h
theorem WO.front6 {o1 o2 o3 o4 o5 o6 : Own} {i : Nat} (h : WO P ops Q C tail f l N env (Grew w0 H0 H (o6 :: o1 :: o2 :: o3 :: o4 :: o5 :: L)) i) : WO P ops Q C tail f l N env (Grew w0 H0 H (o1 :: o2 :: o3 :: o4 :: o5 :: o6 :: L)) i := WO.perm perm6 h
theorem WO.front7 {o1 o2 o3 o4 o5 o6 o7 : Own} {i : Nat} (h : WO P ops Q C tail f l N env (Grew w0 H0 H (o7 :: o1 :: o2 :: o3 :: o4 :: o5 :: o6 :: L)) i) : WO P ops Q C tail f l N env (Grew w0 H0 H (o1 :: o2 :: o3 :: o4 :: o5 :: o6 :: o7 :: L)) i := WO.perm perm7 h
theorem WO.front8 {o1 o2 o3 o4 o5 o6 o7 o8 : Own} {i : Nat} (h : WO P ops Q C tail f l N env (Grew w0 H0 H (o8 :: o1 :: o2 :: o3 :: o4 :: o5 :: o6 :: o7 :: L)) i) : WO P ops Q C tail f l N env (Grew w0 H0 H (o1 :: o2 :: o3 :: o4 :: o5 :: o6 :: o7 :: o8 :: L)) i := WO.perm perm8 h
theorem WO.front9 {o1 o2 o3 o4 o5 o6 o7 o8 o9 : Own} {i : Nat} (h : WO P ops Q C tail f l N env (Grew w0 H0 H (o9 :: o1 :: o2 :: o3 :: o4 :: o5 :: o6 :: o7 :: o8 :: L)) i) : WO P ops Q C tail f l N env (Grew w0 H0 H (o1 :: o2 :: o3 :: o4 :: o5 :: o6 :: o7 :: o8 :: o9 :: L)) i := WO.perm perm9 h
theorem WO.front10 {o1 o2 o3 o4 o5 o6 o7 o8 o9 o10 : Own} {i : Nat} (h : WO P ops Q C tail f l N env (Grew w0 H0 H (o10 :: o1 :: o2 :: o3 :: o4 :: o5 :: o6 :: o7 :: o8 :: o9 :: L)) i) : WO P ops Q C tail f l N env (Grew w0 H0 H (o1 :: o2 :: o3 :: o4 :: o5 :: o6 :: o7 :: o8 :: o9 :: o10 :: L)) i := WO.perm perm10 h
theorem WO.front11 {o1 o2 o3 o4 o5 o6 o7 o8 o9 o10 o11 : Own} {i : Nat} (h : WO P ops Q C tail f l N env (Grew w0 H0 H (o11 :: o1 :: o2 :: o3 :: o4 :: o5 :: o6 :: o7 :: o8 :: o9 :: o10 :: L)) i) : WO P ops Q C tail f l N env (Grew w0 H0 H (o1 :: o2 :: o3 :: o4 :: o5 :: o6 :: o7 :: o8 :: o9 :: o10 :: o11 :: L)) i := WO.perm perm11 h
theorem WO.front12 {o1 o2 o3 o4 o5 o6 o7 o8 o9 o10 o11 o12 : Own} {i : Nat} (h : WO P ops Q C tail f l N env (Grew w0 H0 H (o12 :: o1 :: o2 :: o3 :: o4 :: o5 :: o6 :: o7 :: o8 :: o9 :: o10 :: o11 :: L)) i) : WO P ops Q C tail f l N env (Grew w0 H0 H (o1 :: o2 :: o3 :: o4 :: o5 :: o6 :: o7 :: o8 :: o9 :: o10 :: o11 :: o12 :: L)) i := WO.perm perm12 h
theorem WO.front13 {o1 o2 o3 o4 o5 o6 o7 o8 o9 o10 o11 o12 o13 : Own} {i : Nat} (h : WO P ops Q C tail f l N env (Grew w0 H0 H (o13 :: o1 :: o2 :: o3 :: o4 :: o5 :: o6 :: o7 :: o8 :: o9 :: o10 :: o11 :: o12 :: L)) i) : WO P ops Q C tail f l N env (Grew w0 H0 H (o1 :: o2 :: o3 :: o4 :: o5 :: o6 :: o7 :: o8 :: o9 :: o10 :: o11 :: o12 :: o13 :: L)) i := WO.perm perm13 h
theorem WO.front14 {o1 o2 o3 o4 o5 o6 o7 o8 o9 o10 o11 o12 o13 o14 : Own} {i : Nat} (h : WO P ops Q C tail f l N env (Grew w0 H0 H (o14 :: o1 :: o2 :: o3 :: o4 :: o5 :: o6 :: o7 :: o8 :: o9 :: o10 :: o11 :: o12 :: o13 :: L)) i) : WO P ops Q C tail f l N env (Grew w0 H0 H (o1 :: o2 :: o3 :: o4 :: o5 :: o6 :: o7 :: o8 :: o9 :: o10 :: o11 :: o12 :: o13 :: o14 :: L)) i := WO.perm perm14 h
theorem WO.front15 {o1 o2 o3 o4 o5 o6 o7 o8 o9 o10 o11 o12 o13 o14 o15 : Own} {i : Nat} (h : WO P ops Q C tail f l N env (Grew w0 H0 H (o15 :: o1 :: o2 :: o3 :: o4 :: o5 :: o6 :: o7 :: o8 :: o9 :: o10 :: o11 :: o12 :: o13 :: o14 :: L)) i) : WO P ops Q C tail f l N env (Grew w0 H0 H (o1 :: o2 :: o3 :: o4 :: o5 :: o6 :: o7 :: o8 :: o9 :: o10 :: o11 :: o12 :: o13 :: o14 :: o15 :: L)) i := WO.perm perm15 h
theorem WS.front2 {a b : Own} (h : WS P ops Q C tail f l N env (Grew w0 H0 H (b :: a :: L))) : WS P ops Q C tail f l N env (Grew w0 H0 H (a :: b :: L)) := by
  have : Grew w0 H0 H (a :: b :: L) = Grew w0 H0 H (b :: a :: L) := by funext W; exact propext ⟨fun ⟨H', st, le⟩ => ⟨H', st.front2, le⟩, fun ⟨H', st, le⟩ => ⟨H', st.front2, le⟩⟩
  rw [this]; exact h
end
theorem one1 {v : Value} (hc : v.cells = #[v]) (h : v.oneCell' = true) : ∀ u ∈ v.cells.toList, u.oneCell' = true := by
  rw [hc]; intro u hu; simp only [List.mem_singleton] at hu; rw [hu]; exact h
theorem ex_le {M : Nat} {s : ByteArray} {i j : Nat} (h : s.size < M) : (s.extract i j).size < M := by
  rw [ByteArray.size_extract]; omega
theorem tup2 {α β : Type} {a : α} {b : β} {p : α × β} (h : (a, b) = p) : a = p.1 ∧ b = p.2 := by subst h; exact ⟨rfl, rfl⟩
theorem tup3 {α β γ : Type} {a : α} {b : β} {c : γ} {p : α × β × γ} (h : (a, b, c) = p) : a = p.1 ∧ b = p.2.1 ∧ c = p.2.2 := by subst h; exact ⟨rfl, rfl, rfl⟩
/-- A part of a slice. -/
def Sl.pt {α : Type} [Enc α] (s : Sl α) (i j : Int) : Sl α := ⟨if i = 0 then s.a else s.a.map (·.add (i.toNat * Enc.sz α)), s.cap - i.toNat, (s.l.take j.toNat).drop i.toNat⟩
end Go.Proofs.TB
