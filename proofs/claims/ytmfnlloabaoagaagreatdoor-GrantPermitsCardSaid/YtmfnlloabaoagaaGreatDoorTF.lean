/- Regions that draw their order: what reads, or comes to one value, is taken first; what makes or changes memory is taken where it alone is left. -/
import Derived.Test.YtmfnlloabaoagaaGreatDoorTE
import Derived.Orders
set_option linter.unusedVariables false
set_option linter.unusedSimpArgs false
namespace Go.Proofs.TB
open Go.RowKit
section
variable {P : Program} {ops : Array Oper} {md : Region.Mode} {Q : Exit → Act → World → Prop} {C : World → Prop} {tail : List Nat}
structure Good (C S : World → Prop) : Prop where
  sub : ∀ W, S W → C W
  grow : ∀ W W', S W → Below W.heap.size W W' → S W'
def tailB (tail : List Nat) (l : Array Bool) : Bool := tail.any fun t => l.getD t false
def wpS (P : Program) (md : Region.Mode) (ops : Array Oper) (Q : Exit → Act → World → Prop) (C : World → Prop) (tail : List Nat) : Nat → Array Bool → Act → (World → Prop) → Prop
  | 0, l, a, S => Region.ready md ops l = [] ∧ ∀ W, S W → Q .normal a W
  | f + 1, l, a, S => ∀ W, S W → (Region.ready md ops l = [] → Q .normal a W) ∧
      ∀ i ∈ Region.ready md ops l, wpOp P ops Q i (fun a' W' => ∃ S', S' W' ∧ (tailB tail (l.setIfInBounds i true) = false → Good C S') ∧ wpS P md ops Q C tail f (l.setIfInBounds i true) a' S') a W
theorem wpAny_of_S : ∀ (f : Nat) (l : Array Bool) (a : Act) (S : World → Prop) (W : World), S W → wpS P md ops Q C tail f l a S → wpAny P md ops Q f l a W
  | 0, _, _, _, W, hW, h => ⟨h.1, h.2 W hW⟩
  | f + 1, l, a, S, W, hW, h => ⟨(h W hW).1, fun i hi => wpOp_mono (fun a' W' ⟨S', h1, _, h3⟩ => wpAny_of_S f _ a' S' W' h1 h3) ((h W hW).2 i hi)⟩
/-- In whatever world of C: one value. -/
def qg (P : Program) (o : Oper) (a : Act) (C : World → Prop) (v : Value) : Prop := ∀ W, C W → match (execOp a.eval o).run P W with
  | .ok (.value u) w' => w' = W ∧ u = v
  | .ok (.enter f args) w' => w' = W ∧ Calls P f args W (fun e W'' => e = .returned v ∧ Below W.heap.size W W'')
  | _ => False
def YG (P : Program) (ops : Array Oper) (C : World → Prop) (o : Oper) (v : Value) (a : Act) : Prop :=
  (Region.wanted o (yielded ops a.tmps) = true ∧ qg P o a C v) ∨ (Region.wanted o (yielded ops a.tmps) = false ∧ v = undef)
theorem YG.of_same {o : Oper} {v : Value} {a a' : Act} (hy : YG P ops C o v a) (he : execOp a'.eval o = execOp a.eval o)
    (hw : Region.wanted o (yielded ops a'.tmps) = Region.wanted o (yielded ops a.tmps)) : YG P ops C o v a' := by
  unfold YG qg at *
  rw [he, hw]
  exact hy
theorem YG.wpOp {i : Nat} {o : Oper} {v : Value} {a : Act} (hi : ops[i]? = some o) (hy : YG P ops C o v a) {K : Act → World → Prop} {W : World} (hC : C W)
    (h : ∀ W', Below W.heap.size W W' → K (a.put o.dst v) W') : wpOp P ops Q i K a W := by
  unfold Go.wpOp
  simp only [hi]
  rcases hy with ⟨hw, hv⟩ | ⟨hw, rfl⟩
  · have h1 := hv W hC
    rw [if_pos hw]
    refine .inl ?_
    unfold Oper.wp
    generalize (execOp a.eval o).run P W = r at *
    cases r with
    | halt x w' => exact h1.elim
    | ok n w' =>
      cases n <;> simp only at h1
      case value u =>
        obtain ⟨e1, e2⟩ := h1
        subst e1; subst e2
        exact h _ (Below.refl _ _)
      case enter f args =>
        obtain ⟨e1, hc⟩ := h1
        subst e1
        exact hc.mono fun e W'' ⟨he, hb⟩ => by subst he; exact h _ hb
  · rw [if_neg (by rw [hw]; decide)]
    exact h _ (Below.refl _ _)
theorem wpOp_putG {j : Nat} {oi oj : Oper} {v : Value} (hj : ops[j]? = some oj) (hap : oi.apart ops oj = true)
    (hsi : ∀ cs b, oi.op ≠ .select cs b) (hsj : ∀ cs b, oj.op ≠ .select cs b)
    (hQ : ∀ c a w, Q (.panic c) (a.put oi.dst v) w → Q (.panic c) a w) {K : Act → World → Prop} {a : Act} {w : World}
    (hy : YG P ops C oi v a) (h : wpOp P ops Q j K (a.put oi.dst v) w) :
    wpOp P ops Q j (fun a' w' => YG P ops C oi v a' ∧ K (a'.put oi.dst v) w') a w := by
  obtain ⟨h1, h2, h3⟩ := Oper.apart_spec hap
  have keep : ∀ (a : Act), YG P ops C oi v a → ∀ u, YG P ops C oi v (a.put oj.dst u) := fun a hy u =>
    hy.of_same (execOp_put oi hsi a oj.dst u h3) (wanted_put oi a oj.dst u h3)
  have keepD : ∀ d, YG P ops C oi v { a with defers := d :: a.defers } := fun d => hy.of_same rfl rfl
  unfold wpOp at *
  simp only [hj] at *
  rw [wanted_put oj a oi.dst v h1] at h
  split
  · rename_i hw
    simp only [hw, if_true] at h
    rcases h with h | ⟨hasks, hlets⟩
    case inr => exact .inr ⟨by unfold Oper.asks at *; rw [execOp_put oj hsj a oi.dst v h1] at hasks; exact hasks, hlets⟩
    refine .inl ?_
    unfold Oper.wp at *
    rw [execOp_put oj hsj a oi.dst v h1] at h
    generalize (execOp a.eval oj).run P w = r at *
    cases r with
    | ok n w' =>
      cases n <;> simp only [Oper.upon] at h ⊢
      case value u => exact ⟨keep a hy u, by rw [← Act.put_comm a v u h2]; exact h⟩
      case skip => exact ⟨keep a hy _, by rw [← Act.put_comm a v undef h2]; exact h⟩
      case defer d =>
        refine ⟨keep _ (keepD d) _, ?_⟩
        rw [← Act.put_comm _ v undef h2, ← Act.put_defers]
        exact h
      case enter f args =>
        refine Calls.mono h fun e w'' he => ?_
        cases e with
        | returned u => exact ⟨keep a hy u, by rw [← Act.put_comm a v u h2]; exact he⟩
        | panicked c => exact hQ _ _ _ he
        | outgrown => exact he
      case row row args => exact Rows.mono h fun u w'' he => ⟨keep a hy u, by rw [← Act.put_comm a v u h2]; exact he⟩
    | halt x w' =>
      cases x <;> simp only [Oper.upon] at h ⊢
      case panic u => exact hQ _ _ _ h
  · rename_i hw
    simp only [hw] at h
    exact ⟨keep a hy _, by rw [← Act.put_comm a v undef h2]; exact h⟩
/-- Panics are told alike, whatever the slots hold. -/
def PanicBlind (Q : Exit → Act → World → Prop) : Prop := ∀ c a d (v : Value) w, Q (.panic c) (a.put d v) w → Q (.panic c) a w
theorem wpS_first {i : Nat} {oi : Oper} {v : Value} (hi : ops[i]? = some oi) (hsel : ∀ (j : Nat) (o : Oper) cs b, ops[j]? = some o → o.op ≠ .select cs b) (hQ : ∀ c a w, Q (.panic c) (a.put oi.dst v) w → Q (.panic c) a w)
    (htl : ∀ t ∈ tail, ∀ l : Array Bool, l.getD i true = false → t ∉ Region.ready md ops l) :
    ∀ (f : Nat) (l : Array Bool) (a : Act) (S : World → Prop),
      (∀ j oj, ops[j]? = some oj → j ≠ i → l.getD j true = false → (∀ e ∈ oj.after, Region.binds md e = true → e.on ≠ i) → oi.apart ops oj = true) →
      i ∈ Region.ready md ops l → tailB tail l = false → Good C S → YG P ops C oi v a →
      wpS P md ops Q C tail f (l.setIfInBounds i true) (a.put oi.dst v) S → wpS P md ops Q C tail (f + 1) l a S := by
  intro f
  induction f with
  | zero =>
    intro l a S _ hr htb hg hy H W hW
    refine ⟨fun h => (by rw [h] at hr; cases hr), fun j hj => ?_⟩
    by_cases hji : j = i
    · subst hji
      exact hy.wpOp hi (hg.sub W hW) (fun W' hb => ⟨S, hg.grow W W' hW hb, fun _ => hg, H⟩)
    · have := ready_mono hj hji
      rw [H.1] at this
      cases this
  | succ f ih =>
    intro l a S hfree hr htb hg hy H W hW
    refine ⟨fun h => (by rw [h] at hr; cases hr), fun j hj => ?_⟩
    by_cases hji : j = i
    · subst hji
      exact hy.wpOp hi (hg.sub W hW) (fun W' hb => ⟨S, hg.grow W W' hW hb, fun _ => hg, H⟩)
    · have h1 := (H W hW).2 j (ready_mono hj hji)
      obtain ⟨hjun, oj, hoj, hall⟩ := mem_ready.1 hj
      have hi0 := (mem_ready.1 hr).1
      have hnot : ∀ e ∈ oj.after, Region.binds md e = true → e.on ≠ i := fun e he hb heq => by
        have h1 := hall e he hb
        rw [heq] at h1
        rcases Nat.lt_or_ge i l.size with h' | h'
        · simp [h'] at hi0 h1; rw [hi0] at h1; cases h1
        · simp [Array.getElem?_eq_none h'] at h1
      have hjt : j ∉ tail := fun hm => htl j hm l hi0 hj
      have htb' : tailB tail (l.setIfInBounds j true) = false := by
        unfold tailB at *
        rw [List.any_eq_false] at *
        intro t ht
        have htj : j ≠ t := fun e => hjt (e ▸ ht)
        rw [getD_set_ne false htj]
        exact htb t ht
      have htb2 : tailB tail ((l.setIfInBounds i true).setIfInBounds j true) = false := by
        unfold tailB at *
        rw [List.any_eq_false] at *
        intro t ht
        have hti : i ≠ t := fun e => by
          subst e
          exact htl i ht l hi0 hr
        have htj : j ≠ t := fun e => hjt (e ▸ ht)
        rw [getD_set_ne false htj, getD_set_ne false hti]
        exact htb t ht
      have h2 := wpOp_putG hoj (hfree j oj hoj hji hjun hnot) (fun cs b => hsel i oi cs b hi) (fun cs b => hsel j oj cs b hoj) hQ hy h1
      have hfree' : ∀ k ok, ops[k]? = some ok → k ≠ i → (l.setIfInBounds j true).getD k true = false →
          (∀ e ∈ ok.after, Region.binds md e = true → e.on ≠ i) → oi.apart ops ok = true := fun k ok hk hki hun hno => by
        refine hfree k ok hk hki ?_ hno
        by_cases hjk : j = k
        · subst hjk; exact hjun
        · rw [getD_set_ne true hjk] at hun; exact hun
      refine wpOp_mono (fun a' W' h3 => ?_) h2
      obtain ⟨hy', S', hS', hg', hw'⟩ := h3
      refine ⟨S', hS', fun _ => hg' htb2, ih (l.setIfInBounds j true) a' S' hfree' (ready_mono hr (Ne.symm hji)) htb' (hg' htb2) hy' ?_⟩
      rw [Array.setIfInBounds_comm _ _ hji]
      exact hw'

/-! ### slots -/
def WS (P : Program) (ops : Array Oper) (Q : Exit → Act → World → Prop) (C : World → Prop) (tail : List Nat) (f : Nat) (l : Array Bool) (N : Nat) (env : Env) (S : World → Prop) : Prop := ∀ a, Holds N a env → wpS P .any ops Q C tail f l a S
/-- Number i may be taken first. -/
def firstB (ops : Array Oper) (tail : List Nat) (l : Array Bool) (i : Nat) : Bool :=
  (Region.ready .any ops l).contains i && Region.free .any ops l i && !tailB tail l &&
  tail.all fun t => match ops[t]? with
    | some o => o.after.any fun e => Region.binds .any e && e.on == i
    | none => true
variable {f : Nat} {l : Array Bool} {N : Nat} {env : Env} {S : World → Prop} {i : Nat} {d : Tmp} {op : Op} {ty : TypeId} {pos : String} {aft : Array Edge} {g : Option (Nat × Bool)} {o : Oper}
theorem WS.first {v : Value} {env' : Env} (hs : Region.noSelect ops = true) (hQ : PanicBlind Q) (hi : ops[i]? = some o) (hb : firstB ops tail l i = true) (hg : Good C S)
    (hy : ∀ a, Holds N a env → YG P ops C o v a) (hput : ∀ a, Holds N a env → Holds N (a.put o.dst v) env') (k : WS P ops Q C tail f (l.setIfInBounds i true) N env' S) : WS P ops Q C tail (f + 1) l N env S := by
  intro a ha
  simp only [firstB, Bool.and_eq_true, Bool.not_eq_true'] at hb
  obtain ⟨⟨⟨h1, h2⟩, h3⟩, h4⟩ := hb
  refine wpS_first hi (Region.noSelect_spec hs) (fun c a w => hQ c a o.dst v w) (fun t ht l' hl' hr => ?_) f l a S (Region.free_spec hi h2) (by simpa using h1) h3 hg (hy a ha) (k _ (hput a ha))
  obtain ⟨_, ot, hot, hall⟩ := mem_ready.1 hr
  have := List.all_eq_true.1 h4 t ht
  rw [hot] at this
  simp only [Array.any_eq_true'] at this
  obtain ⟨e, he, hbe⟩ := this
  simp only [Bool.and_eq_true, beq_iff_eq] at hbe
  have h5 := hall e he hbe.1
  rw [hbe.2] at h5
  rcases Nat.lt_or_ge i l'.size with h' | h'
  · simp [h'] at hl' h5; rw [hl'] at h5; cases h5
  · simp [Array.getElem?_eq_none h'] at h5
theorem WS.pu {v : Value} (hs : Region.noSelect ops = true) (hQ : PanicBlind Q) (i : Nat) (hi : ops[i]? = some ⟨some d, op, ty, pos, aft, g⟩) (hb : firstB ops tail l i = true) (hg : Good C S) (hw : wn ops env g = some true) (hd : Nat.blt d N = true)
    (h : ∀ W, C W → Pu P ⟨some d, op, ty, pos, aft, g⟩ N env W v) (k : WS P ops Q C tail f (l.setIfInBounds i true) N ((d, v) :: env) S) : WS P ops Q C tail (f + 1) l N env S :=
  WS.first hs hQ hi hb hg (fun a ha => .inl ⟨wn_wanted ha (o := ⟨some d, op, ty, pos, aft, g⟩) hw, fun W hW => by rw [h W hW a ha]; exact ⟨rfl, rfl⟩⟩) (fun a ha => ha.put hd v) k
theorem WS.off (hs : Region.noSelect ops = true) (hQ : PanicBlind Q) (i : Nat) (hi : ops[i]? = some ⟨some d, op, ty, pos, aft, g⟩) (hb : firstB ops tail l i = true) (hg : Good C S) (hw : wn ops env g = some false) (hd : Nat.blt d N = true)
    (k : WS P ops Q C tail f (l.setIfInBounds i true) N ((d, undef) :: env) S) : WS P ops Q C tail (f + 1) l N env S :=
  WS.first (v := undef) hs hQ hi hb hg (fun a ha => .inr ⟨wn_wanted ha (o := ⟨some d, op, ty, pos, aft, g⟩) hw, rfl⟩) (fun a ha => ha.put hd undef) k
theorem WS.callv {fo : Operand} {xs : List Operand} {ts : Array TypeId} {kf : FuncId} {vs cap : List Value} {r : Value} (hs : Region.noSelect ops = true) (hQ : PanicBlind Q) (i : Nat) (hi : ops[i]? = some ⟨some d, .call { callee := .value fo, args := xs.toArray, argTypes := ts }, ty, pos, aft, g⟩) (hb : firstB ops tail l i = true) (hg : Good C S) (hw : wn ops env g = some true) (hd : Nat.blt d N = true)
    (he : En P kf) (hf : ev env fo = some (.func (.func kf) #[] cap.toArray)) (hx : evs env xs = some vs) (hsp : ∀ W, C W → ∃ H, Spec P kf (vs ++ cap).toArray W H (fun _ v => v = r))
    (k : WS P ops Q C tail f (l.setIfInBounds i true) N ((d, r) :: env) S) : WS P ops Q C tail (f + 1) l N env S :=
  WS.first hs hQ hi hb hg (fun a ha => .inl ⟨wn_wanted ha (o := ⟨some d, _, ty, pos, aft, g⟩) hw, fun W hW => by
    have hr : (execOp a.eval ⟨some d, .call { callee := .value fo, args := xs.toArray, argTypes := ts }, ty, pos, aft, g⟩).run P W = .ok (.enter kf (vs ++ cap).toArray) W := by
      simp [execOp, resolve, ha.eval hf, Deferred.ofValue, invoke, ha.evals hx, he _ W]
    rw [hr]
    obtain ⟨H, hh⟩ := hsp W hW
    exact ⟨rfl, Calls.mono hh fun e W' ⟨v, H', h1, h2, h3⟩ => ⟨by rw [h1, h3], h2.bel⟩⟩⟩) (fun a ha => ha.put hd r) k
theorem WS.split {x : Bool} {p q : Prop} (t : Nat) (ht : lk env t = some (.bool x)) (hp : x = true → p) (hq : x = false → q) (h1 : p → WS P ops Q C tail f l N ((t, .bool true) :: env) S) (h0 : q → WS P ops Q C tail f l N ((t, .bool false) :: env) S) : WS P ops Q C tail f l N env S := by
  intro a ha
  cases hx : x with
  | true => exact h1 (hp hx) a (ha.again ht (by rw [hx]))
  | false => exact h0 (hq hx) a (ha.again ht (by rw [hx]))
theorem WS.kn {x b : Bool} (t : Nat) (ht : lk env t = some (.bool x)) (e : x = b) (k : WS P ops Q C tail f l N ((t, .bool b) :: env) S) : WS P ops Q C tail f l N env S := fun a ha => k a (ha.again ht (by rw [e]))
/-- It alone is left. -/
theorem WS.only (i : Nat) (hi : ops[i]? = some o) (hr : Region.ready .any ops l = [i]) (hw : wn ops env o.guard = some true) (hd : dok N o.dst = true)
    (h : ∀ W, S W → Op1 P o N env W (fun v W' => ∃ S', S' W' ∧ (tailB tail (l.setIfInBounds i true) = false → Good C S') ∧ WS P ops Q C tail f (l.setIfInBounds i true) N (dput env o.dst v) S')) : WS P ops Q C tail (f + 1) l N env S := by
  intro a ha W hW
  refine ⟨fun h => (by rw [hr] at h; cases h), fun j hj => ?_⟩
  rw [hr, List.mem_singleton] at hj
  subst hj
  unfold wpOp
  simp only [hi]
  rw [if_pos (wn_wanted ha hw)]
  exact .inl (h W hW a ha _ _ (fun v W' ⟨S', h1, h2, h3⟩ => ⟨S', h1, h2, h3 _ (ha.dput hd v)⟩))
theorem WS.nil (hr : Region.ready .any ops l = []) (h : ∀ W, S W → QX .normal Q N env W) : WS P ops Q C tail f l N env S := by
  intro a ha
  cases f with
  | zero => exact ⟨hr, fun W hW => h W hW a ha⟩
  | succ f => exact fun W hW => ⟨fun _ => h W hW a ha, fun j hj => (by rw [hr] at hj; cases hj)⟩
theorem CW.regS {id n : Nat} {lo : List Oper} {W : World} (hm : P.follows .mixedOrders = true) (hS : ∀ W', W'.heap = W.heap → W'.os = W.os → W'.tape = W.tape → W'.output = W.output → S W') (hn : lo.length = n)
    (h : WS P lo.toArray Q C tail n (Array.replicate n false) N env S) : CW P (.region id lo.toArray true) Q N env W := fun a ha =>
  wp_region_any hm (wpAny_of_S (C := C) (tail := tail) _ _ a S _ (hS _ rfl rfl rfl rfl) (by have := h a ha; subst hn; simpa using this))
end
end Go.Proofs.TB
