/- The rules for code: sequences, blocks, loops, tests, calls, new blocks, and a call's begin and end. -/
import Derived.Test.YtmfnlloabaoagaaGreatDoorTC
set_option linter.unusedVariables false
set_option linter.unusedSimpArgs false
namespace Go.Proofs.TB
open Go.RowKit

def QX (e : Exit) (Q : Exit → Act → World → Prop) (N : Nat) (env : Env) (W : World) : Prop := ∀ a, Holds N a env → Q e a W
section
variable {P : Program} {Q Q' : Exit → Act → World → Prop} {N : Nat} {env : Env} {W : World} {K : Act → World → Prop}
theorem QX.thenN {y : Code} (h : CW P y Q N env W) : QX .normal (Exit.then (fun a w => y.wp P Q a w) Q') N env W := h
theorem QX.thenK (h : ∀ a, Holds N a env → K a W) : QX .normal (Exit.then K Q') N env W := h
theorem QX.thenE {i : Nat} (h : QX (.exit i) Q N env W) : QX (.exit i) (Exit.then K Q) N env W := h
theorem QX.thenR (h : QX .ret Q N env W) : QX .ret (Exit.then K Q) N env W := h
theorem QX.blkN {i : Nat} (h : QX .normal Q N env W) : QX .normal (Exit.inBlock i Q) N env W := h
theorem QX.blkR {i : Nat} (h : QX .ret Q N env W) : QX .ret (Exit.inBlock i Q) N env W := h
theorem QX.hit {i : Nat} (h : QX .normal Q N env W) : QX (.exit i) (Exit.inBlock i Q) N env W := fun a ha => by
  simp only [Exit.inBlock, if_true]
  exact h a ha
theorem QX.miss {i j : Nat} (hne : Nat.beq j i = false) (h : QX (.exit j) Q N env W) : QX (.exit j) (Exit.inBlock i Q) N env W := fun a ha => by
  have : j ≠ i := fun e => by subst e; simp at hne
  simp only [Exit.inBlock, if_neg this]
  exact h a ha
theorem CW.seq {x y : Code} (h : CW P x (Exit.then (fun a w => y.wp P Q a w) Q) N env W) : CW P (.seq x y) Q N env W := fun a ha => wp_seq (h a ha)
theorem CW.reg {i : Nat} {l : List Oper} (h : WL P l.toArray Q l N env W) : CW P (.region i l.toArray false) Q N env W := fun a ha => wp_region_lit (h a ha)
theorem CW.blk {i : Nat} {c : Code} (h : CW P c (Exit.inBlock i Q) N env W) : CW P (.block i c) Q N env W := fun a ha => wp_block (h a ha)
theorem CW.skip (h : QX .normal Q N env W) : CW P .skip Q N env W := fun a ha => wp_skip (h a ha)
theorem CW.ret (h : QX .ret Q N env W) : CW P .ret Q N env W := fun a ha => wp_ret (h a ha)
theorem CW.exit {i : Nat} (h : QX (.exit i) Q N env W) : CW P (.exit i) Q N env W := fun a ha => wp_exit (h a ha)
theorem CW.cond {x y : Code} {b : Bool} (t : Nat) (ht : lk env t = some (.bool b)) (h1 : b = true → CW P x Q N ((t, .bool true) :: env) W) (h0 : b = false → CW P y Q N ((t, .bool false) :: env) W) : CW P (.cond (.tmp t) x y) Q N env W := fun a ha =>
  wp_cond_split (ha.eval (x := .tmp t) ht) (fun e => h1 e a (ha.again ht (by rw [e]))) (fun e => h0 e a (ha.again ht (by rw [e])))
theorem CW.condP {x y : Code} {b : Bool} {p q : Prop} (t : Nat) (ht : lk env t = some (.bool b)) (hp : b = true → p) (hq : b = false → q) (h1 : p → CW P x Q N ((t, .bool true) :: env) W) (h0 : q → CW P y Q N ((t, .bool false) :: env) W) : CW P (.cond (.tmp t) x y) Q N env W :=
  CW.cond t ht (fun e => h1 (hp e)) (fun e => h0 (hq e))
theorem CW.kn {c : Code} {x b : Bool} (t : Nat) (ht : lk env t = some (.bool x)) (e : x = b) (k : CW P c Q N ((t, .bool b) :: env) W) : CW P c Q N env W := fun a ha => k a (ha.again ht (by rw [e]))
theorem CW.condT {x y : Code} {t : Nat} (ht : lk env t = some (.bool true)) (h : CW P x Q N env W) : CW P (.cond (.tmp t) x y) Q N env W := fun a ha => wp_cond_true (ha.eval (x := .tmp t) ht) (h a ha)
theorem CW.condF {x y : Code} {t : Nat} (ht : lk env t = some (.bool false)) (h : CW P y Q N env W) : CW P (.cond (.tmp t) x y) Q N env W := fun a ha => wp_cond_false (ha.eval (x := .tmp t) ht) (h a ha)
/-- A loop: I what holds at its head, E what the slots hold. -/
def LoopEnd {σ : Type} (I : σ → World → Prop) (E : σ → Env) (μ : σ → Nat) (N : Nat) (s : σ) (a : Act) (W : World) : Prop := ∃ s', I s' W ∧ Holds N a (E s') ∧ μ s' < μ s
theorem CW.loop {σ : Type} {body : Code} (I : σ → World → Prop) (E : σ → Env) (μ : σ → Nat) (s0 : σ) (h0 : I s0 W) (hs : sub (E s0) env)
    (round : ∀ s W, I s W → CW P body (Exit.then (LoopEnd I E μ N s) Q) N (E s) W) : CW P (.loop body) Q N env W := by
  intro a ha b k cs
  have key : ∀ (n : Nat) (s : σ) (a : Act) (w : World), μ s = n → I s w → Holds N a (E s) →
      ∃ e a' w', Q e a' w' ∧ Arrives P (lone (b.at a (.code body :: .inLoop body :: k)) cs w) b k cs e a' w' := by
    intro n
    induction n using Nat.strongRecOn with
    | _ n ih =>
      intro s a w hn hI hH
      obtain ⟨e, a₁, w₁, hq, harr⟩ := round s w hI a hH b (.inLoop body :: k) cs
      cases e with
      | normal =>
        obtain ⟨s', hI₁, hH₁, hlt⟩ := hq
        obtain ⟨e₂, a₂, w₂, hq₂, harr₂⟩ := ih (μ s') (hn ▸ hlt) s' a₁ w₁ rfl hI₁ hH₁
        exact ⟨e₂, a₂, w₂, hq₂, .of_steps (Steps.trans harr (.one step_inLoop)) harr₂⟩
      | exit id => exact ⟨_, a₁, w₁, hq, .pass (x := .inLoop body) rfl (fun _ _ => .inl (by simp)) harr⟩
      | goto l => exact ⟨_, a₁, w₁, hq, .pass (x := .inLoop body) rfl (fun _ _ => .inl (by simp)) harr⟩
      | ret => exact ⟨_, a₁, w₁, hq, .pass (x := .inLoop body) rfl (fun _ _ => .inl (by simp)) harr⟩
      | panic ch => exact ⟨_, a₁, w₁, hq, .pass (x := .inLoop body) rfl (fun _ _ => .inl (by simp)) harr⟩
      | outgrown => exact ⟨_, a₁, w₁, hq, .pass (x := .inLoop body) rfl (fun _ _ => .inl (by simp)) harr⟩
  obtain ⟨e, a', w', hq, harr⟩ := key _ s0 a W rfl h0 (ha.sub hs)
  exact ⟨e, a', w', hq, .of_steps (.one step_loop) harr⟩
theorem QX.round {σ : Type} {I : σ → World → Prop} {E : σ → Env} {μ : σ → Nat} {s : σ} (s' : σ) (h : I s' W) (hm : μ s' < μ s) (hs : sub (E s') env) : QX .normal (Exit.then (LoopEnd I E μ N s) Q') N env W :=
  fun a ha => ⟨s', h, ha.sub hs, hm⟩
/-- Ways meet again: what is known where they meet. -/
theorem CW.cut {c : Code} (M : World → Prop) (E' : Env) (hcut : CW P c (Exit.then (fun a w => M w ∧ Holds N a E') Q) N env W) (k : ∀ W', M W' → QX .normal Q N E' W') : CW P c Q N env W := fun a ha =>
  Code.wp_mono (fun e a' w' h => by
    cases e with
    | normal => exact k w' h.1 a' h.2
    | _ => exact h) (hcut a ha)
theorem QX.meet {M : World → Prop} {E' : Env} (h : M W) (hs : sub E' env) : QX .normal (Exit.then (fun a w => M w ∧ Holds N a E') Q') N env W := fun a ha => ⟨h, ha.sub hs⟩
end

/-! ### what a loop's function says: it answers, or it goes on -/
def lk2 {ρ σ : Type} (x : ρ ⊕ σ) (k : σ → ρ) : ρ := match x with
  | .inl r => r
  | .inr s => k s
theorem lk_inl {ρ σ : Type} {x : ρ ⊕ σ} {k : σ → ρ} {r : ρ} (h : x = .inl r) : lk2 x k = r := by rw [h]; rfl
theorem lk_inr {ρ σ : Type} {x : ρ ⊕ σ} {k : σ → ρ} {s : σ} (h : x = .inr s) : lk2 x k = k s := by rw [h]; rfl
def lkR {ρ σ τ : Type} (x : ρ ⊕ σ) (k : σ → ρ ⊕ τ) : ρ ⊕ τ := match x with
  | .inl r => .inl r
  | .inr s => k s
theorem lkR_inl {ρ σ τ : Type} {x : ρ ⊕ σ} {k : σ → ρ ⊕ τ} {r : ρ} (h : x = .inl r) : lkR x k = .inl r := by rw [h]; rfl
theorem lkR_inr {ρ σ τ : Type} {x : ρ ⊕ σ} {k : σ → ρ ⊕ τ} {s : σ} (h : x = .inr s) : lkR x k = k s := by rw [h]; rfl
/-! ### calls -/
def En (P : Program) (k : FuncId) : Prop := ∀ args W, (callFunc k args).run P W = .ok (.enter k args) W
theorem En.of {P : Program} {k : FuncId} {fn : Func} (hf : P.funcs[k]? = some fn) (hn : (fn.name == "runtime.NumGoroutine") = false) (hb : fn.body.isNone = false) : En P k := fun args W => by
  have h1 : ¬ fn.name = "runtime.NumGoroutine" := by simpa using hn
  have h2 : ¬ fn.body = none := fun e => by rw [e] at hb; cases hb
  simp [callFunc, program, hf, h1, h2, Sem.run, bind, Sem.bind, pure]
section
variable {P : Program} {ops : Array Oper} {Q : Exit → Act → World → Prop} {rest : List Oper} {N : Nat} {env : Env} {W w0 : World} {d : Tmp} {ty : TypeId} {pos : String} {aft : Array Edge} {g : Option (Nat × Bool)} {H0 H : PH} {L : List Own}
theorem call_op1 {dst : Option Tmp} {f : Operand} {xs : List Operand} {ts : Array TypeId} {k : FuncId} {vs cap : List Value} {Post : PH → Value → Prop} (he : En P k) (hf : ev env f = some (.func (.func k) #[] cap.toArray)) (hx : evs env xs = some vs)
    (st : St w0 W H0 H L) (hsp : Spec P k (vs ++ cap).toArray W H Post) : Op1 P ⟨dst, .call { callee := .value f, args := xs.toArray, argTypes := ts }, ty, pos, aft, g⟩ N env W (fun v W' => ∃ H', St w0 W' H0 H' L ∧ Le H H' ∧ Post H' v) := by
  intro a ha K Q hK
  unfold Oper.wp
  have hr : (execOp a.eval ⟨dst, .call { callee := .value f, args := xs.toArray, argTypes := ts }, ty, pos, aft, g⟩).run P W = .ok (.enter k (vs ++ cap).toArray) W := by
    simp [execOp, resolve, ha.eval hf, Deferred.ofValue, invoke, ha.evals hx, he _ W]
  rw [hr]
  refine Calls.mono hsp ?_
  rintro e W' ⟨v, H', rfl, hst, hp⟩
  exact hK v W' ⟨H', st.grow hst, hst.le, hp⟩
theorem WL.call {f : Operand} {xs : List Operand} {ts : Array TypeId} {k : FuncId} {vs cap : List Value} {Post : PH → Value → Prop} (hw : wn ops env g = some true) (hd : Nat.blt d N = true) (he : En P k) (hf : ev env f = some (.func (.func k) #[] cap.toArray)) (hx : evs env xs = some vs)
    (st : St w0 W H0 H L) (hsp : Spec P k (vs ++ cap).toArray W H Post) (kk : ∀ v W' H', St w0 W' H0 H' L → Le H H' → Post H' v → WL P ops Q rest N ((d, v) :: env) W') :
    WL P ops Q (⟨some d, .call { callee := .value f, args := xs.toArray, argTypes := ts }, ty, pos, aft, g⟩ :: rest) N env W :=
  WL.op hw hd (call_op1 he hf hx st hsp) (fun v W' ⟨H', h1, h2, h3⟩ => kk v W' H' h1 h2 h3)
/-- A call whose answer is known: what stays is as it was. -/
theorem WL.callv {f : Operand} {xs : List Operand} {ts : Array TypeId} {k : FuncId} {vs cap : List Value} {r : Value} {H1 : PH} (hw : wn ops env g = some true) (hd : Nat.blt d N = true) (he : En P k) (hf : ev env f = some (.func (.func k) #[] cap.toArray)) (hx : evs env xs = some vs)
    (st : St w0 W H0 H L) (hsp : Spec P k (vs ++ cap).toArray W H1 (fun _ v => v = r)) (kk : ∀ W', St w0 W' H0 H L → WL P ops Q rest N ((d, r) :: env) W') :
    WL P ops Q (⟨some d, .call { callee := .value f, args := xs.toArray, argTypes := ts }, ty, pos, aft, g⟩ :: rest) N env W :=
  WL.op hw hd (Post := fun v W' => v = r ∧ St w0 W' H0 H L) (fun a ha K Q hK => by
    unfold Oper.wp
    have hr : (execOp a.eval ⟨some d, .call { callee := .value f, args := xs.toArray, argTypes := ts }, ty, pos, aft, g⟩).run P W = .ok (.enter k (vs ++ cap).toArray) W := by
      simp [execOp, resolve, ha.eval hf, Deferred.ofValue, invoke, ha.evals hx, he _ W]
    rw [hr]
    refine Calls.mono hsp ?_
    rintro e W' ⟨v, H', rfl, hst, hp⟩
    exact hK v W' ⟨hp, st.below hst.bel⟩) (fun v W' ⟨h1, h2⟩ => by subst h1; exact kk W' h2)

/-! ### new blocks -/
theorem box_op1 {dst : Option Tmp} {t : TypeId} {x : Operand} {v : Value} (hx : ev env x = some v) : Op1 P ⟨dst, .box t x, ty, pos, aft, g⟩ N env W (fun u W' => u = .pointer (some ⟨W.heap.size, 0, none⟩) ∧ W' = W.alloc (.cells v.cells t (0, 0))) := by
  intro a ha K Q hK
  unfold Oper.wp
  have hr : (execOp a.eval ⟨dst, .box t x, ty, pos, aft, g⟩).run P W = .ok (.value (.pointer (some ⟨W.heap.size, 0, none⟩))) (W.alloc (.cells v.cells t (0, 0))) := by
    simp [execOp, ha.eval hx, Instr.box, newVar, newRow, newObj, Sem.run]
  rw [hr]
  exact hK _ _ ⟨rfl, rfl⟩
theorem WL.box {t : TypeId} {x : Operand} {v : Value} {cs : List Value} (hw : wn ops env g = some true) (hd : Nat.blt d N = true) (hx : ev env x = some v) (hc : v.cells.toList = cs) (st : St w0 W H0 H L)
    (kk : ∀ b W' H', St w0 W' H0 H' L → Le H H' → At H' ⟨b, 0, none⟩ cs → WL P ops Q rest N ((d, .pointer (some ⟨b, 0, none⟩)) :: env) W') : WL P ops Q (⟨some d, .box t x, ty, pos, aft, g⟩ :: rest) N env W :=
  WL.op hw hd (box_op1 hx) (fun u W' ⟨h1, h2⟩ => by
    subst h1; subst h2
    exact kk _ _ _ (st.alloc _) (le_put1 _ st.fresh) (by subst hc; exact At.block (put1_self _ _ _)))
theorem WL.boxo {t : TypeId} {x : Operand} {v : Value} {c : Array Value} (hw : wn ops env g = some true) (hd : Nat.blt d N = true) (hx : ev env x = some v) (hc : v.cells = c) (st : St w0 W H0 H L)
    (kk : ∀ b W', St w0 W' H0 H (.box b (.cells c t (0, 0)) :: L) → WL P ops Q rest N ((d, .pointer (some ⟨b, 0, none⟩)) :: env) W') : WL P ops Q (⟨some d, .box t x, ty, pos, aft, g⟩ :: rest) N env W :=
  WL.op hw hd (box_op1 hx) (fun u W' ⟨h1, h2⟩ => by
    subst h1; subst h2; subst hc
    exact kk _ _ (st.allocOwn _))
/-- The zero value of a type. -/
def zeOf (P : Program) (t : TypeId) : Option Value := (P.info? t).bind (·.zero)
theorem run_zero {P : Program} {t : TypeId} {v : Value} (h : zeOf P t = some v) (W : World) : (zeroValue t).run P W = .ok v W := by
  unfold zeOf at h
  cases hi : P.info? t with
  | none => simp [hi] at h
  | some i => simp only [hi, Option.bind_some] at h; simp [zeroValue, typeInfo, hi, h]
theorem alloc_op1 {dst : Option Tmp} {t : TypeId} {v : Value} (hz : zeOf P t = some v) : Op1 P ⟨dst, .alloc t, ty, pos, aft, g⟩ N env W (fun u W' => u = .pointer (some ⟨W.heap.size, 0, none⟩) ∧ W' = W.alloc (.cells v.cells t (0, 0))) := by
  intro a ha K Q hK
  unfold Oper.wp
  have hr : (execOp a.eval ⟨dst, .alloc t, ty, pos, aft, g⟩).run P W = .ok (.value (.pointer (some ⟨W.heap.size, 0, none⟩))) (W.alloc (.cells v.cells t (0, 0))) := by
    simp [execOp, Instr.alloc, run_zero hz, newVar, newRow, newObj, Sem.run]
  rw [hr]
  exact hK _ _ ⟨rfl, rfl⟩
theorem WL.alloco {t : TypeId} {v : Value} {c : Array Value} (hw : wn ops env g = some true) (hd : Nat.blt d N = true) (hz : zeOf P t = some v) (hc : v.cells = c) (st : St w0 W H0 H L)
    (kk : ∀ b W', St w0 W' H0 H (.box b (.cells c t (0, 0)) :: L) → WL P ops Q rest N ((d, .pointer (some ⟨b, 0, none⟩)) :: env) W') : WL P ops Q (⟨some d, .alloc t, ty, pos, aft, g⟩ :: rest) N env W :=
  WL.op hw hd (alloc_op1 hz) (fun u W' ⟨h1, h2⟩ => by
    subst h1; subst h2; subst hc
    exact kk _ _ (st.allocOwn _))
/-- Cells stored from place o on. -/
def setFrom (c : Array Value) : Nat → List Value → Array Value
  | _, [] => c
  | o, v :: r => setFrom (c.setIfInBounds o v) (o + 1) r
theorem setFrom_size : ∀ (vs : List Value) (c : Array Value) (o : Nat), (setFrom c o vs).size = c.size
  | [], _, _ => rfl
  | v :: r, c, o => by rw [setFrom, setFrom_size r]; simp
theorem World.setCell_box {W : World} {b : Nat} {c : Array Value} {t : TypeId} {fr : Nat × Nat} (h : W.heap[b]? = some (.cells c t fr)) (o : Nat) (v : Value) :
    (W.setCell ⟨b, o, none⟩ v).heap[b]? = some (.cells (c.setIfInBounds o v) t fr) ∧ (∀ k, k ≠ b → (W.setCell ⟨b, o, none⟩ v).heap[k]? = W.heap[k]?) ∧ (W.setCell ⟨b, o, none⟩ v).heap.size = W.heap.size := by
  refine ⟨?_, fun k hk => Below.heap_setCell W ⟨b, o, none⟩ v k hk, by simp [World.setCell]⟩
  simp [World.setCell, Array.getElem?_modify, h]
theorem run_storeBox {P : Program} : ∀ (vs : List Value) (W : World) (b i o : Nat) (c : Array Value) (t : TypeId), W.heap[b]? = some (.cells c t (0, 0)) → o + i + vs.length ≤ c.size → (∀ u ∈ vs, u.oneCell' = true) →
    ∃ W', (storeCells ⟨b, o, none⟩ vs i).run P W = .ok () W' ∧ W'.heap[b]? = some (.cells (setFrom c (o + i) vs) t (0, 0)) ∧ (∀ k, k ≠ b → W'.heap[k]? = W.heap[k]?) ∧ W'.heap.size = W.heap.size ∧ W'.os = W.os ∧ W'.tape = W.tape ∧ W'.output = W.output
  | [], W, b, i, o, c, t, h, _, _ => ⟨W, by simp [storeCells], h, fun _ _ => rfl, rfl, rfl, rfl, rfl⟩
  | v :: r, W, b, i, o, c, t, h, hl, h1 => by
    simp only [List.length_cons] at hl
    have ha : (⟨b, o, none⟩ : Addr).add i = ⟨b, o + i, none⟩ := by unfold Addr.add; split <;> simp_all
    have hlt : o + i < c.size := by omega
    have hc : W.cell? ⟨b, o + i, none⟩ = some c[o + i] := by simp [World.cell?, h, hlt]
    have hf : W.frozen? ⟨b, o + i, none⟩ = false := by simp [World.frozen?, h]
    obtain ⟨g1, g2, g3⟩ := World.setCell_box h (o + i) v
    obtain ⟨W', k1, k2, k3, k4, k5, k6, k7⟩ := run_storeBox r (W.setCell ⟨b, o + i, none⟩ v) b (i + 1) o _ t g1 (by simp; omega) (fun u hu => h1 u (List.mem_cons_of_mem _ hu))
    refine ⟨W', ?_, ?_, fun k hk => (k3 k hk).trans (g2 k hk), k4.trans g3, k5, k6, k7⟩
    · rw [storeCells, Sem.run_bind, ha]
      have hs : (store ⟨b, o + i, none⟩ v).run P W = .ok () (W.setCell ⟨b, o + i, none⟩ v) := by
        rw [run_store P W _ v _ (h1 v List.mem_cons_self)]
        simp [hc, hf, Sem.run]
      rw [hs]
      exact k1
    · rw [k2, setFrom, Nat.add_assoc]
/-- The same on lists. -/
def setL : List Value → Nat → List Value → List Value
  | [], _, _ => []
  | c :: cs, 0, [] => c :: cs
  | _ :: cs, 0, v :: vs => v :: setL cs 0 vs
  | c :: cs, o + 1, vs => c :: setL cs o vs
theorem setL_nil : ∀ (cs : List Value) (o : Nat), setL cs o [] = cs
  | [], o => by cases o <;> rfl
  | c :: cs, 0 => rfl
  | c :: cs, o + 1 => by rw [setL, setL_nil cs o]
theorem setL_set : ∀ (cs : List Value) (o : Nat) (v : Value) (vs : List Value), setL cs o (v :: vs) = setL (cs.set o v) (o + 1) vs
  | [], o, v, vs => by cases o <;> rfl
  | c :: cs, 0, v, vs => by simp [setL]
  | c :: cs, o + 1, v, vs => by simp [setL, setL_set cs o v vs]
theorem setFrom_L : ∀ (vs : List Value) (cs : List Value) (o : Nat), setFrom cs.toArray o vs = (setL cs o vs).toArray
  | [], cs, o => by rw [setFrom, setL_nil]
  | v :: vs, cs, o => by rw [setFrom, setL_set, ← setFrom_L vs]; simp
/-- A store into a box of the call's own, the first that is named. -/
theorem store_op1 {ad : Addr} {t : TypeId} {x y : Operand} {v : Value} {b o n : Nat} {bb : Bool} {c c' : List Value} {tt : TypeId} (hx : ev env x = some (.pointer (some ad))) (had : ad = ⟨b, o, none⟩) (hy : ev env y = some v) (ht : tyOf P t = some (bb, n)) (hn : v.cells.size = n) (h1 : ∀ u ∈ v.cells.toList, u.oneCell' = true) (hl : Nat.ble (o + n) c.length = true) (hc : setL c o v.cells.toList = c')
    (st : St w0 W H0 H (.box b (.cells c.toArray tt (0, 0)) :: L)) : Op1 P ⟨none, .store t x y, ty, pos, aft, g⟩ N env W (fun _ W' => St w0 W' H0 H (.box b (.cells c'.toArray tt (0, 0)) :: L)) := by
  intro a ha K Q hK
  subst had
  have hb := (st.own _ List.mem_cons_self).1
  have hlo := Nat.le_of_ble_eq_true hl
  obtain ⟨W', k1, k2, k3, k4, k5, k6, k7⟩ := run_storeBox (P := P) v.cells.toList W b 0 o c.toArray tt hb.2 (by simp [hn]; omega) h1
  unfold Oper.wp
  have hr : (execOp a.eval ⟨none, .store t x y, ty, pos, aft, g⟩).run P W = .ok .skip W' := by
    simp [execOp, ha.eval hx, ha.eval hy, Instr.storeAt, Instr.sureAddr, storeVar, (tyOf_run ht W).2, hn, k1]
  rw [hr]
  refine hK undef W' (st.turn k5 k6 k7 (by omega) (fun k _ hk => k3 k (fun e => hk (by rw [e]; rfl))) ⟨hb.1, ?_⟩ (.inl rfl))
  rw [← hc, ← setFrom_L]
  simpa using k2
theorem WL.store {t : TypeId} {x y : Operand} {v : Value} {b o n : Nat} {bb : Bool} {c c' : List Value} {tt : TypeId} {ad : Addr} (hw : wn ops env g = some true) (hx : ev env x = some (.pointer (some ad))) (had : ad = ⟨b, o, none⟩) (hy : ev env y = some v) (ht : tyOf P t = some (bb, n)) (hn : v.cells.size = n) (h1 : ∀ u ∈ v.cells.toList, u.oneCell' = true) (hl : Nat.ble (o + n) c.length = true) (hc : setL c o v.cells.toList = c')
    (st : St w0 W H0 H (.box b (.cells c.toArray tt (0, 0)) :: L)) (kk : ∀ W', St w0 W' H0 H (.box b (.cells c'.toArray tt (0, 0)) :: L) → WL P ops Q rest N env W') : WL P ops Q (⟨none, .store t x y, ty, pos, aft, g⟩ :: rest) N env W :=
  WL.op hw rfl (store_op1 hx had hy ht hn h1 hl hc st) (fun _ W' h => kk W' h)
end

/-! ### a call's begin and end -/
def envOf : List Value → Nat → Env
  | [], _ => []
  | v :: r, i => (i, v) :: envOf r (i + 1)
theorem lk_envOf : ∀ (l : List Value) (i j : Nat) (v : Value), lk (envOf l i) j = some v → i ≤ j ∧ l[j - i]? = some v
  | [], i, j, v, h => by simp [envOf, lk] at h
  | u :: r, i, j, v, h => by
    simp only [envOf, lk] at h
    by_cases hj : j = i
    · subst hj
      simp only [beq_self_eq_true, cond_true, Option.some.injEq] at h
      subst h
      simp
    · have : (j == i) = false := by simpa using hj
      rw [this, cond_false] at h
      obtain ⟨h1, h2⟩ := lk_envOf r (i + 1) j v h
      refine ⟨by omega, ?_⟩
      have : j - i = (j - (i + 1)) + 1 := by omega
      rw [this]
      simpa using h2
theorem Spec.enter {P : Program} {f : FuncId} {fn : Func} {c : Code} {l : List Value} {w : World} {H : PH} {Post : PH → Value → Prop} {N : Nat} (hf : P.funcs[f]? = some fn) (hb : fn.body = some c) (hn : fn.ntmps = N) (hl : Nat.ble l.length N = true)
    (h : CW P c (bodyPost P fn (fun e W' => ∃ v H', e = .returned v ∧ St w W' H H' [] ∧ Post H' v)) N (envOf l 0) w) : Spec P f l.toArray w H Post := by
  refine calls_of_wp hf hb (h _ ⟨?_, rfl, fun i v e => ?_⟩)
  · have := Nat.le_of_ble_eq_true hl
    simp [hn]
    omega
  · obtain ⟨_, h2⟩ := lk_envOf l 0 i v e
    have hi : i < l.length := by
      have := (List.getElem?_eq_some_iff.1 h2).1
      omega
    simp only [Nat.sub_zero] at h2
    rw [Array.getElem?_append_left (by simpa using hi)]
    simpa using h2
/-- What the results hold. -/
inductive Res (P : Program) (env : Env) (W : World) : List ResultVar → List Value → Prop where
  | nil : Res P env W [] []
  | tmp {t : Tmp} {v : Value} {rs : List ResultVar} {vs : List Value} (h : lk env t = some v) (r : Res P env W rs vs) : Res P env W (.tmp t :: rs) (v :: vs)
  | cell {t : Tmp} {ty : TypeId} {ad : Addr} {b : Bool} {n : Nat} {cs : List Value} {v : Value} {rs : List ResultVar} {vs : List Value} (h : lk env t = some (.pointer (some ad))) (ht : tyOf P ty = some (b, n)) (hat : AtW W ad cs) (hv : ldv b n cs = some v) (r : Res P env W rs vs) : Res P env W (.cell t ty :: rs) (v :: vs)
def resOne (tmps : Array Value) (r : ResultVar) : Sem Value := match r with
  | .tmp t => pure (tmps.getD t undef)
  | .cell t ty => do loadVar ty (← asAddr (tmps.getD t undef))
theorem resOne_tmp {P : Program} {tmps : Array Value} {W : World} {t : Tmp} {v : Value} (h : tmps[t]? = some v) : (resOne tmps (.tmp t)).run P W = .ok v W := by simp [resOne, h]
theorem resOne_cell {P : Program} {tmps : Array Value} {W : World} {t : Tmp} {ty : TypeId} {ad : Addr} {v : Value} (h : tmps[t]? = some (.pointer (some ad))) (hl : (loadVar ty ad).run P W = .ok v W) : (resOne tmps (.cell t ty)).run P W = .ok v W := by simp [resOne, h, asAddr, hl]
theorem Res.run {P : Program} {env : Env} {W : World} {N : Nat} {a : Act} (ha : Holds N a env) {rs : List ResultVar} {vs : List Value} (h : Res P env W rs vs) :
    (rs.mapM (m := Sem) (resOne a.tmps)).run P W = .ok vs W := by
  induction h with
  | nil => simp
  | tmp h r ih => simp only [List.mapM_cons, Sem.run_bind, resOne_tmp (ha.get _ _ h), Result.andThen_ok, ih, Sem.run_pure]
  | cell h ht hat hv r ih => simp only [List.mapM_cons, Sem.run_bind, resOne_cell (ha.get _ _ h) (run_load ht hat hv), Result.andThen_ok, ih, Sem.run_pure]
def resV : List Value → Value
  | [v] => v
  | vs => .tuple vs.toArray
theorem run_results {P : Program} {fn : Func} {env : Env} {W : World} {N : Nat} {a : Act} (ha : Holds N a env) {rs : List ResultVar} {vs : List Value} (hr : fn.results = rs.toArray) (h : Res P env W rs vs) : (results fn a.tmps).run P W = .ok (resV vs) W := by
  have h1 := h.run ha
  have h2 : ∀ tmps : Array Value, results fn tmps = (do let vs ← fn.results.mapM (resOne tmps); pure (if h : vs.size = 1 then vs[0] else .tuple vs)) := fun tmps => by
    unfold results
    congr 2
  rw [h2, hr, Sem.run_bind, Array.mapM_eq_mapM_toList, Sem.run_map, h1]
  simp only [Result.andThen_ok, Sem.run_pure]
  match vs with
  | [] => rfl
  | [v] => rfl
  | _ :: _ :: _ => simp [resV]
theorem finR {P : Program} {fn : Func} {N : Nat} {env : Env} {a : Act} {w W : World} {H H' : PH} {L : List Own} {rs : List ResultVar} {vs : List Value} {Post : PH → Value → Prop} (hr : fn.results = rs.toArray) (st : St w W H H' L) (hv : Res P env W rs vs) (hp : Post H' (resV vs)) (ha : Holds N a env) :
    bodyPost P fn (fun e W' => ∃ v H', e = .returned v ∧ St w W' H H' [] ∧ Post H' v) .ret a W :=
  bodyPost_ret (run_results ha hr hv) ha.defers ⟨_, H', rfl, st.bare, hp⟩
theorem fin1 {P : Program} {fn : Func} {t : Tmp} {N : Nat} {env : Env} {a : Act} {w W : World} {H H' : PH} {L : List Own} {v : Value} {Post : PH → Value → Prop} (hr : fn.results = #[.tmp t]) (hv : lk env t = some v) (st : St w W H H' L) (hp : Post H' v) (ha : Holds N a env) :
    bodyPost P fn (fun e W' => ∃ v H', e = .returned v ∧ St w W' H H' [] ∧ Post H' v) .ret a W :=
  bodyPost_ret (results_tmp hr _ _ _) ha.defers ⟨_, H', rfl, st.bare, by rw [show a.tmps.getD t undef = v from by simp [ha.get t v hv]]; exact hp⟩
end Go.Proofs.TB
