/- Ranges over a function: rules where calls of yield are made. -/
import Derived.Test.YtmfnlloabaoagaaGreatDoorTK
import Derived.RangeFuncOwn
import Derived.RangeFuncCalls
import Derived.RangeFuncFrom
import Derived.RangeFuncBound
import Derived.RangeFuncLeaves
set_option linter.unusedVariables false
set_option linter.unusedSimpArgs false
namespace Go.Proofs.TB
open Go.RowKit
/-- The fences that let all in. -/
def OpenF (F : Fence) : Prop := F = Fence.wide ∨ ∃ l, F = Fence.wide.inRound l
theorem OpenF.fn {F : Fence} (h : OpenF F) (f : FuncId) : F.fn f := by
  rcases h with rfl | ⟨l, rfl⟩ <;> trivial
theorem OpenF.depth {F : Fence} (h : OpenF F) : F.depth = none := by
  rcases h with rfl | ⟨l, rfl⟩ <;> rfl
theorem OpenF.calls {F : Fence} (h : OpenF F) {n : Nat} {P : Program} {f : FuncId} {args : Array Value} {w : World} {R : Ending → World → Prop} (k : Calls P f args w R) : CallsIn F n P f args w R := by
  rcases h with rfl | ⟨l, rfl⟩
  · exact callsIn_wide.2 k
  · exact (callsIn_wide.2 k).inRound l
theorem OpenF.op {F : Fence} (h : OpenF F) {n : Nat} {P : Program} {o : Oper} {a : Act} {w : World} {K : Act → World → Prop} {Q : Exit → Act → World → Prop} (hd : ∀ c, o.op ≠ .defer c) (hr : ∀ r as w', (execOp a.eval o).run P w ≠ .ok (.row r as) w') (k : o.wp P a w K Q) : o.wpIn F n P a w K Q := by
  refine ⟨fun f _ => h.fn f, ?_⟩
  rw [Oper.semAt_eq _ _ _ hd]
  unfold Oper.wp at k
  generalize hx : (execOp a.eval o).run P w = r at *
  cases r with
  | halt x w' => cases x <;> exact k
  | ok v w' =>
    cases v with
    | value u => exact k
    | skip => exact k
    | defer d => exact k
    | enter f args => exact ⟨(fun e => by rw [h.depth] at e; cases e), h.calls k⟩
    | row r as => exact absurd rfl (hr r as w')
    | _ => exact k.elim
/-- Slots, where marks of ranges lie among the deferred calls. -/
structure HoldsD (N : Nat) (D : List Deferred) (a : Act) (env : Env) : Prop where
  size : a.tmps.size = N
  defers : a.defers = D
  get : ∀ i v, lk env i = some v → a.tmps[i]? = some v
theorem HoldsD.h {N : Nat} {D : List Deferred} {a : Act} {env : Env} (h : HoldsD N D a env) : Holds N { a with defers := [] } env := ⟨h.size, rfl, h.get⟩
theorem HoldsD.of {N : Nat} {D : List Deferred} {a : Act} {env : Env} (h : Holds N { a with defers := [] } env) (hd : a.defers = D) : HoldsD N D a env := ⟨h.size, hd, h.get⟩
theorem HoldsD.put {N : Nat} {D : List Deferred} {a : Act} {env : Env} (h : HoldsD N D a env) {d : Nat} (hd : Nat.blt d N = true) (v : Value) : HoldsD N D (a.put (some d) v) ((d, v) :: env) :=
  ⟨(h.h.put hd v).size, h.defers, (h.h.put hd v).get⟩
theorem HoldsD.again {N : Nat} {D : List Deferred} {a : Act} {env : Env} (h : HoldsD N D a env) {t : Nat} {v u : Value} (e : lk env t = some v) (huv : v = u) : HoldsD N D a ((t, u) :: env) := ⟨h.size, h.defers, (h.h.again e huv).get⟩
theorem HoldsD.eval {N : Nat} {D : List Deferred} {a : Act} {env : Env} (h : HoldsD N D a env) {x : Operand} {v : Value} (e : ev env x = some v) : a.eval x = v := h.h.eval e
theorem Holds.evals' {N : Nat} {a : Act} {D : List Deferred} {env : Env} (h : Holds N { a with defers := D } env) {xs : List Operand} {vs : List Value} (e : evs env xs = some vs) : xs.map a.eval = vs := h.evals e
def WLI (F : Fence) (n : Nat) (P : Program) (ops : Array Oper) (Q : Exit → Act → World → Prop) (rest : List Oper) (N : Nat) (D : List Deferred) (env : Env) (W : World) : Prop := ∀ a, HoldsD N D a env → wpListIn F n P ops Q rest a W
def QD (e : Exit) (Q : Exit → Act → World → Prop) (N : Nat) (D : List Deferred) (env : Env) (W : World) : Prop := ∀ a, HoldsD N D a env → Q e a W
def CWI (F : Fence) (n : Nat) (P : Program) (c : Code) (Q : Exit → Act → World → Prop) (N : Nat) (D : List Deferred) (env : Env) (W : World) : Prop := ∀ a, HoldsD N D a env → c.wpIn F n P Q a W
section
variable {F : Fence} {n : Nat} {P : Program} {ops : Array Oper} {Q : Exit → Act → World → Prop} {rest : List Oper} {N : Nat} {D : List Deferred} {env : Env} {W w0 : World} {d : Tmp} {op : Op} {ty : TypeId} {pos : String} {aft : Array Edge} {g : Option (Nat × Bool)} {H0 H : PH} {L : List Own}
theorem WLI.nil (h : ∀ a, HoldsD N D a env → Q .normal a W) : WLI F n P ops Q [] N D env W := fun a ha => h a ha
theorem wpListIn_one {o : Oper} {a : Act} {w : World} (hw : Region.wanted o (yielded ops a.tmps) = true) (h : o.wpIn F n P a w (wpListIn F n P ops Q rest) Q) : wpListIn F n P ops Q (o :: rest) a w := by
  show (if _ then _ else _)
  rw [if_pos hw]
  exact h
theorem WLI.pu {v : Value} (hF : OpenF F) (hw : wn ops env g = some true) (hd : Nat.blt d N = true) (h : Pu P ⟨some d, op, ty, pos, aft, g⟩ N env W v) (k : WLI F n P ops Q rest N D ((d, v) :: env) W) : WLI F n P ops Q (⟨some d, op, ty, pos, aft, g⟩ :: rest) N D env W := fun a ha => by
  have h1 : (execOp a.eval ⟨some d, op, ty, pos, aft, g⟩).run P W = .ok (.value v) W := by
    have := h { a with defers := [] } ha.h
    exact this
  refine wpListIn_one (wn_wanted ha.h (o := ⟨some d, op, ty, pos, aft, g⟩) hw) (hF.op (fun c hc => ?_) (fun r as w' e => by rw [h1] at e; cases e) ?_)
  · simp only at hc
    subst hc
    simp [execOp] at h1
    generalize (resolve a.eval c ty).run P W = x at h1
    cases x <;> simp at h1
  · unfold Oper.wp
    rw [h1]
    exact k _ (ha.put hd v)
theorem WLI.off (hF : OpenF F) (hw : wn ops env g = some false) (hd : Nat.blt d N = true) (k : WLI F n P ops Q rest N D ((d, undef) :: env) W) : WLI F n P ops Q (⟨some d, op, ty, pos, aft, g⟩ :: rest) N D env W := fun a ha => by
  show (if _ then _ else _)
  rw [if_neg (by rw [wn_wanted ha.h (o := ⟨some d, op, ty, pos, aft, g⟩) hw]; decide)]
  exact ⟨fun f _ => hF.fn f, k _ (ha.put hd undef)⟩
theorem WLI.splitP {x : Bool} {p q : Prop} (t : Nat) (ht : lk env t = some (.bool x)) (hp : x = true → p) (hq : x = false → q) (h1 : p → WLI F n P ops Q rest N D ((t, .bool true) :: env) W) (h0 : q → WLI F n P ops Q rest N D ((t, .bool false) :: env) W) : WLI F n P ops Q rest N D env W := fun a ha => by
  cases hx : x with
  | true => exact h1 (hp hx) a (ha.again ht (by rw [hx]))
  | false => exact h0 (hq hx) a (ha.again ht (by rw [hx]))
theorem run_call_fn {dst : Option Tmp} {f : Operand} {xs : List Operand} {ts : Array TypeId} {k : FuncId} {vs cap : List Value} {a : Act} (ha : HoldsD N D a env) (he : En P k) (hf : ev env f = some (.func (.func k) #[] cap.toArray)) (hx : evs env xs = some vs) :
    (execOp a.eval ⟨dst, .call { callee := .value f, args := xs.toArray, argTypes := ts }, ty, pos, aft, g⟩).run P W = .ok (.enter k (vs ++ cap).toArray) W := by
  simp [execOp, resolve, ha.eval hf, Deferred.ofValue, invoke, ha.h.evals' hx, he _ W]
theorem WLI.callv {f : Operand} {xs : List Operand} {ts : Array TypeId} {k : FuncId} {vs cap : List Value} {r : Value} {H1 : PH} (hF : OpenF F) (hw : wn ops env g = some true) (hd : Nat.blt d N = true) (he : En P k) (hf : ev env f = some (.func (.func k) #[] cap.toArray)) (hx : evs env xs = some vs)
    (st : St w0 W H0 H L) (hsp : Spec P k (vs ++ cap).toArray W H1 (fun _ v => v = r)) (kk : ∀ W', St w0 W' H0 H L → WLI F n P ops Q rest N D ((d, r) :: env) W') :
    WLI F n P ops Q (⟨some d, .call { callee := .value f, args := xs.toArray, argTypes := ts }, ty, pos, aft, g⟩ :: rest) N D env W := fun a ha => by
  have hr := run_call_fn (P := P) (W := W) (dst := some d) (ts := ts) (ty := ty) (pos := pos) (aft := aft) (g := g) ha he hf hx
  refine wpListIn_one (wn_wanted ha.h (o := ⟨some d, _, ty, pos, aft, g⟩) hw) (hF.op (fun c hc => by cases hc) (fun r as w' e => by rw [hr] at e; cases e) ?_)
  unfold Oper.wp
  rw [hr]
  refine Calls.mono hsp ?_
  rintro e W' ⟨v, H', rfl, hst, hp⟩
  subst hp
  exact kk W' (st.below hst.bel) _ (ha.put hd v)
/-- A call of yield. -/
theorem WLI.yield {f : Operand} {xs : List Operand} {ts : Array TypeId} {l : Nat} {vs : List Value} {R : Bool → World → Prop} (hF : OpenF F) (hw : wn ops env g = some true) (hd : Nat.blt d N = true) (hf : ev env f = some (.func (.yield l) #[] #[])) (hx : evs env xs = some vs)
    (hy : YieldAt F (n - 1) P l vs.toArray W (fun e W' => ∃ b, e = .returned (.bool b) ∧ R b W')) (kk : ∀ b W', R b W' → WLI F n P ops Q rest N D ((d, .bool b) :: env) W') :
    WLI F n P ops Q (⟨some d, .call { callee := .value f, args := xs.toArray, argTypes := ts }, ty, pos, aft, g⟩ :: rest) N D env W := fun a ha => by
  obtain ⟨fn, tmps, assign, body, h1, h2⟩ := hy
  have hr : (execOp a.eval ⟨some d, .call { callee := .value f, args := xs.toArray, argTypes := ts }, ty, pos, aft, g⟩).run P W = .ok (.round l fn tmps assign body) W := by
    simp [execOp, resolve, ha.eval hf, Deferred.ofValue, invoke, ha.h.evals' hx, h1]
  refine wpListIn_one (wn_wanted ha.h (o := ⟨some d, _, ty, pos, aft, g⟩) hw) ⟨fun f _ => hF.fn f, ?_⟩
  rw [Oper.semAt_eq _ _ _ (fun c hc => by cases hc), hr]
  refine ⟨(fun e => by rw [hF.depth] at e; cases e), h2.mono ?_⟩
  rintro e W' ⟨b, rfl, hR⟩
  exact kk b W' hR _ (ha.put hd _)
theorem store_run {ad : Addr} {t : TypeId} {x y : Operand} {v : Value} {b o n : Nat} {bb : Bool} {c c' : List Value} {tt : TypeId} {a : Act} (hx : a.eval x = .pointer (some ad)) (had : ad = ⟨b, o, none⟩) (hy : a.eval y = v) (ht : tyOf P t = some (bb, n)) (hn : v.cells.size = n) (h1 : ∀ u ∈ v.cells.toList, u.oneCell' = true) (hl : Nat.ble (o + n) c.length = true) (hc : setL c o v.cells.toList = c')
    (st : St w0 W H0 H (.box b (.cells c.toArray tt (0, 0)) :: L)) : ∃ W', (execOp a.eval ⟨none, .store t x y, ty, pos, aft, g⟩).run P W = .ok .skip W' ∧ St w0 W' H0 H (.box b (.cells c'.toArray tt (0, 0)) :: L) ∧ W.grownBy W' (some b) := by
  subst had
  have hb := (st.own _ List.mem_cons_self).1
  have hlo := Nat.le_of_ble_eq_true hl
  obtain ⟨W', k1, k2, k3, k4, k5, k6, k7⟩ := run_storeBox (P := P) v.cells.toList W b 0 o c.toArray tt hb.2 (by simp [hn]; omega) h1
  refine ⟨W', by simp [execOp, hx, hy, Instr.storeAt, Instr.sureAddr, storeVar, (tyOf_run ht W).2, hn, k1], st.turn k5 k6 k7 (by omega) (fun k _ hk => k3 k (fun e => hk (by rw [e]; rfl))) ⟨hb.1, ?_⟩ (.inl rfl), ⟨k5, k6, k7, by omega, fun k _ hk => k3 k (fun e => hk (by rw [e]))⟩⟩
  rw [← hc, ← setFrom_L]
  simpa using k2
theorem WLI.store {t : TypeId} {x y : Operand} {v : Value} {b o nn : Nat} {bb : Bool} {c c' : List Value} {tt : TypeId} {ad : Addr} (hF : OpenF F) (hw : wn ops env g = some true) (hx : ev env x = some (.pointer (some ad))) (had : ad = ⟨b, o, none⟩) (hy : ev env y = some v) (ht : tyOf P t = some (bb, nn)) (hn : v.cells.size = nn) (h1 : ∀ u ∈ v.cells.toList, u.oneCell' = true) (hl : Nat.ble (o + nn) c.length = true) (hc : setL c o v.cells.toList = c')
    (st : St w0 W H0 H (.box b (.cells c.toArray tt (0, 0)) :: L)) (kk : ∀ W', St w0 W' H0 H (.box b (.cells c'.toArray tt (0, 0)) :: L) → W.grownBy W' (some b) → WLI F n P ops Q rest N D env W') : WLI F n P ops Q (⟨none, .store t x y, ty, pos, aft, g⟩ :: rest) N D env W := fun a ha => by
  obtain ⟨W', hr, hst, hg⟩ := store_run (P := P) (ty := ty) (pos := pos) (aft := aft) (g := g) (ha.eval hx) had (ha.eval hy) ht hn h1 hl hc st
  refine wpListIn_one (wn_wanted ha.h (o := ⟨none, .store t x y, ty, pos, aft, g⟩) hw) (hF.op (fun c hc => by cases hc) (fun r as w' e => by rw [hr] at e; cases e) ?_)
  unfold Oper.wp
  rw [hr]
  exact kk W' hst hg a ha
/-- A region where yield is called, in a walk that has no round. -/
theorem CW.regI {i : Nat} {lo : List Oper} (n : Nat) (h : WLI Fence.wide n P lo.toArray Q lo N [] env W) : CW P (.region i lo.toArray false) Q N env W := fun a ha =>
  wpIn_wide.1 (wpIn_region_lit (h a ⟨ha.size, ha.defers, ha.get⟩))
theorem WLI.nilW (h : QX .normal Q N env W) : WLI F n P ops Q [] N [] env W := fun a ha => h a ⟨ha.size, ha.defers, ha.get⟩
/-! ### code in a round -/
theorem CWI.reg {i : Nat} {lo : List Oper} (h : WLI F n P lo.toArray Q lo N D env W) : CWI F n P (.region i lo.toArray false) Q N D env W := fun a ha => wpIn_region_lit (h a ha)
theorem CWI.seq {x y : Code} (h : CWI F n P x (Exit.then (fun a w => y.wpIn F n P Q a w) Q) N D env W) : CWI F n P (.seq x y) Q N D env W := fun a ha => wpIn_seq (h a ha)
theorem CWI.skip (h : QD .normal Q N D env W) : CWI F n P .skip Q N D env W := fun a ha => wpIn_skip (h a ha)
theorem CWI.ret (h : QD .ret Q N D env W) : CWI F n P .ret Q N D env W := fun a ha => wpIn_ret (h a ha)
theorem CWI.exit {i : Nat} (h : QD (.exit i) Q N D env W) : CWI F n P (.exit i) Q N D env W := fun a ha => wpIn_exit (h a ha)
theorem CWI.condP {x y : Code} {b : Bool} {p q : Prop} (t : Nat) (ht : lk env t = some (.bool b)) (hp : b = true → p) (hq : b = false → q) (h1 : p → CWI F n P x Q N D ((t, .bool true) :: env) W) (h0 : q → CWI F n P y Q N D ((t, .bool false) :: env) W) : CWI F n P (.cond (.tmp t) x y) Q N D env W := fun a ha =>
  wpIn_cond_split (ha.eval (x := .tmp t) ht) (fun e => h1 (hp e) a (ha.again ht (by rw [e]))) (fun e => h0 (hq e) a (ha.again ht (by rw [e])))
theorem QD.thenI {y : Code} {Q' : Exit → Act → World → Prop} (h : CWI F n P y Q N D env W) : QD .normal (Exit.then (fun a w => y.wpIn F n P Q a w) Q') N D env W := h
end
theorem Calls.enter {P : Program} {f : FuncId} {fn : Func} {c : Code} {l : List Value} {w : World} {R : Ending → World → Prop} {N : Nat} (hf : P.funcs[f]? = some fn) (hb : fn.body = some c) (hn : fn.ntmps = N) (hl : Nat.ble l.length N = true)
    (h : CW P c (bodyPost P fn R) N (envOf l 0) w) : Calls P f l.toArray w R := by
  refine calls_of_wp hf hb (h _ ⟨?_, rfl, fun i v e => ?_⟩)
  · have := Nat.le_of_ble_eq_true hl
    simp [hn]
    omega
  · obtain ⟨_, h2⟩ := lk_envOf l 0 i v e
    have hi : i < l.length := by
      have := (List.getElem?_eq_some_iff.1 h2).1
      omega
    simp only [Nat.sub_zero] at h2
    rw [Array.getElem?_append_left (by simpa using hi)]
    simpa using h2
/-- A caller's invariant abides what leaves all that lay. -/
theorem abides_below {β : Type} {B : Nat} {J : β → World → Prop} (h : AbidesFrom B J) {s : β} {W W' : World} (hj : J s W) (hb : Below W.heap.size W W') : J s W' :=
  h s W W' none hj ⟨hb.os, hb.tape, hb.output, hb.size, fun k hk _ => hb.block k hk⟩ (fun r e => by cases e)
theorem Sub.below {H : PH} {w W : World} (h : Sub H w) (hb : Below w.heap.size w W) : Sub H W := fun b o e => (hb.block b (Array.getElem?_eq_some_iff.1 (h b o e)).1).trans (h b o e)
/-- A contract of a function that ranges over functions. -/
theorem Spec.marks {P : Program} {f : FuncId} {fn : Func} {c : Code} {l : List Value} {w : World} {H : PH} {Post : PH → Value → Prop} {N : Nat} (hf : P.funcs[f]? = some fn) (hb : fn.body = some c) (hn : fn.ntmps = N) (hl : Nat.ble l.length N = true)
    (h : CW P c (bodyPostM Fence.wide 3 P fn (fun e W' => ∃ v H', e = .returned v ∧ St w W' H H' [] ∧ Post H' v)) N (envOf l 0) w) : Spec P f l.toArray w H Post := by
  refine (callsIn_wide (n := 3)).1 (callsIn_of_wp_marks hf hb trivial (wpIn_wide.2 (h _ ⟨?_, rfl, fun i v e => ?_⟩)) rfl)
  · have := Nat.le_of_ble_eq_true hl
    simp [hn]
    omega
  · obtain ⟨_, h2⟩ := lk_envOf l 0 i v e
    have hi : i < l.length := by
      have := (List.getElem?_eq_some_iff.1 h2).1
      omega
    simp only [Nat.sub_zero] at h2
    rw [Array.getElem?_append_left (by simpa using hi)]
    simpa using h2
/-- What is owned lies in cells. -/
def Own.celly : Own → Prop
  | .box _ o => o.isCells = true
  | .row .. => True
theorem Own.celly_at {base : Nat} {W : World} {e : Own} (h : e.is base W) (hc : e.celly) {k : Nat} (hk : e.blk = some k) : ∃ o : Obj, W.heap[k]? = some o ∧ o.isCells = true := by
  cases e with
  | box b o =>
    simp only [Own.blk, Option.some.injEq] at hk
    subst hk
    exact ⟨o, h.2, hc⟩
  | row v t sz n xs =>
    rcases h.2 with ⟨h0, _⟩ | ⟨g, cap, cur, h0, _, hg, _⟩
    · subst h0; cases hk
    · subst h0
      simp only [Own.blk, Value.ownBlock, Option.some.injEq] at hk
      subst hk
      exact ⟨_, hg, rfl⟩
/-- What a call's state says abides what a range turns. -/
theorem St.grownF {w0 W W' : World} {H0 H : PH} {L : List Own} {B : Nat} {row : Option Nat} (st : St w0 W H0 H L) (hB : w0.heap.size ≤ B) (hH : ∀ b o, H b = some o → b < B) (hL : ∀ e ∈ L, e.celly)
    (hg : W.grownBy W' row) (hr : ∀ r, row = some r → B ≤ r ∧ ∃ o : Obj, W.heap[r]? = some o ∧ o.isCells = false) : St w0 W' H0 H L where
  sub := fun b o e => (hg.block b (st.lt e) (fun e' => by
    have := (hr b e'.symm).1
    have := hH b o e
    omega)).trans (st.sub b o e)
  le := st.le
  low := st.low
  bel := st.bel.trans ⟨hg.os, hg.tape, hg.output, hg.size, fun k hk => hg.block k (by have := st.bel.size; omega) (fun e' => by
    have := (hr k e'.symm).1
    omega)⟩
  own := fun e he => by
    obtain ⟨h1, h2⟩ := st.own e he
    refine ⟨Own.is_move h1 (fun k hk => ?_), h2⟩
    refine hg.block k (Own.is_lt h1 hk).2 (fun e' => ?_)
    obtain ⟨_, o, ho, hc⟩ := hr k e'.symm
    obtain ⟨o', ho', hc'⟩ := Own.celly_at h1 (hL e he) hk
    rw [ho] at ho'
    cases ho'
    rw [hc] at hc'
    cases hc'
  nd := st.nd
/-- What a call's state says abides the turn of a block that it does not tell of. -/
theorem St.grownB {w0 W W' : World} {H0 H : PH} {L : List Own} {b : Nat} (st : St w0 W H0 H L) (hB : w0.heap.size ≤ b) (hH : H b = none) (hL : ∀ e ∈ L, e.blk ≠ some b) (hg : W.grownBy W' (some b)) : St w0 W' H0 H L where
  sub := fun k o e => (hg.block k (st.lt e) (fun e' => by cases e'; rw [hH] at e; cases e)).trans (st.sub k o e)
  le := st.le
  low := st.low
  bel := st.bel.trans ⟨hg.os, hg.tape, hg.output, hg.size, fun k hk => hg.block k (by have := st.bel.size; omega) (fun e' => by cases e'; omega)⟩
  own := fun e he => by
    obtain ⟨h1, h2⟩ := st.own e he
    exact ⟨Own.is_move h1 (fun k hk => hg.block k (Own.is_lt h1 hk).2 (fun e' => by cases e'; exact hL e he hk)), h2⟩
  nd := st.nd
/-! ### an iterator that writes one block of its own maker's -/
def TurnsB {β : Type} (b : Nat) (J : β → World → Prop) : Prop := ∀ s A B, J s A → A.grownBy B (some b) → J s B
def SeqB {α : Type} (F : Fence) (n : Nat) (P : Program) (g : Nat) (lb : Array Value) (encs : α → Array Value) (G : α → Prop) (Kp : World → World → Prop) (S Sp : List α → Prop) (N b : Nat) (w : World) : Prop :=
  ∀ (l : Nat) (J Jx : List α → World → Prop) (W : World), Below w.heap.size w W → AbidesFrom W.heap.size J → AbidesFrom W.heap.size Jx → TurnsB b J → TurnsB b Jx →
    (∀ pre x W1, G x → J pre W1 → pre.length < N → YieldAt F (n - 1) P l (encs x) W1 fun e W' =>
      (e = .returned (.bool true) ∧ J (pre ++ [x]) W' ∧ Kp W1 W') ∨ (e = .returned (.bool false) ∧ Jx (pre ++ [x]) W')) →
    J [] W →
    CallsIn F n P g (#[.func (.yield l) #[] #[]] ++ lb) W fun e W' => (∃ v, e = .returned v) ∧ ((∃ xs, S xs ∧ J xs W') ∨ (∃ pre, Sp pre ∧ Jx pre W'))
theorem rangeB {α : Type} {P : Program} {n : Nat} {g : Operand} {ps : Array Tmp} {assign body : Code} {Q : Exit → Act → World → Prop} {a : Act} {w w0 : World} {gf b N : Nat} {lb : Array Value} {encs : α → Array Value} {G : α → Prop} {Kp : World → World → Prop} {S Sp : List α → Prop}
    (hg : a.eval g = .func (.func gf) #[] lb) (eg : En P gf) (hseq : SeqB Fence.wide (n - 1) P gf lb encs G Kp S Sp N b w0) (h1 : 1 ≤ n) (hb : b < w.heap.size)
    (hKt : ∀ {A B C : World}, Kp A B → Kp B C → Kp A C) (hKb : ∀ (W : World) (l : Nat) (o o' : Obj), w.heap.size ≤ l → W.heap[l]? = some o → o.isCells = false → o.isWalk = false → Kp W (W.putObj l o')) (hb0 : Below w0.heap.size w0 w) (hps : ∀ x, (encs x).size = ps.size)
    (I : List α → World → Prop) (Ix : Code → List α → World → Prop) (hI : OwnFrom w.heap.size I) (hIx : ∀ c, OwnFrom w.heap.size (Ix c)) (hT : TurnsB b I) (hTx : ∀ c, TurnsB b (Ix c)) (h0 : I [] w) (a1 : α → Act)
    (hassign : ∀ (l : Nat) (x : α) (W : World) (K : Act → World → Prop), K (a1 x) W →
      assign.wpIn (Fence.wide.inRound l) (n - 1 - 1) P (Exit.then K (fun _ _ _ => False)) { tmps := (ps.zip (encs x)).foldl (fun t (p, v) => t.setIfInBounds p v) a.tmps, defers := [] } W)
    (hbody : ∀ (l : Nat) (pre : List α) (x : α) (W : World), G x → I pre W → pre.length < N → body.wpIn (Fence.wide.inRound l) (n - 1 - 1) P (ownPostK Kp I Ix (pre ++ [x]) W) (a1 x) W)
    (hdone : ∀ (D : Nat) (xs : List α) (W : World), w.heap.size ≤ D → S xs → I xs W → W.heap[D]? = some (.deferred (some [])) → Q .normal { a with defers := { target := .collected D, args := #[] } :: a.defers } W)
    (hstop : ∀ (D : Nat) (c : Code) (pre : List α) (W : World), w.heap.size ≤ D → Sp pre → Ix c pre W → W.heap[D]? = some (.deferred (some [])) → c.wpIn Fence.wide n P Q { a with defers := { target := .collected D, args := #[] } :: a.defers } W) :
    (Code.rangeFunc g ps assign body).wpIn Fence.wide n P Q a w := by
  refine wpIn_rangeFunc (fun fn hfn => ?_)
  obtain ⟨R, hR⟩ : ∃ R : LoopState → Option Code → Loop, ∀ s p, R s p = { state := s, pending := p, fn, tmps := a.tmps, params := ps, assign, body, defers := w.heap.size } := ⟨_, fun _ _ => rfl⟩
  obtain ⟨V, hV⟩ : ∃ V, (w.alloc (.deferred (some []))).alloc (.loop (R .ready none)) = V := ⟨_, rfl⟩
  have hVs : V.heap.size = w.heap.size + 2 := by rw [← hV]; simp
  have hVl : V.heap[w.heap.size + 1]? = some (.loop (R .ready none)) := by
    have := heap_new (w.alloc (.deferred (some []))) (.loop (R .ready none))
    rw [hV, World.size_alloc] at this
    exact this
  have hVd : V.heap[w.heap.size]? = some (.deferred (some [])) := by
    rw [← hV]
    exact (Below.heap_alloc _ _ _ (by simp)).trans (heap_new w _)
  have bk : ∀ {A B : World} {row : Option Nat} {k : Nat} {o : Obj}, A.grownBy B row → (∀ r, row = some r → r ≠ k) → A.heap[k]? = some o → B.heap[k]? = some o := fun hg hr hk =>
    (hg.block _ (Array.getElem?_eq_some_iff.1 hk).1 (fun e => hr _ e.symm rfl)).trans hk
  have nw : ∀ {A : World} {row : Option Nat}, (∀ r, row = some r → V.heap.size ≤ r ∧ ∃ o : Obj, A.heap[r]? = some o ∧ o.isWalk = true) → (∀ r, row = some r → w.heap.size ≤ r ∧ ∃ o : Obj, A.heap[r]? = some o ∧ o.isCells = false) := fun h r e => by
    obtain ⟨h1, o, h2, h3⟩ := h r e
    exact ⟨by omega, o, h2, Obj.not_cells_of_walk h3⟩
  refine ⟨w.heap.size + 1, [{ target := .collected w.heap.size, args := #[] }], V, { target := .fn (.func gf) lb, args := #[.func (.yield (w.heap.size + 1)) #[] #[]] }, V, gf, #[.func (.yield (w.heap.size + 1)) #[] #[]] ++ lb, V, ?_, ?_, fun _ _ => trivial, ?_, fun _ => h1, ?_⟩
  · rw [← hV, hR]
    exact run_enterLoop_outer _ _ _ _ _
  · simp only [resolve, hg]
    simp [go_sem]
  · simp [invoke, go_sem, eg _ V]
  refine (hseq (w.heap.size + 1) (fun pre W => I pre W ∧ W.heap[w.heap.size + 1]? = some (.loop (R .ready none)) ∧ W.heap[w.heap.size]? = some (.deferred (some [])))
    (fun pre W => ∃ c, Ix c pre W ∧ W.heap[w.heap.size + 1]? = some (.loop (R .done (some c))) ∧ W.heap[w.heap.size]? = some (.deferred (some []))) V
    (by rw [← hV]; exact hb0.trans ((((Below.refl _ w).alloc (Nat.le_refl _) _).alloc (by simp) _).mono hb0.size))
    (fun s A B row hs hg hr => ⟨hI s A B row hs.1 hg (nw hr), bk hg (fun r e => by have := (hr r e).1; omega) hs.2.1, bk hg (fun r e => by have := (hr r e).1; omega) hs.2.2⟩)
    (fun s A B row ⟨c, hs⟩ hg hr => ⟨c, hIx c s A B row hs.1 hg (nw hr), bk hg (fun r e => by have := (hr r e).1; omega) hs.2.1, bk hg (fun r e => by have := (hr r e).1; omega) hs.2.2⟩)
    (fun s A B hs hg => ⟨hT s A B hs.1 hg, bk hg (fun r e => by cases e; omega) hs.2.1, bk hg (fun r e => by cases e; omega) hs.2.2⟩)
    (fun s A B ⟨c, hs⟩ hg => ⟨c, hTx c s A B hs.1 hg, bk hg (fun r e => by cases e; omega) hs.2.1, bk hg (fun r e => by cases e; omega) hs.2.2⟩)
    ?_ ⟨by rw [← hV]; exact hI.alloc _ (hI.alloc _ h0), hVl, hVd⟩).mono ?_
  · rintro pre x W hG ⟨hi, hl, hd⟩ hlen
    have hlt : w.heap.size + 1 < W.heap.size := (Array.getElem?_eq_some_iff.1 hl).1
    have hy := run_yield (P := P) (args := encs x) hl (by rw [hR]; exact hps x)
    rw [hR] at hy
    refine ⟨fn, _, assign, body, hy, roundIn_of_wpIn hfn (hassign _ x W _ ⟨_, run_beginRound hl (by rw [hR]), ?_⟩)⟩
    have k1 : Kp W (W.putObj (w.heap.size + 1) (.loop { R .ready none with state := .busy })) := hKb _ _ _ _ (by omega) hl rfl rfl
    have l1 : (W.putObj (w.heap.size + 1) (.loop { R .ready none with state := .busy })).heap[w.heap.size + 1]? = some (.loop { R .ready none with state := .busy }) := World.putObj_heap_same hlt
    have d1 : (W.putObj (w.heap.size + 1) (.loop { R .ready none with state := .busy })).heap[w.heap.size]? = some (.deferred (some [])) := (World.putObj_heap_other (by omega)).trans hd
    refine wpIn_mono (hbody _ pre x _ hG (hI.putObj _ hi (by omega) hl rfl) hlen) ?_
    have out : ∀ (j : Option Code) (X : World), KeepsOthers (W.putObj (w.heap.size + 1) (.loop { R .ready none with state := .busy })) X →
        (Instr.endRound (w.heap.size + 1) j).run P X = .ok (.bool j.isNone) (X.putObj (w.heap.size + 1) (.loop (R (if j.isNone then .ready else .done) j))) ∧ X.heap[w.heap.size + 1]? = some (.loop { R .ready none with state := .busy }) ∧
        (X.putObj (w.heap.size + 1) (.loop (R (if j.isNone then .ready else .done) j))).heap[w.heap.size + 1]? = some (.loop (R (if j.isNone then .ready else .done) j)) ∧ (X.putObj (w.heap.size + 1) (.loop (R (if j.isNone then .ready else .done) j))).heap[w.heap.size]? = some (.deferred (some [])) := fun j X hX => by
      have l2 := hX.same _ _ l1 rfl
      have e2 := run_endRound (P := P) j l2
      rw [hR] at e2 ⊢
      exact ⟨e2, hX.same _ _ l1 rfl, World.putObj_heap_same (Array.getElem?_eq_some_iff.1 l2).1, (World.putObj_heap_other (by omega)).trans (hX.same _ _ d1 rfl)⟩
    have left : ∀ (c : Code) (X : World), KeepsOthers (W.putObj (w.heap.size + 1) (.loop { R .ready none with state := .busy })) X → Ix c (pre ++ [x]) X → ∃ v Y, (Instr.endRound (w.heap.size + 1) (some c)).run P X = .ok v Y ∧ ((v = .bool false) ∧ ∃ c, Ix c (pre ++ [x]) Y ∧ Y.heap[w.heap.size + 1]? = some (.loop (R .done (some c))) ∧ Y.heap[w.heap.size]? = some (.deferred (some []))) := fun c X hX hi3 => by
      obtain ⟨r1, r2, r3, r4⟩ := out (some c) X hX
      exact ⟨_, _, r1, rfl, c, (hIx c).putObj _ hi3 (by omega) r2 rfl, r3, r4⟩
    rintro e a3 X hp
    cases e with
    | normal =>
      obtain ⟨hX, hk3, hi3⟩ := hp
      obtain ⟨r1, r2, r3, r4⟩ := out none X hX
      exact ⟨_, _, r1, .inl ⟨rfl, ⟨hI.putObj _ hi3 (by omega) r2 rfl, r3, r4⟩, hKt (hKt k1 hk3) (hKb _ _ _ _ (by omega) r2 rfl rfl)⟩⟩
    | ret =>
      obtain ⟨v, Y, q1, q2, q3⟩ := left .ret X hp.1 hp.2
      exact ⟨_, _, q1, .inr ⟨by rw [q2], q3⟩⟩
    | exit id =>
      obtain ⟨v, Y, q1, q2, q3⟩ := left (.exit id) X hp.1 hp.2
      exact ⟨_, _, q1, .inr ⟨by rw [q2], q3⟩⟩
    | goto t =>
      obtain ⟨v, Y, q1, q2, q3⟩ := left (.goto t) X hp.1 hp.2
      exact ⟨_, _, q1, .inr ⟨by rw [q2], q3⟩⟩
    | panic ch => exact hp.elim
    | outgrown => exact hp.elim
  · rintro e X ⟨⟨v, rfl⟩, ⟨xs, hS, hi, hl, hd⟩ | ⟨pre, hS, c, hi, hl, hd⟩⟩
    · exact ⟨none, _, by have := run_endLoop (P := P) hl (by rw [hR]; simp); rw [hR] at this; exact this, hdone _ xs _ (Nat.le_refl _) hS (hI.putObj _ hi (by omega) hl rfl) ((World.putObj_heap_other (by omega)).trans hd)⟩
    · exact ⟨some c, _, by have := run_endLoop (P := P) hl (by rw [hR]; simp); rw [hR] at this; exact this, hstop _ c pre _ (Nat.le_refl _) hS ((hIx c).putObj _ hi (by omega) hl rfl) ((World.putObj_heap_other (by omega)).trans hd)⟩
/-! ### calls that hand over what they own; ends -/
theorem St.growO {w0 W W' : World} {H0 H H' : PH} {L L' : List Own} (h : St w0 W H0 H L) (k : St W W' H H' L') : St w0 W' H0 H' (L' ++ L) where
  sub := k.sub
  le := h.le.trans k.le
  low := fun b hb => (k.low b (Nat.lt_of_lt_of_le hb h.bel.size)).trans (h.low b hb)
  bel := h.bel.trans (k.bel.mono h.bel.size)
  own := fun e he => by
    rcases List.mem_append.1 he with he | he
    · obtain ⟨h1, h2⟩ := k.own e he
      refine ⟨?_, h2⟩
      have hsz := h.bel.size
      cases e with
      | box b o => exact ⟨Nat.le_trans hsz h1.1, h1.2⟩
      | row v t sz n xs =>
        obtain ⟨q1, q2⟩ := h1
        refine ⟨q1, ?_⟩
        rcases q2 with q2 | ⟨g, cap, cur, q3, q4, q5⟩
        · exact .inl q2
        · exact .inr ⟨g, cap, cur, q3, Nat.le_trans hsz q4, q5⟩
    · obtain ⟨h1, h3⟩ := h.own e he
      exact ⟨Own.is_move h1 (fun b hb => k.bel.block _ (Own.is_lt h1 hb).2), fun b hb => (k.low _ (Own.is_lt h1 hb).2).trans (h3 b hb)⟩
  nd := by
    rw [List.filterMap_append, List.nodup_append]
    refine ⟨k.nd, h.nd, fun a ha b hb e => ?_⟩
    subst e
    have h1 := k.blk_lt ha
    have h2 := h.blk_lt hb
    omega
theorem WL.callR {P : Program} {ops : Array Oper} {Q : Exit → Act → World → Prop} {rest : List Oper} {N : Nat} {env : Env} {W : World} {d : Tmp} {ty : TypeId} {pos : String} {aft : Array Edge} {g : Option (Nat × Bool)} {f : Operand} {xs : List Operand} {ts : Array TypeId} {k : FuncId} {vs cap : List Value} {R : Ending → World → Prop} (hw : wn ops env g = some true) (hd : Nat.blt d N = true) (he : En P k) (hf : ev env f = some (.func (.func k) #[] cap.toArray)) (hx : evs env xs = some vs)
    (hsp : Calls P k (vs ++ cap).toArray W R) (hret : ∀ e W', R e W' → ∃ v, e = .returned v) (kk : ∀ v W', R (.returned v) W' → WL P ops Q rest N ((d, v) :: env) W') :
    WL P ops Q (⟨some d, .call { callee := .value f, args := xs.toArray, argTypes := ts }, ty, pos, aft, g⟩ :: rest) N env W :=
  WL.op (Post := fun v W' => R (.returned v) W') hw hd (fun a ha K Q hK => by
    unfold Oper.wp
    have hr : (execOp a.eval ⟨some d, .call { callee := .value f, args := xs.toArray, argTypes := ts }, ty, pos, aft, g⟩).run P W = .ok (.enter k (vs ++ cap).toArray) W := by
      simp [execOp, resolve, ha.eval hf, Deferred.ofValue, invoke, ha.evals hx, he _ W]
    rw [hr]
    refine Calls.mono hsp ?_
    intro e W' hR
    obtain ⟨v, rfl⟩ := hret e W' hR
    exact hK v W' hR) kk
/-- A store into a block that is no own one. -/
theorem WL.storeR {P : Program} {ops : Array Oper} {Q : Exit → Act → World → Prop} {rest : List Oper} {N : Nat} {env : Env} {W : World} {ty : TypeId} {pos : String} {aft : Array Edge} {g : Option (Nat × Bool)} {t tt : TypeId} {x y : Operand} {v u : Value} {b : Nat} (hw : wn ops env g = some true) (hx : ev env x = some (.pointer (some ⟨b, 0, none⟩))) (hy : ev env y = some v) (ht : tyOf P t = some (false, 1)) (hn : v.cells = #[v]) (h1 : v.oneCell' = true) (hb : W.heap[b]? = some (.cells #[u] tt (0, 0)))
    (kk : ∀ W', W.grownBy W' (some b) → W'.heap[b]? = some (.cells #[v] tt (0, 0)) → WL P ops Q rest N env W') : WL P ops Q (⟨none, .store t x y, ty, pos, aft, g⟩ :: rest) N env W :=
  WL.op (Post := fun _ W' => W.grownBy W' (some b) ∧ W'.heap[b]? = some (.cells #[v] tt (0, 0))) hw rfl (fun a ha K Q hK => by
    obtain ⟨W', k1, k2, k3, k4, k5, k6, k7⟩ := run_storeBox (P := P) v.cells.toList W b 0 0 #[u] tt hb (by simp [hn]) (one1 hn h1)
    unfold Oper.wp
    have hr : (execOp a.eval ⟨none, .store t x y, ty, pos, aft, g⟩).run P W = .ok .skip W' := by
      have hsz : v.cells.size = 1 := by rw [hn]; rfl
      simp [execOp, ha.eval hx, ha.eval hy, Instr.storeAt, Instr.sureAddr, storeVar, (tyOf_run ht W).2, hsz, k1]
    rw [hr]
    refine hK undef W' ⟨⟨k5, k6, k7, by omega, fun k _ hk => k3 k (fun e => hk (by rw [e]))⟩, ?_⟩
    rw [k2, hn]
    rfl) (fun _ W' h => kk W' h.1 h.2)
theorem finM0 {P : Program} {fn : Func} {n N : Nat} {env : Env} {a : Act} {w W : World} {H H' : PH} {L : List Own} {rs : List ResultVar} {vs : List Value} {Post : PH → Value → Prop} (hr : fn.results = rs.toArray) (st : St w W H H' L) (hv : Res P env W rs vs) (hp : Post H' (resV vs)) (ha : Holds N a env) :
    bodyPostM Fence.wide n P fn (fun e W' => ∃ v H', e = .returned v ∧ St w W' H H' [] ∧ Post H' v) .ret a W := by
  show LeavesInM Fence.wide n P fn a.tmps _ a.defers .returning W
  rw [ha.defers]
  exact ⟨_, run_results ha hr hv, _, H', rfl, st.bare, hp⟩
theorem finM {P : Program} {fn : Func} {n N D : Nat} {env : Env} {a : Act} {w W : World} {H H' : PH} {L : List Own} {rs : List ResultVar} {vs : List Value} {Post : PH → Value → Prop} (hr : fn.results = rs.toArray) (hK : W.heap[D]? = some (.deferred (some []))) (st : St w W H H' L) (hB : w.heap.size ≤ D) (hD : H' D = none) (hL : ∀ e ∈ L, e.celly)
    (hv : ∀ W', St w W' H H' L → Res P env W' rs vs) (hp : ∀ W', St w W' H H' L → ∃ H'', St w W' H H'' [] ∧ Post H'' (resV vs)) (ha : HoldsD N [{ target := .collected D, args := #[] }] a env) :
    bodyPostM Fence.wide n P fn (fun e W' => ∃ v H', e = .returned v ∧ St w W' H H' [] ∧ Post H' v) .ret a W := by
  show LeavesInM Fence.wide n P fn a.tmps _ a.defers .returning W
  rw [ha.defers]
  have st' : St w (W.putObj D (.deferred none)) H H' L := st.grownB hB hD (fun e he hb => by
    obtain ⟨o, ho, hc⟩ := Own.celly_at (st.own e he).1 (hL e he) hb
    rw [hK] at ho
    cases ho
    cases hc) (grownBy_putObj' W D _)
  obtain ⟨H'', h1, h2⟩ := hp _ st'
  exact ⟨by simp, .inl ⟨D, _, rfl, run_takeDeferred hK, _, run_results ha.h hr (hv _ st'), _, H'', rfl, h1, h2⟩⟩
theorem assign1 {F : Fence} {n i : Nat} {P : Program} {ty : TypeId} {pos : String} {aft : Array Edge} {src : Operand} {dst : Tmp} {v : Value} {a : Act} {W : World} {K : Act → World → Prop} {Q : Exit → Act → World → Prop} (hF : OpenF F) (hv : a.eval src = v) (hK : K (a.put (some dst) v) W) :
    (Code.region i #[⟨some dst, .assign src, ty, pos, aft, none⟩] false).wpIn F n P (Exit.then K Q) a W := by
  have hr : (execOp a.eval ⟨some dst, .assign src, ty, pos, aft, none⟩).run P W = .ok (.value v) W := by simp [execOp, hv]
  refine wpIn_region_lit (l := [⟨some dst, .assign src, ty, pos, aft, none⟩]) (wpListIn_one rfl (hF.op (fun c h => by cases h) (fun r as w' e => by rw [hr] at e; cases e) ?_))
  unfold Oper.wp
  rw [hr]
  exact hK
theorem KeepsOthers.of_below {W W' : World} (h : Below W.heap.size W W') : KeepsOthers W W' := ⟨h.size, fun k o hk _ => (h.block k (Array.getElem?_eq_some_iff.1 hk).1).trans hk⟩
theorem KeepsOthers.of_turn {W W' : World} {b : Nat} {o : Obj} (hg : W.grownBy W' (some b)) (h : W.heap[b]? = some o) (hc : o.isCells = true) : KeepsOthers W W' := KeepsOthers.of_grownBy hg (fun j o' e ho => by cases e; rw [h] at ho; cases ho; exact hc)
end Go.Proofs.TB
