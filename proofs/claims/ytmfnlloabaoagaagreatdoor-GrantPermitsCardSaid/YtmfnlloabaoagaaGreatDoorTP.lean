/- By hand: slices.AppendSeq over grant.by; grant.By. -/
import Derived.Test.YtmfnlloabaoagaaGreatDoorTO
import Derived.RangeFuncNested
set_option linter.unusedVariables false
set_option maxRecDepth 100000
namespace Go.Proofs.TB
open Go.RowKit
section
variable {F : Fence} {n : Nat} {P : Program} {ops : Array Oper} {Q : Exit → Act → World → Prop} {rest : List Oper} {N : Nat} {D : List Deferred} {env : Env} {W w0 : World} {d : Tmp} {op : Op} {ty t : TypeId} {pos : String} {aft : Array Edge} {g : Option (Nat × Bool)} {H0 H : PH} {L : List Own} {s x : Operand}
theorem WLI.runs {Post : Value → World → Prop} (hF : OpenF F) (hw : wn ops env g = some true) (hd : Nat.blt d N = true) (hnd : ∀ c, op ≠ .defer c) (h : ∀ a, HoldsD N D a env → ∃ v W', (execOp a.eval ⟨some d, op, ty, pos, aft, g⟩).run P W = .ok (.value v) W' ∧ Post v W') (kk : ∀ v W', Post v W' → WLI F n P ops Q rest N D ((d, v) :: env) W') : WLI F n P ops Q (⟨some d, op, ty, pos, aft, g⟩ :: rest) N D env W := fun a ha => by
  obtain ⟨v, W', hr, hp⟩ := h a ha
  refine wpListIn_one (wn_wanted ha.h (o := ⟨some d, op, ty, pos, aft, g⟩) hw) (hF.op (fun c hc => hnd c hc) (fun r q w' e => by rw [hr] at e; cases e) ?_)
  unfold Oper.wp
  rw [hr]
  exact kk v W' hp _ (ha.put hd v)
theorem Op1.run {Post : Value → World → Prop} {m : Act → Sem Value} (hd : Nat.blt d N = true) (he : ∀ a : Act, execOp a.eval ⟨some d, op, ty, pos, aft, g⟩ = (do pure (.value (← m a)))) (h : Op1 P ⟨some d, op, ty, pos, aft, g⟩ N env W Post) (a : Act) (ha : Holds N a env) : ∃ v W', (execOp a.eval ⟨some d, op, ty, pos, aft, g⟩).run P W = .ok (.value v) W' ∧ Post v W' := by
  have h1 := h a ha (fun a' W' => ∃ v, a' = a.put (some d) v ∧ Post v W') (fun _ _ _ => False) (fun v W' hp => ⟨v, rfl, hp⟩)
  unfold Oper.wp at h1
  rw [he] at h1 ⊢
  simp only [Sem.run_bind] at h1 ⊢
  generalize (m a).run P W = z at h1 ⊢
  cases z with
  | halt x w => cases x <;> exact h1.elim
  | ok v w =>
    obtain ⟨v', e, hp⟩ := h1
    have hl : d < a.tmps.size := by rw [ha.size]; simpa using hd
    have h2 := congrArg (fun b : Act => b.tmps[d]?) e
    simp [Act.put, hl] at h2
    subst h2
    exact ⟨v, w, rfl, hp⟩
theorem app_run {α : Type} [Enc α] {M : Nat} {e : TypeId} {z v : Value} {by_ : Nat} {l : List α} {s2 : Sl α} {dst : Option Tmp} {a : Act} (hs : apOf P t = some (e, z, Enc.sz α, by_)) (hz : z.cells.size = Enc.sz α) (hp : Nat.blt 0 (Enc.sz α) = true) (hv : a.eval s = v) (hx : a.eval x = .slice s2.a s2.l.length s2.cap) (k2 : Sl.Ok M H s2) (hne : s2.l ≠ []) (hb : (l.length + s2.l.length) * by_ ≤ 140737488355328) (hb2 : l.length + s2.l.length ≤ 140737488355328)
    (st : St w0 W H0 H (rowS v e l :: L)) : ∃ v1 w1, (execOp a.eval ⟨dst, .call { callee := .builtin .append, args := #[s, x], argTypes := #[t, t] }, ty, pos, aft, g⟩).run P W = .ok (.value v1) w1 ∧ St w0 w1 H0 H (rowS v1 e (l ++ s2.l) :: L) ∧ W.grownBy w1 v.ownBlock := by
  obtain ⟨i, g1, g2, g3, g4, g5⟩ := apOf_elim hs
  have hpos : 0 < Enc.sz α := by simpa using hp
  have hown := (st.own _ List.mem_cons_self).1
  rcases k2.atw st.sub with ⟨ad, hA, hat⟩ | h
  case inr => exact absurd h hne
  obtain ⟨v1, w1, hr, h2, h3, _, h5⟩ := run_append_own_at (P := P) W w0.heap.size t ty e i z (Enc.sz α) by_ g1 g2 g3 g4 g5 hz hpos v l.length (cellsL l) hown ad s2.l.length s2.cap (cellsL s2.l) (cellsL_len _) hat (cellsL_one _) (by simp only [maxLen]; omega) hb st.bel.size
  refine ⟨v1, w1, ?_, ?_, h3⟩
  · rw [hA] at hx
    simp [execOp, resolve, invoke, builtin, hv, hx, hr]
  · have : rowS v1 e (l ++ s2.l) = .row v1 e (Enc.sz α) (l.length + s2.l.length) (cellsL l ++ cellsL s2.l) := by
      simp only [rowS, cellsL_app, List.length_append]
    rw [this]
    refine st.turn h3.os h3.tape h3.output h3.size (fun k hk hne => h3.block k hk hne) h2 ?_
    rcases h5 with h5 | h5
    · exact .inl h5
    · exact .inr (.inl h5)
end
theorem St.less {w0 W : World} {H0 H : PH} {L : List Own} (st : St w0 W H0 H L) : St w0 W H0 H0 L :=
  ⟨fun b o e => st.sub b o (st.le b o e), Le.refl _, fun _ _ => rfl, st.bel, fun e he => ⟨(st.own e he).1, fun k hk => by
    cases h : H0 k with
    | none => rfl
    | some o => have := (st.own e he).2 k hk; rw [st.le k o h] at this; cases this⟩, st.nd⟩
theorem ap47o : apOf Tryz.prog 47 = some (23, .agg #[.int .i64 0, .string ⟨#[]⟩, .string ⟨#[]⟩], 3, 40) := by kernel_rfl
theorem ty47o : tyOf Tryz.prog 47 = some (false, 1) := by kernel_rfl
theorem ze23o : zeOf Tryz.prog 23 = some (.agg #[.int .i64 0, .string ⟨#[]⟩, .string ⟨#[]⟩]) := by kernel_rfl
theorem hits_ok {M : Nat} {H : PH} {a0 : Sl Object} (k0 : Sl.Ok M H a0) (k : Int) (s : ByteArray) (to : Ref) : OkL M H (hits a0.l k s to) := fun x hx => by
  obtain ⟨o, ho, rfl⟩ := List.mem_map.1 hx
  have h1 : Object.Ok M H o := OkL.of k0 o (List.mem_filter.1 ho).1
  exact h1.ref
theorem hits_len {l : List Object} {k : Int} {s : ByteArray} {to : Ref} : (hits l k s to).length ≤ l.length := by
  unfold hits
  rw [List.length_map]
  exact List.length_filter_le _ _
theorem c145 (a0 : Sl Object) (a1 : Int) (a2 : ByteArray) (a3 : Ref) (d0 d1 d2 d3 : Addr) {w : World} {H : PH} (hs : Sub H w) (k0 : Sl.Ok 1048576 H a0) (k2 : a2.size < 1048576) (k3 : Ref.Ok 1048576 H a3) (e0 : At H d0 [a0.v]) (e1 : At H d1 [.int .i64 a1]) (e2 : At H d2 [.string a2]) (e3 : At H d3 (Ref.c a3)) :
    Spec Tryz.prog 145 [.slice none 0 0, .func (.func 146) #[] [.pointer (some d0), .pointer (some d1), .pointer (some d2), .pointer (some d3)].toArray].toArray w H (fun H' v => ∃ x : Sl Ref, v = x.v ∧ Sl.Ok 1048576 H' x ∧ x.l = hits a0.l a1 a2 a3) := by
  refine Spec.marks Tryz.func145 rfl Tryz.ntmps145 rfl ?_
  have st := St.start hs
  refine CW.seq (CW.reg ?_)
  refine WL.boxo (c := #[.slice none 0 0]) rfl rfl rfl rfl st ?_
  intro b2 W1 st
  refine WL.pu rfl rfl (Pu.assign rfl) ?_
  refine WL.nil (QX.thenN ?_)
  refine CW.seq (CW.seq (CW.reg ?_))
  refine WL.pu rfl rfl (Pu.move rfl) ?_
  refine WL.nil (QX.thenN ?_)
  refine CW.blk ?_
  intro a ha
  refine (wpIn_wide (n := 3)).1 ?_
  have hB : ∀ b o, H b = some o → b < W1.heap.size := fun b o e => st.lt e
  have cel : ∀ (v : Value) (l : List Ref), ∀ e ∈ [rowS v 23 l, Own.box b2 (.cells #[v] 47 (0, 0))], e.celly := fun v l e he => by
    simp only [List.mem_cons, List.not_mem_nil, or_false] at he
    rcases he with rfl | rfl
    · trivial
    · rfl
  have hb2 := (Array.getElem?_eq_some_iff.1 (st.own _ (.head _)).1.2).1
  have hw1 := st.bel.size
  refine wpIn_rangeFunc_ownH rfl (by omega) (gf := 146) (lb := #[.pointer (some d0), .pointer (some d1), .pointer (some d2), .pointer (some d3)]) (ha.eval (x := .tmp 6) rfl) trivial (En.of Tryz.func146 (by kernel_rfl) rfl)
    (it146 a0 a1 a2 a3 d0 d1 d2 d3 hs k0 k2 k3 e0 e1 e2 e3 2) belowK_t (fun W l o o' hl h h1 h2 => belowK_b hw1 W l o o' hl h h1 h2) st.bel (fun _ => rfl)
    (fun pre W => W1.heap.size ≤ W.heap.size ∧ ∃ v, St w W H H [rowS v 23 pre, .box b2 (.cells #[v] 47 (0, 0))]) (fun _ _ _ => False)
    (fun s A B row hs hg hr => ⟨Nat.le_trans hs.1 hg.size, hs.2.imp fun v h => h.grownF hw1 hB (cel v s) hg hr⟩) (fun _ _ _ _ _ h _ _ => h) ⟨Nat.le_refl _, _, st.rownilS 23⟩
    (fun x a' W => ∃ Bx, W1.heap.size ≤ Bx ∧ W.heap[Bx]? = some (.cells (Ref.c x).toArray 23 (0, 0)) ∧ HoldsD 13 [] a' [(5, .pointer (some ⟨Bx, 0, none⟩)), (2, .pointer (some ⟨b2, 0, none⟩))])
    (fun x a' s A B row ⟨Bx, h1, h2, h3⟩ hg hr => ⟨Bx, h1, (hg.block _ (Array.getElem?_eq_some_iff.1 h2).1 (fun e => by
      obtain ⟨_, o, ho, hc⟩ := hr _ e.symm
      rw [h2] at ho
      cases ho
      cases hc)).trans h2, h3⟩) ?_ ?_ ?_ ?_
  · rintro l pre x W K ⟨hsz, v, stI⟩ hK
    have hF : OpenF (Fence.wide.inRound l) := .inr ⟨l, rfl⟩
    have hz2 : (#[7].zip #[x.v]).foldl (fun t (p, v) => t.setIfInBounds p v) a.tmps = a.tmps.setIfInBounds 7 x.v := by simp [Array.zip]
    rw [hz2]
    have hh : HoldsD 13 [] { tmps := a.tmps.setIfInBounds 7 x.v, defers := [] } [(7, x.v), (2, .pointer (some ⟨b2, 0, none⟩))] :=
      HoldsD.of (a := { tmps := a.tmps.setIfInBounds 7 x.v, defers := [] }) ((Holds.put ⟨ha.size, rfl, ha.get⟩ (a := { tmps := a.tmps, defers := [] }) (d := 7) rfl x.v).sub (.cons rfl (.cons rfl (.nil _)))) rfl
    refine CWI.reg ?_ _ hh
    refine WLI.runs (Post := fun u W' => u = .pointer (some ⟨W.heap.size, 0, none⟩) ∧ W' = W.alloc (.cells #[.int .i64 0, .string ⟨#[]⟩, .string ⟨#[]⟩] 23 (0, 0))) hF rfl rfl (fun c h => by cases h) (fun a' ha' => Op1.run rfl (m := fun _ => Instr.alloc 23 true (.tuple #[])) (fun _ => rfl) (alloc_op1 ze23o) a' ⟨ha'.size, ha'.defers, ha'.get⟩) ?_
    rintro _ _ ⟨rfl, rfl⟩
    refine WLI.store (o := 0) (c' := Ref.c x) hF rfl rfl rfl rfl ty23 rfl (Enc.one (α := Ref) _) rfl rfl (stI.allocOwn _) ?_
    intro W4 st4 hg
    refine WLI.nil (fun a3 ha3 => ?_)
    have hal : Below W.heap.size W (W.alloc (.cells #[.int .i64 0, .string ⟨#[]⟩, .string ⟨#[]⟩] 23 (0, 0))) := (Below.refl _ _).alloc (Nat.le_refl _) _
    have hs4 := hg.size
    rw [World.size_alloc] at hs4
    refine hK a3 W4 (((KeepsOthers.of_below hal).trans (KeepsOthers.of_turn hg ((stI.allocOwn _).own _ (.head _)).1.2 rfl)).from _) ((hal.mono (by omega)).grown hg (by rw [World.size_alloc]; omega) (fun k e => by cases e; omega)) ⟨by omega, v, st4.forget⟩ ⟨W.heap.size, hsz, (st4.own _ (.head _)).1.2, ha3.size, ha3.defers, (ha3.h.sub (.cons rfl (.cons rfl (.nil _)))).get⟩
  · rintro l pre x a' W hl hr ⟨hsz, v, stI⟩ ⟨Bx, hBx, hcx, hh⟩ hlen
    have hF : OpenF (Fence.wide.inRound l) := .inr ⟨l, rfl⟩
    refine wpIn_block (CWI.reg ?_ _ hh)
    refine WLI.pu hF rfl rfl (Pu.load rfl ty47o (AtW.block (stI.own _ (.tail _ (.head _))).1.2) rfl) ?_
    refine WLI.pu hF rfl rfl (Pu.load (v := Ref.v x) rfl ty23 (AtW.block hcx) rfl) ?_
    refine WLI.runs (Post := fun u W' => u = .slice (some ⟨W.heap.size, 0, none⟩) 1 1 ∧ W' = W.alloc (.cells (litCells [(0, Ref.v x)]).toArray 23 (0, 0))) hF rfl rfl (fun c h => by cases h) (fun a' ha' => Op1.run rfl (m := fun b => Instr.buildSlice 47 1 (#[(0, Operand.tmp 9)].map fun (i, x) => (i, b.eval x))) (fun _ => rfl) (bsl_op1 (xs := [(0, .tmp 9)]) ap47o rfl rfl rfl rfl rfl rfl) a' ⟨ha'.size, ha'.defers, ha'.get⟩) ?_
    rintro _ _ ⟨rfl, rfl⟩
    have hal : Below W.heap.size W (W.alloc (.cells (litCells [(0, Ref.v x)]).toArray 23 (0, 0))) := (Below.refl _ _).alloc (Nat.le_refl _) _
    have stA := stI.alloc (.cells (litCells [(0, Ref.v x)]).toArray 23 (0, 0))
    have kx : Sl.Ok (x.space.size + x.name.size + 1) (put1 H W.heap.size (.cells (litCells [(0, Ref.v x)]).toArray 23 (0, 0))) (⟨some ⟨W.heap.size, 0, none⟩, 1, [x]⟩ : Sl Ref) := ⟨Nat.le_refl _, by show 1 ≤ _; omega, fun i y hy => by
      cases i with
      | succ i => simp at hy
      | zero =>
        simp only [List.getElem?_cons_zero, Option.some.injEq] at hy
        subst hy
        refine ⟨⟨_, rfl, fun j u hj => ?_⟩, (⟨by omega, by omega⟩ : Ref.Ok _ _ x)⟩
        rw [addr_add_add, plain_add]
        simp only [pcell, put1_self, Option.isSome_none, Bool.false_eq_true, if_false]
        have hlc : litCells [(0, Ref.v x)] = Ref.c x := rfl
        rw [hlc]
        have hj' : (Ref.c x)[j]? = some u := hj
        simpa using hj'⟩
    refine WLI.runs (Post := fun u W' => St w W' H (put1 H W.heap.size (.cells (litCells [(0, Ref.v x)]).toArray 23 (0, 0))) [rowS u 23 (pre ++ [x]), .box b2 (.cells #[v] 47 (0, 0))] ∧ World.grownBy (W.alloc (.cells (litCells [(0, Ref.v x)]).toArray 23 (0, 0))) W' v.ownBlock) hF rfl rfl (fun c h => by cases h) (fun a' ha' => app_run (s2 := (⟨some ⟨W.heap.size, 0, none⟩, 1, [x]⟩ : Sl Ref)) ap47o rfl rfl (ha'.eval (x := .tmp 8) rfl) (ha'.eval (x := .tmp 10) rfl) kx (by simp) (by simp; omega) (by simp; omega) stA) ?_
    rintro u W5 ⟨st5, hg5⟩
    obtain ⟨A, m, c, rfl⟩ := row_form st5 (.head _)
    refine WLI.store (o := 0) (c' := [.slice A m c]) hF rfl rfl rfl rfl ty47o rfl (one1 rfl rfl) rfl rfl st5.front2 ?_
    intro W6 st6 hg6
    refine WLI.nil (fun a3 ha3 => ?_)
    have hs5 := hg5.size
    have hs6 := hg6.size
    rw [World.size_alloc] at hs5
    have hrow : ∀ k, v.ownBlock = some k → w.heap.size ≤ k ∧ ∃ o : Obj, (W.alloc (.cells (litCells [(0, Ref.v x)]).toArray 23 (0, 0))).heap[k]? = some o ∧ o.isCells = true := fun k hk => by
      have h1 := (stA.own _ (.head _)).1
      exact ⟨(Own.is_lt h1 hk).1, Own.celly_at h1 trivial hk⟩
    refine ⟨(((KeepsOthers.of_below hal).trans (KeepsOthers.of_grownBy hg5 (fun j o e ho => ?_))).trans (KeepsOthers.of_turn hg6 (st5.own _ (.tail _ (.head _))).1.2 rfl)).from _, ?_, by omega, _, st6.front2.less⟩
    · obtain ⟨_, o', ho', hc'⟩ := hrow j e
      rw [ho] at ho'
      cases ho'
      exact hc'
    · refine ((hal.mono (by omega)).grown hg5 (by rw [World.size_alloc]; omega) (fun k e => (hrow k e).1)).grown hg6 (by omega) (fun k e => by
        cases e
        exact (st.own _ (.head _)).1.1)
  · rintro D xs W hD rfl ⟨hsz, v, hI⟩ hK
    have hF : OpenF Fence.wide := .inl rfl
    obtain ⟨A, m, c, rfl⟩ := row_form hI (.head _)
    have hd : HoldsD 13 [{ target := .collected D, args := #[] }] { a with defers := { target := .collected D, args := #[] } :: a.defers } [(2, .pointer (some ⟨b2, 0, none⟩))] := ⟨ha.size, by show _ :: a.defers = _; rw [ha.defers], (ha.sub (.cons rfl (.nil _))).get⟩
    refine (wpIn_wide (n := 3)).1 (CWI.seq (CWI.reg ?_) _ hd)
    refine WLI.pu hF rfl rfl (Pu.load rfl ty47o (AtW.block (hI.own _ (.tail _ (.head _))).1.2) rfl) ?_
    refine WLI.pu hF rfl rfl (Pu.assign rfl) ?_
    refine WLI.nil (fun a' ha' => ?_)
    refine CWI.ret (F := Fence.wide) (n := 3) (P := Tryz.prog) (N := 13) (D := [{ target := .collected D, args := #[] }]) (env := [(4, .slice A m c)]) (fun a2' ha2 => ?_) a' ⟨ha'.size, ha'.defers, (ha'.h.sub (.cons rfl (.nil _))).get⟩
    refine finM (vs := [.slice A m c]) Tryz.results145 hK hI (by omega) ?_ (cel _ _) (fun W' s' => .tmp rfl .nil) (fun W' s' => ?_) ha2
    · cases e : H D with
      | none => rfl
      | some o => have := hB D o e; omega
    · obtain ⟨H', s2, l2, rfl, k⟩ := s'.settle (M := 1048576) (hits_ok k0 a1 a2 a3) (Nat.le_trans hits_len k0.top)
      exact ⟨H', s2.forget, _, rfl, k, rfl⟩
  · rintro D c pre W hD hr h
    exact h.elim
theorem en89 : En Tryz.prog 89 := En.of Tryz.func89 (by kernel_rfl) rfl
theorem en145 : En Tryz.prog 145 := En.of Tryz.func145 (by kernel_rfl) rfl
theorem c89 (a0 : Sl Object) (a1 : Int) (a2 : ByteArray) (a3 : Ref) (d0 d1 d2 d3 : Addr) {w : World} {H : PH} (hs : Sub H w) (k0 : Sl.Ok 1048576 H a0) (k2 : a2.size < 1048576) (k3 : Ref.Ok 1048576 H a3) (e0 : At H d0 [a0.v]) (e1 : At H d1 [.int .i64 a1]) (e2 : At H d2 [.string a2]) (e3 : At H d3 (Ref.c a3)) :
    Spec Tryz.prog 89 [.func (.func 146) #[] [.pointer (some d0), .pointer (some d1), .pointer (some d2), .pointer (some d3)].toArray].toArray w H (fun H' v => ∃ x : Sl Ref, v = x.v ∧ Sl.Ok 1048576 H' x ∧ x.l = hits a0.l a1 a2 a3) := by
  refine Spec.enter Tryz.func89 rfl Tryz.ntmps89 rfl ?_
  have st := St.start hs
  refine CW.seq (CW.reg ?_)
  refine WL.pu rfl rfl (Pu.assign rfl) ?_
  refine WL.nil (QX.thenN ?_)
  refine CW.seq (CW.reg ?_)
  refine WL.pu rfl rfl (Pu.move rfl) ?_
  refine WL.call rfl rfl en145 rfl rfl st (c145 a0 a1 a2 a3 d0 d1 d2 d3 st.sub k0 k2 k3 e0 e1 e2 e3) ?_
  rintro _ W1 H1 st l1 ⟨x, rfl, k, hx⟩
  refine WL.pu rfl rfl (Pu.assign rfl) ?_
  refine WL.nil (QX.thenN ?_)
  exact CW.ret (fun a ha => finR Tryz.results89 st (.tmp rfl .nil) ⟨x, rfl, k, hx⟩ ha)
def m21 (l : List Object) (k : Int) (s : ByteArray) (to : Ref) : List Ref := hits l k s to
theorem c21 (a0 : Sl Object) (a1 : Int) (a2 : ByteArray) (a3 : Ref) {w : World} {H : PH} (hs : Sub H w) (k0 : Sl.Ok 1048576 H a0) (k2 : a2.size < 1048576) (k3 : Ref.Ok 1048576 H a3) : Spec Tryz.prog 21 [a0.v, .int .i64 a1, .string a2, a3.v].toArray w H (fun H' v => ∃ x : Sl Ref, v = x.v ∧ Sl.Ok 1048576 H' x ∧ x.l = m21 a0.l a1 a2 a3) := by
  refine Spec.enter Tryz.func21 rfl Tryz.ntmps21 rfl ?_
  have st := St.start hs
  refine CW.seq (CW.reg ?_)
  refine WL.box rfl rfl rfl rfl st ?_
  intro b7 W1 H1 st l1 f7
  refine WL.pu rfl rfl (Pu.assign rfl) ?_
  refine WL.nil (QX.thenN ?_)
  refine CW.seq (CW.reg ?_)
  refine WL.pu rfl rfl (Pu.move rfl) ?_
  refine WL.pu rfl rfl (Pu.move rfl) ?_
  refine WL.pu rfl rfl (Pu.move rfl) ?_
  refine WL.pu rfl rfl (Pu.load (v := Ref.v a3) rfl ty23 (f7.w st.sub) rfl) ?_
  refine WL.call rfl rfl en90 rfl rfl st (c90 a0 a1 a2 a3 st.sub) ?_
  rintro _ W3 H3 st l3 ⟨d0, d1, d2, d3, rfl, e0, e1, e2, e3⟩
  have l13 := l1.trans l3
  refine WL.call rfl rfl en89 rfl rfl st (c89 a0 a1 a2 a3 d0 d1 d2 d3 st.sub (k0.le l13) k2 (k3.le l13) e0 e1 e2 e3) ?_
  rintro _ W4 H4 st l4 ⟨x, rfl, k, hx⟩
  refine WL.pu rfl rfl (Pu.assign rfl) ?_
  refine WL.nil (QX.thenN ?_)
  exact CW.ret (fun a ha => finR Tryz.results21 st (.tmp rfl .nil) ⟨x, rfl, k, hx⟩ ha)
end Go.Proofs.TB
