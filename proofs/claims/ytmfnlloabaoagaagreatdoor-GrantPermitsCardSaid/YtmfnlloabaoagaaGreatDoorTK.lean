/- Maps that a call owns; calls that change the caller's own box. -/
import Derived.Test.YtmfnlloabaoagaaGreatDoorTJ
import Derived.Lib.OthersKept
import Derived.Lib.RuneCount
import Derived.Laws.RangeString
set_option linter.unusedVariables false
set_option linter.unusedSimpArgs false
namespace Go.Proofs.TB
open Go.RowKit
section
variable {P : Program} {ops : Array Oper} {Q : Exit → Act → World → Prop} {rest : List Oper} {N : Nat} {env : Env} {W w0 : World} {d : Tmp} {ty t : TypeId} {pos : String} {aft : Array Edge} {g : Option (Nat × Bool)} {x ix y : Operand} {H0 H : PH} {L : List Own}
theorem WL.mkmap (hw : wn ops env g = some true) (hd : Nat.blt d N = true) (st : St w0 W H0 H L) (kk : ∀ b W', St w0 W' H0 H (.box b (.map #[] 0) :: L) → WL P ops Q rest N ((d, .map (some b)) :: env) W') : WL P ops Q (⟨some d, .makeMap t none, ty, pos, aft, g⟩ :: rest) N env W :=
  WL.op (Post := fun u W' => u = .map (some W.heap.size) ∧ W' = W.alloc (.map #[] 0)) hw hd (fun a ha K Q' hK => by
    unfold Oper.wp
    have hr : (execOp a.eval ⟨some d, .makeMap t none, ty, pos, aft, g⟩).run P W = .ok (.value (.map (some W.heap.size))) (W.alloc (.map #[] 0)) := by
      simp [execOp, Instr.makeMap, newObj, Sem.run]
    rw [hr]
    exact hK _ _ ⟨rfl, rfl⟩) (fun u W' ⟨h1, h2⟩ => by subst h1; subst h2; exact kk _ _ (st.allocOwn _))
def ment (k v : Value) (c : Nat) : MapEntry := { key := k, val := v, born := c }
theorem run_findKey {key : TypeId} {kd : TypeDesc} {k : Value} {es : List MapEntry} {r : Option (Nat × Value)} (hk : P.underlying key = some kd) (hf : Instr.findNow kd k es 0 = some r) (W : World) : (Instr.findKey key k es).run P W = .ok r W := by
  simp [Instr.findKey, run_underlying hk, hf]
theorem run_checkKey_int {key : TypeId} {q : IntKind} (hk : P.underlying key = some (.int q)) (b : Bool) (v : Value) (W : World) : (Instr.checkKey b 10000 key v).run P W = .ok () W := by
  unfold Instr.checkKey
  simp [run_underlying hk]
theorem run_getMap {b clock : Nat} {es : Array MapEntry} (h : W.heap[b]? = some (.map es clock)) : (getObj b).run P W = .ok (.map es clock) W := by
  simp [getObj, Sem.run, h]
theorem WL.mapins {key elem : TypeId} {q : IntKind} {k v : Value} {b : Nat} {es : List MapEntry} {clock : Nat} (hw : wn ops env g = some true) (ht : P.underlying t = some (.map key elem)) (hk : P.underlying key = some (.int q)) (hx : ev env x = some (.map (some b))) (hi : ev env ix = some k) (hy : ev env y = some v) (hf : Instr.findNow (.int q) k es 0 = some none)
    (st : St w0 W H0 H (.box b (.map es.toArray clock) :: L)) (kk : ∀ W', St w0 W' H0 H (.box b (.map (es ++ [ment k v clock]).toArray (clock + 1)) :: L) → WL P ops Q rest N env W') : WL P ops Q (⟨none, .insert t x ix y, ty, pos, aft, g⟩ :: rest) N env W :=
  WL.op (Post := fun _ W' => St w0 W' H0 H (.box b (.map (es ++ [ment k v clock]).toArray (clock + 1)) :: L)) hw rfl (fun a ha K Q' hK => by
    have hb := (st.own _ List.mem_cons_self).1
    obtain ⟨W', hW, h1, h2, h3, h4, h5, h6⟩ : ∃ W', (setObj b (.map (es ++ [ment k v clock]).toArray (clock + 1))).run P W = .ok () W' ∧ W'.heap[b]? = some (.map (es ++ [ment k v clock]).toArray (clock + 1)) ∧ (∀ j, j ≠ b → W'.heap[j]? = W.heap[j]?) ∧ W'.heap.size = W.heap.size ∧ W'.os = W.os ∧ W'.tape = W.tape ∧ W'.output = W.output := by
      have hlt : b < W.heap.size := (Array.getElem?_eq_some_iff.1 hb.2).1
      refine ⟨{ W with heap := W.heap.setIfInBounds b (.map (es ++ [ment k v clock]).toArray (clock + 1)) }, by
        have hb2 := hb.2
        simp [setObj, Sem.run, hb2], ?_, fun j hj => ?_, ?_, rfl, rfl, rfl⟩
      · simp [hlt]
      · show (W.heap.setIfInBounds b _)[j]? = _
        rw [Array.getElem?_setIfInBounds_ne (by omega)]
      · simp
    unfold Oper.wp
    have hr : (execOp a.eval ⟨none, .insert t x ix y, ty, pos, aft, g⟩).run P W = .ok .skip W' := by
      simp [execOp, ha.eval hx, ha.eval hi, ha.eval hy, Instr.mapUpdate, run_underlying ht, run_getMap hb.2, run_checkKey_int hk, run_findKey hk hf]
      rw [show ({ key := k, val := v, born := clock } : MapEntry) = ment k v clock from rfl, hW]
      rfl
    rw [hr]
    exact hK undef W' (st.turn h4 h5 h6 (by omega) (fun j _ hj => h2 j (fun e => hj (by rw [e]; rfl))) ⟨hb.1, h1⟩ (.inl rfl))) (fun _ W' h => kk W' h)
theorem Pu.mlook {key elem : TypeId} {q : IntKind} {k v : Value} {b i clock : Nat} {es : List MapEntry} (hx : ev env x = some (.map (some b))) (hi : ev env ix = some k) (ht : P.underlying t = some (.map key elem)) (hk : P.underlying key = some (.int q)) (h : W.heap[b]? = some (.map es.toArray clock)) (hf : Instr.findNow (.int q) k es 0 = some (some (i, v))) :
    Pu P ⟨some d, .lookup t x ix false, ty, pos, aft, g⟩ N env W v := fun a ha => by
  simp [execOp, ha.eval hx, ha.eval hi, Instr.lookup, run_underlying ht, run_getMap h, run_checkKey_int hk, run_findKey hk hf]
/-- A call that changes what its caller owns. -/
def SpecO (P : Program) (f : FuncId) (args : Array Value) (w w0 : World) (H0 H : PH) (L' : List Own) (R : PH → Value → Prop) : Prop :=
  Calls P f args w fun e W' => ∃ v H', e = .returned v ∧ St w0 W' H0 H' L' ∧ Le H H' ∧ R H' v
theorem SpecO.enter {f : FuncId} {fn : Func} {c : Code} {l : List Value} {w : World} {L' : List Own} {R : PH → Value → Prop} (hf : P.funcs[f]? = some fn) (hb : fn.body = some c) (hn : fn.ntmps = N) (hl : Nat.ble l.length N = true)
    (h : CW P c (bodyPost P fn (fun e W' => ∃ v H', e = .returned v ∧ St w0 W' H0 H' L' ∧ Le H H' ∧ R H' v)) N (envOf l 0) w) : SpecO P f l.toArray w w0 H0 H L' R := by
  refine calls_of_wp hf hb (h _ ⟨?_, rfl, fun i v e => ?_⟩)
  · have := Nat.le_of_ble_eq_true hl
    simp [hn]
    omega
  · obtain ⟨_, h2⟩ := lk_envOf l 0 i v e
    have hi : i < l.length := by
      have := (List.getElem?_eq_some_iff.1 h2).1
      omega
    simp only [Nat.sub_zero] at h2
    rw [Array.getElem?_append_left (by simpa using hi)]
    simpa using h2
theorem finO {fn : Func} {a : Act} {H' : PH} {L2 L' : List Own} {rs : List ResultVar} {vs : List Value} {R : PH → Value → Prop} (hr : fn.results = rs.toArray) (st : St w0 W H0 H' L2) (hv : Res P env W rs vs) (hL : L2 = L') (hle : Le H H') (hp : R H' (resV vs)) (ha : Holds N a env) :
    bodyPost P fn (fun e W' => ∃ v H', e = .returned v ∧ St w0 W' H0 H' L' ∧ Le H H' ∧ R H' v) .ret a W :=
  bodyPost_ret (run_results ha hr hv) ha.defers ⟨_, H', rfl, hL ▸ st, hle, hp⟩
end
section
variable {P : Program} {ops : Array Oper} {Q : Exit → Act → World → Prop} {C : World → Prop} {tail : List Nat} {f : Nat} {ll : Array Bool} {N : Nat} {env : Env} {d : Tmp} {ty t : TypeId} {pos : String} {aft : Array Edge} {gd : Option (Nat × Bool)} {w0 : World} {H0 H : PH} {L L' : List Own}
theorem WO.callO {fo : Operand} {xs : List Operand} {ts : Array TypeId} {k : FuncId} {vs cap : List Value} {R : PH → Value → Prop} (i : Nat) (hi : ops[i]? = some ⟨some d, .call { callee := .value fo, args := xs.toArray, argTypes := ts }, ty, pos, aft, gd⟩) (hw : wn ops env gd = some true) (hd : Nat.blt d N = true)
    (hg : tailB tail (ll.setIfInBounds i true) = false → ∀ H', Le H H' → Good C (Grew w0 H0 H' L')) (he : En P k) (hf : ev env fo = some (.func (.func k) #[] cap.toArray)) (hx : evs env xs = some vs) (hsp : ∀ W H', St w0 W H0 H' L → Le H H' → SpecO P k (vs ++ cap).toArray W w0 H0 H' L' R)
    (kk : ∀ v H', Le H H' → R H' v → WS P ops Q C tail f (ll.setIfInBounds i true) N ((d, v) :: env) (Grew w0 H0 H' L')) : WO P ops Q C tail f ll N env (Grew w0 H0 H L) i :=
  WO.wild (o := ⟨some d, .call { callee := .value fo, args := xs.toArray, argTypes := ts }, ty, pos, aft, gd⟩) (R := fun v H => R H v) i hi hw hd hg (fun W H' st le => by
    intro a ha K Q' hK
    unfold Oper.wp
    have hr : (execOp a.eval ⟨some d, .call { callee := .value fo, args := xs.toArray, argTypes := ts }, ty, pos, aft, gd⟩).run P W = .ok (.enter k (vs ++ cap).toArray) W := by
      simp [execOp, resolve, ha.eval hf, Deferred.ofValue, invoke, ha.evals hx, he _ W]
    rw [hr]
    refine Calls.mono (hsp W H' st le) ?_
    rintro e W' ⟨v, H2, rfl, hst, hle, hp⟩
    exact hK v W' ⟨H2, hst, hle, hp⟩) kk
theorem WS.re {S : World → Prop} {u v : Value} (t : Nat) (ht : lk env t = some u) (e : u = v) (k : WS P ops Q C tail f ll N ((t, v) :: env) S) : WS P ops Q C tail f ll N env S := fun a ha => k a (ha.again ht e)
end
theorem size_ne {s : ByteArray} (h : ¬ s = ⟨#[]⟩) : 1 ≤ s.size := by
  rcases Nat.eq_zero_or_pos s.size with h0 | h0
  · exact absurd (ByteArray.size_eq_zero_iff.1 h0) h
  · exact h0
/-! ### ranges over texts -/
def rc (s : ByteArray) (p : Nat) : Int := ((Utf8.decode s p).1 : Nat)
def rw_ (s : ByteArray) (p : Nat) : Nat := (Utf8.decode s p).2
theorem rw_pos {s : ByteArray} {p : Nat} (h : p < s.size) : 1 ≤ rw_ s p := Lib.decode_width_pos s p h
section
variable {P : Program} {ops : Array Oper} {Q : Exit → Act → World → Prop} {rest : List Oper} {N : Nat} {env : Env} {W w0 : World} {d : Tmp} {ty t : TypeId} {pos : String} {aft : Array Edge} {g : Option (Nat × Bool)} {x : Operand} {H0 H : PH} {L : List Own} {s : ByteArray}
theorem WL.range (hw : wn ops env g = some true) (hd : Nat.blt d N = true) (hx : ev env x = some (.string s)) (ht : P.underlying t = some .string) (st : St w0 W H0 H L) (kk : ∀ b W', St w0 W' H0 H (.box b (.stringIter s 0) :: L) → WL P ops Q rest N ((d, .pointer (some ⟨b, 0, none⟩)) :: env) W') : WL P ops Q (⟨some d, .range t x, ty, pos, aft, g⟩ :: rest) N env W :=
  WL.op (Post := fun u W' => u = .pointer (some ⟨W.heap.size, 0, none⟩) ∧ W' = W.alloc (.stringIter s 0)) hw hd (fun a ha K Q' hK => by
    unfold Oper.wp
    have hr : (execOp a.eval ⟨some d, .range t x, ty, pos, aft, g⟩).run P W = .ok (.value (.pointer (some ⟨W.heap.size, 0, none⟩))) (W.alloc (.stringIter s 0)) := by
      simp [execOp, ha.eval hx, Instr.range, run_underlying ht, newObj, Sem.run]
    rw [hr]
    exact hK _ _ ⟨rfl, rfl⟩) (fun u W' ⟨h1, h2⟩ => by subst h1; subst h2; exact kk _ _ (st.allocOwn _))
theorem WL.next {b p : Nat} (hw : wn ops env g = some true) (hd : Nat.blt d N = true) (hx : ev env x = some (.pointer (some ⟨b, 0, none⟩))) (st : St w0 W H0 H (.box b (.stringIter s p) :: L))
    (h1 : p < s.size → ∀ W', St w0 W' H0 H (.box b (.stringIter s (p + rw_ s p)) :: L) → WL P ops Q rest N ((d, .tuple #[.bool true, .int .i64 (p : Int), .int .i32 (rc s p)]) :: env) W')
    (h0 : ¬ p < s.size → WL P ops Q rest N ((d, .tuple #[.bool false]) :: env) W) : WL P ops Q (⟨some d, .next x true, ty, pos, aft, g⟩ :: rest) N env W := by
  have hb := (st.own _ List.mem_cons_self).1
  by_cases h : p < s.size
  · refine WL.op (o := ⟨some d, .next x true, ty, pos, aft, g⟩) (Post := fun u W' => u = .tuple #[.bool true, .int .i64 (p : Int), .int .i32 (rc s p)] ∧ W' = W.iterAt b s (p + rw_ s p)) hw hd (fun a ha K Q' hK => by
      unfold Oper.wp
      have hr : (execOp a.eval ⟨some d, .next x true, ty, pos, aft, g⟩).run P W = .ok (.value (.tuple #[.bool true, .int .i64 (p : Int), .int .i32 (rc s p)])) (W.iterAt b s (p + rw_ s p)) := by
        simp only [execOp, ha.eval hx, Sem.run_bind, Lib.run_next_any_at W b s p _ hb.2 h]
        rfl
      rw [hr]
      exact hK _ _ ⟨rfl, rfl⟩) (fun u W' ⟨h2, h3⟩ => by
        subst h2; subst h3
        refine h1 h _ (st.turn rfl rfl rfl (by simp [World.iterAt]) (fun j _ hj => ?_) ⟨hb.1, ?_⟩ (.inl rfl))
        · have hne : b ≠ j := fun e => hj (by rw [e]; rfl)
          simp [World.iterAt, Array.getElem?_setIfInBounds_ne hne]
        · have hlt : b < W.heap.size := (Array.getElem?_eq_some_iff.1 hb.2).1
          simp [World.iterAt, hlt])
  · refine WL.pu (v := .tuple #[.bool false]) hw hd (fun a ha => ?_) (h0 h)
    simp only [execOp, ha.eval hx, Sem.run_bind, Lib.run_next_end_at W b s p _ hb.2 h]
    rfl
end
end Go.Proofs.TB
