/- Rows as data: literals, growth, reading. -/
import Derived.Test.YtmfnlloabaoagaaGreatDoorTH
import Derived.Laws.BytesString
set_option linter.unusedVariables false
set_option linter.unusedSimpArgs false
namespace Go.Proofs.TB
open Go.RowKit
def OkL {α : Type} [Enc α] (M : Nat) (H : PH) (l : List α) : Prop := ∀ x ∈ l, Enc.ok M H x
section
variable {α : Type} [Enc α] {M : Nat} {H H' : PH} {l m : List α}
theorem OkL.le (h : Le H H') (k : OkL M H l) : OkL M H' l := fun x hx => Enc.le h (k x hx)
theorem OkL.mono {M' : Nat} (h : M ≤ M') (k : OkL M H l) : OkL M' H l := fun x hx => Enc.mono h (k x hx)
theorem OkL.nil : OkL M H ([] : List α) := fun x hx => by cases hx
theorem OkL.app (h : OkL M H l) (k : OkL M H m) : OkL M H (l ++ m) := fun x hx => by
  rcases List.mem_append.1 hx with h1 | h1
  · exact h x h1
  · exact k x h1
theorem OkL.of {s : Sl α} (k : Sl.Ok M H s) : OkL M H s.l := fun x hx => by
  obtain ⟨i, hi, e⟩ := List.mem_iff_getElem.1 hx
  exact (k.get i x (by rw [List.getElem?_eq_getElem hi, e])).2
theorem OkL.cons {x : α} (h : Enc.ok M H x) (k : OkL M H l) : OkL M H (x :: l) := fun y hy => by
  rcases List.mem_cons.1 hy with rfl | h1
  · exact h
  · exact k y h1
theorem OkL.take (n : Nat) (k : OkL M H l) : OkL M H (l.take n) := fun x hx => k x (List.mem_of_mem_take hx)
theorem OkL.drop (n : Nat) (k : OkL M H l) : OkL M H (l.drop n) := fun x hx => k x (List.mem_of_mem_drop hx)
theorem OkL.set (i : Nat) {x : α} (h : Enc.ok M H x) (k : OkL M H l) : OkL M H (l.set i x) := fun y hy => by
  rcases List.mem_or_eq_of_mem_set hy with h1 | rfl
  · exact k y h1
  · exact h
end
theorem OkL.int {M : Nat} {H : PH} {l : List Int} : OkL M H l := fun _ _ => trivial
abbrev rowS {α : Type} [Enc α] (v : Value) (e : TypeId) (l : List α) : Own := .row v e (Enc.sz α) l.length (cellsL l)
section
variable {P : Program} {ops : Array Oper} {Q : Exit → Act → World → Prop} {rest : List Oper} {N : Nat} {env : Env} {W w0 : World} {d : Tmp} {ty t : TypeId} {pos : String} {aft : Array Edge} {g : Option (Nat × Bool)} {x s : Operand} {H0 H : PH} {L : List Own} {α : Type} [Enc α] {M : Nat}
theorem St.rownilS (st : St w0 W H0 H L) (e : TypeId) : St w0 W H0 H (rowS (.slice none 0 0) e ([] : List α) :: L) := st.rownil e _
theorem St.settle {A : Option Addr} {m c : Nat} {e : TypeId} {l : List α} (st : St w0 W H0 H (rowS (.slice A m c) e l :: L)) (hok : OkL M H l) (ht : l.length ≤ M) : ∃ H', St w0 W H0 H' L ∧ Le H H' ∧ m = l.length ∧ Sl.Ok M H' (⟨A, c, l⟩ : Sl α) := by
  obtain ⟨H', s, h1, h2, h3, h4, h5⟩ := st.rowkeep rfl hok ht
  obtain ⟨A', c', l'⟩ := s
  simp only at h4
  subst h4
  simp only [Sl.v, Value.slice.injEq] at h3
  obtain ⟨rfl, rfl, rfl⟩ := h3
  exact ⟨H', h1, h2, rfl, h5⟩
theorem len_row {base : Nat} {v : Value} {e : TypeId} {l : List α} {sz : Nat} (h : Own.is base W (rowS v e l)) (hx : ev env x = some v) (ht : slOf P t = some sz) : Pu P ⟨some d, .call { callee := .builtin .len, args := #[x], argTypes := #[t] }, ty, pos, aft, g⟩ N env W (.int .i64 (l.length : Int)) := by
  rcases h.2 with ⟨rfl, h0⟩ | ⟨gb, cap, cur, rfl, _⟩
  · rw [h0]; exact Pu.lens hx ht
  · exact Pu.lens hx ht
/-- A row is a slice. -/
theorem row_form {v : Value} {e : TypeId} {l : List α} (st : St w0 W H0 H L) (hm : rowS v e l ∈ L) : ∃ A m c, v = .slice A m c := by
  rcases (st.own _ hm).1.2 with ⟨rfl, h0⟩ | ⟨gb, cap, cur, rfl, _⟩
  · exact ⟨_, _, _, rfl⟩
  · exact ⟨_, _, _, rfl⟩
theorem WL.lit {e : TypeId} {z : Value} {sz by_ n : Nat} {xs : List (Nat × Operand)} {vs : List (Nat × Value)} (l : List α) (hw : wn ops env g = some true) (hd : Nat.blt d N = true) (hs : apOf P t = some (e, z, sz, by_)) (hz : z.cells.size = sz) (hp : Nat.blt 0 sz = true) (hsz : Enc.sz α = sz) (hx : evp env xs = some vs) (hn : vs.length = n) (hl : litOk sz 0 vs = true) (hle : Nat.ble (n * sz) 16777216 = true)
    (hc : litCells vs = cellsL l) (hln : l.length = n) (hM : n ≤ M) (hok : OkL M H l) (st : St w0 W H0 H L)
    (kk : ∀ b W' H', St w0 W' H0 H' L → Le H H' → Sl.Ok M H' (⟨some ⟨b, 0, none⟩, n, l⟩ : Sl α) → WL P ops Q rest N ((d, .slice (some ⟨b, 0, none⟩) l.length n) :: env) W') : WL P ops Q (⟨some d, .buildSlice t n xs.toArray, ty, pos, aft, g⟩ :: rest) N env W :=
  WL.op hw hd (bsl_op1 hs hz hp hx hn hl hle) (fun u W' ⟨h1, h2⟩ => by
    subst h1; subst h2
    have h3 := kk W.heap.size _ _ (st.alloc (.cells (litCells vs).toArray e (0, 0))) (le_put1 _ st.fresh) ⟨by simp [hln], by simpa [hln] using hM, fun i y hy => ⟨⟨_, rfl, fun j u hj => by
      rw [addr_add_add, plain_add]
      simp only [pcell, put1_self, Option.isSome_none, Bool.false_eq_true, if_false]
      rw [hc]
      have := cellsL_get l i y hy j u hj
      simpa using this⟩, Enc.le (le_put1 _ st.fresh) (hok y (List.mem_of_getElem? hy))⟩⟩
    rw [hln] at h3
    exact h3)
theorem WL.litrow {e : TypeId} {z : Value} {sz by_ n : Nat} {xs : List (Nat × Operand)} {vs : List (Nat × Value)} (l : List α) (hw : wn ops env g = some true) (hd : Nat.blt d N = true) (hs : apOf P t = some (e, z, sz, by_)) (hz : z.cells.size = sz) (hp : Nat.blt 0 sz = true) (hsz : Enc.sz α = sz) (hx : evp env xs = some vs) (hn : vs.length = n) (hl : litOk sz 0 vs = true) (hle : Nat.ble (n * sz) 16777216 = true)
    (hc : litCells vs = cellsL l) (hln : l.length = n) (st : St w0 W H0 H L)
    (kk : ∀ b W', St w0 W' H0 H (rowS (.slice (some ⟨b, 0, none⟩) n n) e l :: L) → WL P ops Q rest N ((d, .slice (some ⟨b, 0, none⟩) n n) :: env) W') : WL P ops Q (⟨some d, .buildSlice t n xs.toArray, ty, pos, aft, g⟩ :: rest) N env W :=
  WL.op hw hd (bsl_op1 hs hz hp hx hn hl hle) (fun u W' ⟨h1, h2⟩ => by
    subst h1; subst h2
    refine kk _ _ ?_
    have hle' := Nat.le_of_ble_eq_true hle
    have hpos : 0 < sz := by simpa using hp
    have hn2 : n ≤ n * sz := Nat.le_mul_of_pos_right n hpos
    refine (st.allocOwn (.cells (litCells vs).toArray e (0, 0))).turn (e' := rowS (.slice (some ⟨W.heap.size, 0, none⟩) n n) e l) rfl rfl rfl (Nat.le_refl _) (fun _ _ _ => rfl) ⟨by rw [cellsL_len], .inr ⟨W.heap.size, n, (litCells vs).toArray, by rw [hln], st.bel.size, heap_new W _, by omega, by unfold maxLen; omega, ?_, ?_⟩⟩ (.inl rfl)
    · rw [hc]; simp [cellsL_len, hln]
    · rw [hc, hln]; simp [← hln, ← cellsL_len])
theorem app_s {dst : Option Tmp} {e : TypeId} {z v : Value} {by_ : Nat} {l : List α} {s2 : Sl α} (hs : apOf P t = some (e, z, Enc.sz α, by_)) (hz : z.cells.size = Enc.sz α) (hp : Nat.blt 0 (Enc.sz α) = true) (hv : ev env s = some v) (hx : ev env x = some (.slice s2.a s2.l.length s2.cap)) (k2 : Sl.Ok M H s2) (hb : (l.length + s2.l.length) * by_ ≤ 140737488355328) (hb2 : l.length + s2.l.length ≤ 140737488355328)
    (st : St w0 W H0 H (rowS v e l :: L)) : Op1 P ⟨dst, .call { callee := .builtin .append, args := #[s, x], argTypes := #[t, t] }, ty, pos, aft, g⟩ N env W (fun u W' => St w0 W' H0 H (rowS u e (l ++ s2.l) :: L)) := by
  have hA : (∃ ad, s2.a = some ad ∧ AtW W ad (cellsL s2.l)) ∨ s2.l = [] := k2.atw st.sub
  have key : Op1 P ⟨dst, .call { callee := .builtin .append, args := #[s, x], argTypes := #[t, t] }, ty, pos, aft, g⟩ N env W (fun u W' => St w0 W' H0 H (.row u e (Enc.sz α) (l.length + s2.l.length) (cellsL l ++ cellsL s2.l) :: L)) := by
    rcases hA with h | h
    · exact app_op1 hs hz hp hv hx (.inl h) (cellsL_len _) (cellsL_one _) hb hb2 st
    · cases ha : s2.a with
      | none => exact app_op1 hs hz hp hv hx (.inr ⟨ha, by rw [h]; rfl⟩) (cellsL_len _) (cellsL_one _) hb hb2 st
      | some ad => exact app_op1 hs hz hp hv hx (.inl ⟨ad, ha, by rw [h]; intro j u hj; simp [cellsL] at hj⟩) (cellsL_len _) (cellsL_one _) hb hb2 st
  refine key.mono (fun v' W' h => ?_)
  have : rowS v' e (l ++ s2.l) = .row v' e (Enc.sz α) (l.length + s2.l.length) (cellsL l ++ cellsL s2.l) := by
    simp only [rowS, cellsL_app, List.length_append]
  rw [this]; exact h
theorem WL.appS {e : TypeId} {z v : Value} {sz by_ : Nat} {l : List α} {s2 : Sl α} (hw : wn ops env g = some true) (hd : Nat.blt d N = true) (hs : apOf P t = some (e, z, sz, by_)) (hz : z.cells.size = sz) (hp : Nat.blt 0 sz = true) (hsz : Enc.sz α = sz) (hv : ev env s = some v) (hx : ev env x = some (.slice s2.a s2.l.length s2.cap)) (k2 : Sl.Ok M H s2) (hb : (l.length + s2.l.length) * by_ ≤ 140737488355328) (hb2 : l.length + s2.l.length ≤ 140737488355328)
    (st : St w0 W H0 H (rowS v e l :: L)) (kk : ∀ A m c W', St w0 W' H0 H (rowS (.slice A m c) e (l ++ s2.l) :: L) → WL P ops Q rest N ((d, .slice A m c) :: env) W') : WL P ops Q (⟨some d, .call { callee := .builtin .append, args := #[s, x], argTypes := #[t, t] }, ty, pos, aft, g⟩ :: rest) N env W := by
  subst hsz
  exact WL.op hw hd (app_s hs hz hp hv hx k2 hb hb2 st) (fun v' W' h => by
    obtain ⟨A, m, c, rfl⟩ := row_form h (.head _)
    exact kk A m c W' h)
end
/-- A row that is not empty: where it lies. -/
theorem row_shape {w0 W : World} {H0 H : PH} {L : List Own} {α : Type} [Enc α] {A : Option Addr} {m c : Nat} {e : TypeId} {l : List α} (st : St w0 W H0 H L) (hm : rowS (.slice A m c) e l ∈ L) (h : 1 ≤ l.length) : ∃ g, A = some ⟨g, 0, none⟩ ∧ m = l.length := by
  rcases (st.own _ hm).1.2 with ⟨_, h0⟩ | ⟨g, cap, cur, hv, _⟩
  · omega
  · simp only [Value.slice.injEq] at hv
    exact ⟨g, hv.1, hv.2.1⟩
theorem row_el {base : Nat} {W : World} {α : Type} [Enc α] {e : TypeId} {l : List α} {g cap n : Nat} {i : Int} {y : α} (h : Own.is base W (rowS (.slice (some ⟨g, 0, none⟩) n cap) e l)) (hy : l[i.toNat]? = some y) : AtW W ((⟨g, 0, none⟩ : Addr).add (i.toNat * Enc.sz α)) (Enc.c y) := fun j u hj => by
  rcases h.2 with ⟨h0, _⟩ | ⟨g', cap', cur, h1, _, hh, _, _, _, ht⟩
  · cases h0
  · simp only [Value.slice.injEq, Option.some.injEq, Addr.mk.injEq, and_true] at h1
    obtain ⟨rfl, _, _⟩ := h1
    rw [addr_add_add, plain_add]
    simp only [World.cell?, hh, Option.isSome_none, Bool.false_eq_true, if_false]
    have h4 := cellsL_get l i.toNat y hy j u hj
    rw [← ht, List.getElem?_take] at h4
    split at h4
    · rw [← Array.getElem?_toList]; simpa using h4
    · cases h4
theorem setFrom_toList : ∀ (vs : List Value) (c : Array Value) (o : Nat), o + vs.length ≤ c.size → (setFrom c o vs).toList = c.toList.take o ++ vs ++ c.toList.drop (o + vs.length)
  | [], c, o, h => by simp [setFrom]
  | v :: r, c, o, h => by
    simp only [List.length_cons] at h
    rw [setFrom, setFrom_toList r _ (o + 1) (by simp; omega), Array.toList_setIfInBounds]
    have hlt : o < c.toList.length := by simp; omega
    have h1 : (c.toList.set o v).take (o + 1) = c.toList.take o ++ [v] := by
      rw [List.take_add_one, List.take_set_of_le (Nat.le_refl _), List.getElem?_set_self hlt]; rfl
    have h2 : (c.toList.set o v).drop (o + 1 + r.length) = c.toList.drop (o + (r.length + 1)) := by
      rw [List.drop_set_of_lt (by omega)]; congr 1; omega
    rw [h1, h2]; simp
theorem take_mid {cs c : List Value} {A S T : Nat} (hc : c.length = S) (h : A + S ≤ T) (hl : T ≤ cs.length) : (cs.take A ++ c ++ cs.drop (A + S)).take T = (cs.take T).take A ++ c ++ (cs.take T).drop (A + S) := by
  rw [List.take_append, List.take_of_length_le (by simp; omega), List.take_take, Nat.min_eq_left (by omega), List.drop_take]
  congr 2
  simp
  omega
theorem cellsL_set {α : Type} [Enc α] : ∀ (l : List α) (i : Nat) (y : α), i < l.length → cellsL (l.set i y) = (cellsL l).take (i * Enc.sz α) ++ Enc.c y ++ (cellsL l).drop (i * Enc.sz α + Enc.sz α)
  | [], i, y, h => by simp at h
  | x :: r, 0, y, h => by
    have := Enc.len x
    simp only [List.set_cons_zero, cellsL, List.flatMap_cons, Nat.zero_mul, List.take_zero, List.nil_append, Nat.zero_add]
    rw [List.drop_append_of_le_length (by omega), List.drop_of_length_le (by omega), List.nil_append]
  | x :: r, i + 1, y, h => by
    have hx := Enc.len x
    have ih := cellsL_set r i y (by simpa using h)
    simp only [cellsL, List.set_cons_succ, List.flatMap_cons] at ih ⊢
    rw [ih, Nat.add_mul, Nat.one_mul]
    have e1 : (Enc.c x ++ List.flatMap Enc.c r).take (i * Enc.sz α + Enc.sz α) = Enc.c x ++ (List.flatMap Enc.c r).take (i * Enc.sz α) := by
      rw [List.take_append, List.take_of_length_le (by omega), hx]; congr 2; omega
    have e2 : (Enc.c x ++ List.flatMap Enc.c r).drop (i * Enc.sz α + Enc.sz α + Enc.sz α) = (List.flatMap Enc.c r).drop (i * Enc.sz α + Enc.sz α) := by
      rw [List.drop_append, List.drop_of_length_le (by omega), hx, List.nil_append]; congr 1; omega
    rw [e1, e2]
    simp [List.append_assoc]
section
variable {P : Program} {N : Nat} {env : Env} {W w0 : World} {ty t : TypeId} {pos : String} {aft : Array Edge} {gd : Option (Nat × Bool)} {x y : Operand} {H0 H : PH} {L : List Own} {α : Type} [Enc α]
theorem storerow_op1 {ad : Addr} {i : Int} {v : Value} {z : α} {e : TypeId} {l : List α} {g cap nn n : Nat} {bb : Bool} (hx : ev env x = some (.pointer (some ad))) (had : ad = (⟨g, 0, none⟩ : Addr).add (i.toNat * Enc.sz α)) (hy : ev env y = some v) (ht : tyOf P t = some (bb, n)) (hn : n = Enc.sz α) (hv : v.cells.toList = Enc.c z) (h0 : 0 ≤ i) (h1 : i < l.length)
    (st : St w0 W H0 H (rowS (.slice (some ⟨g, 0, none⟩) nn cap) e l :: L)) : Op1 P ⟨none, .store t x y, ty, pos, aft, gd⟩ N env W (fun _ W' => St w0 W' H0 H (rowS (.slice (some ⟨g, 0, none⟩) nn cap) e (l.set i.toNat z) :: L)) := by
  intro a ha K Q hK
  subst hn; subst had
  have hi : i.toNat < l.length := by omega
  rcases (st.own _ List.mem_cons_self).1.2 with ⟨h, _⟩ | ⟨g', cap', cur, hs, hb, hh, hnc, hmx, hsz, htk⟩
  · cases h
  simp only [Value.slice.injEq, Option.some.injEq, Addr.mk.injEq, and_true] at hs
  obtain ⟨rfl, rfl, rfl⟩ := hs
  have hlen : v.cells.toList.length = Enc.sz α := by rw [hv, Enc.len]
  have hle : i.toNat * Enc.sz α + Enc.sz α ≤ l.length * Enc.sz α := by rw [← Nat.succ_mul]; exact Nat.mul_le_mul_right _ hi
  have hle2 : l.length * Enc.sz α ≤ cap * Enc.sz α := Nat.mul_le_mul_right _ hnc
  obtain ⟨W', k1, k2, k3, k4, k5, k6, k7⟩ := run_storeBox (P := P) v.cells.toList W g 0 (i.toNat * Enc.sz α) cur e hh (by rw [hlen, hsz]; omega) (by rw [hv]; exact Enc.one z)
  unfold Oper.wp
  have hr : (execOp a.eval ⟨none, .store t x y, ty, pos, aft, gd⟩).run P W = .ok .skip W' := by
    have hp := plain_add g (i.toNat * Enc.sz α)
    have hcs : v.cells.size = Enc.sz α := by simpa using hlen
    simp [execOp, ha.eval hx, ha.eval hy, Instr.storeAt, Instr.sureAddr, storeVar, (tyOf_run ht W).2, hcs, hp, k1]
  rw [hr]
  refine hK undef W' (st.turn k5 k6 k7 (by omega) (fun k _ hk => k3 k (fun e => hk (by rw [e]; rfl))) ⟨by rw [cellsL_len], .inr ⟨g, cap, _, by rw [List.length_set], hb, by simpa using k2, by rw [List.length_set]; exact hnc, hmx, by rw [setFrom_size, hsz], ?_⟩⟩ (.inl rfl))
  rw [setFrom_toList _ _ _ (by rw [hlen, hsz]; omega), hlen, hv, cellsL_set _ _ _ hi, ← htk, List.length_set]
  exact take_mid (Enc.len z) hle (by simp [hsz]; omega)
end
section
variable {P : Program} {ops : Array Oper} {Q : Exit → Act → World → Prop} {C : World → Prop} {tail : List Nat} {f : Nat} {ll : Array Bool} {N : Nat} {env : Env} {ty t : TypeId} {pos : String} {aft : Array Edge} {gd : Option (Nat × Bool)} {x y : Operand} {w0 : World} {H0 H : PH} {L : List Own} {α : Type} [Enc α]
theorem WO.storerow {ad : Addr} {j : Int} {v : Value} {z : α} {e : TypeId} {l : List α} {g cap nn n : Nat} {bb : Bool} (i : Nat) (hi : ops[i]? = some ⟨none, .store t x y, ty, pos, aft, gd⟩) (hw : wn ops env gd = some true) (htl : tailB tail (ll.setIfInBounds i true) = true) (hx : ev env x = some (.pointer (some ad))) (had : ad = (⟨g, 0, none⟩ : Addr).add (j.toNat * Enc.sz α)) (hy : ev env y = some v) (ht : tyOf P t = some (bb, n)) (hn : n = Enc.sz α) (hv : v.cells.toList = Enc.c z) (h0 : 0 ≤ j) (h1 : j < l.length)
    (kk : ∀ H', Le H H' → WS P ops Q C tail f (ll.setIfInBounds i true) N env (Grew w0 H0 H' (rowS (.slice (some ⟨g, 0, none⟩) nn cap) e (l.set j.toNat z) :: L))) : WO P ops Q C tail f ll N env (Grew w0 H0 H (rowS (.slice (some ⟨g, 0, none⟩) nn cap) e l :: L)) i :=
  WO.wild (o := ⟨none, .store t x y, ty, pos, aft, gd⟩) (R := fun _ _ => True) i hi hw rfl (fun h => absurd (htl.symm.trans h) (by decide)) (fun W H' st le => (storerow_op1 hx had hy ht hn hv h0 h1 st).mono fun v W' st' => ⟨H', st', Le.refl _, trivial⟩) (fun v H' le _ => kk H' le)
variable {d : Tmp} {M : Nat}
theorem lit_op1 {dst : Option Tmp} {W : World} {H : PH} {e : TypeId} {z : Value} {sz by_ n : Nat} {xs : List (Nat × Operand)} {vs : List (Nat × Value)} (l : List α) (hs : apOf P t = some (e, z, sz, by_)) (hz : z.cells.size = sz) (hp : Nat.blt 0 sz = true) (hx : evp env xs = some vs) (hn : vs.length = n) (hl : litOk sz 0 vs = true) (hle : Nat.ble (n * sz) 16777216 = true)
    (hc : litCells vs = cellsL l) (hln : l.length = n) (hM : n ≤ M) (hok : OkL M H l) (st : St w0 W H0 H L) :
    Op1 P ⟨dst, .buildSlice t n xs.toArray, ty, pos, aft, gd⟩ N env W (fun u W' => ∃ H', St w0 W' H0 H' L ∧ Le H H' ∧ ∃ b, u = .slice (some ⟨b, 0, none⟩) l.length n ∧ Sl.Ok M H' (⟨some ⟨b, 0, none⟩, n, l⟩ : Sl α)) :=
  (bsl_op1 hs hz hp hx hn hl hle).mono fun u W' ⟨h1, h2⟩ => by
    subst h1; subst h2
    refine ⟨_, st.alloc (.cells (litCells vs).toArray e (0, 0)), le_put1 _ st.fresh, W.heap.size, by rw [hln], by simp [hln], by simpa [hln] using hM, fun i y hy => ⟨⟨_, rfl, fun j u hj => ?_⟩, Enc.le (le_put1 _ st.fresh) (hok y (List.mem_of_getElem? hy))⟩⟩
    rw [addr_add_add, plain_add]
    simp only [pcell, put1_self, Option.isSome_none, Bool.false_eq_true, if_false]
    rw [hc]
    have := cellsL_get l i y hy j u hj
    simpa using this
theorem WO.lit {e : TypeId} {z : Value} {sz by_ n : Nat} {xs : List (Nat × Operand)} {vs : List (Nat × Value)} {H : PH} (l : List α) (i : Nat) (hi : ops[i]? = some ⟨some d, .buildSlice t n xs.toArray, ty, pos, aft, gd⟩) (hw : wn ops env gd = some true) (hd : Nat.blt d N = true) (hg : tailB tail (ll.setIfInBounds i true) = false → ∀ H', Le H H' → Good C (Grew w0 H0 H' L))
    (hs : apOf P t = some (e, z, sz, by_)) (hz : z.cells.size = sz) (hp : Nat.blt 0 sz = true) (hsz : Enc.sz α = sz) (hx : evp env xs = some vs) (hn : vs.length = n) (hl : litOk sz 0 vs = true) (hle : Nat.ble (n * sz) 16777216 = true) (hc : litCells vs = cellsL l) (hln : l.length = n) (hM : n ≤ M) (hok : OkL M H l)
    (kk : ∀ b H', Le H H' → Sl.Ok M H' (⟨some ⟨b, 0, none⟩, n, l⟩ : Sl α) → WS P ops Q C tail f (ll.setIfInBounds i true) N ((d, .slice (some ⟨b, 0, none⟩) l.length n) :: env) (Grew w0 H0 H' L)) : WO P ops Q C tail f ll N env (Grew w0 H0 H L) i :=
  WO.wild (o := ⟨some d, .buildSlice t n xs.toArray, ty, pos, aft, gd⟩) (R := fun u H' => ∃ b, u = .slice (some ⟨b, 0, none⟩) l.length n ∧ Sl.Ok M H' (⟨some ⟨b, 0, none⟩, n, l⟩ : Sl α)) i hi hw hd hg (fun W H' st le => lit_op1 l hs hz hp hx hn hl hle hc hln hM (hok.le le) st) (fun v H' le ⟨b, hb, hk⟩ => by subst hb; exact kk b H' le hk)
theorem WO.appS {e : TypeId} {z v : Value} {sz by_ : Nat} {l : List α} {s2 : Sl α} {s x : Operand} {H : PH} (i : Nat) (hi : ops[i]? = some ⟨some d, .call { callee := .builtin .append, args := #[s, x], argTypes := #[t, t] }, ty, pos, aft, gd⟩) (hw : wn ops env gd = some true) (hd : Nat.blt d N = true) (hg : tailB tail (ll.setIfInBounds i true) = false → ∀ A m c H', Le H H' → Good C (Grew w0 H0 H' (rowS (.slice A m c) e (l ++ s2.l) :: L)))
    (hs : apOf P t = some (e, z, sz, by_)) (hz : z.cells.size = sz) (hp : Nat.blt 0 sz = true) (hsz : Enc.sz α = sz) (hv : ev env s = some v) (hx : ev env x = some (.slice s2.a s2.l.length s2.cap)) (k2 : Sl.Ok M H s2) (hb : (l.length + s2.l.length) * by_ ≤ 140737488355328) (hb2 : l.length + s2.l.length ≤ 140737488355328)
    (kk : ∀ A m c H', Le H H' → WS P ops Q C tail f (ll.setIfInBounds i true) N ((d, .slice A m c) :: env) (Grew w0 H0 H' (rowS (.slice A m c) e (l ++ s2.l) :: L))) : WO P ops Q C tail f ll N env (Grew w0 H0 H (rowS v e l :: L)) i := by
  subst hsz
  refine WO.op (o := ⟨some d, .call { callee := .builtin .append, args := #[s, x], argTypes := #[t, t] }, ty, pos, aft, gd⟩) i hi hw hd (fun W ⟨H1, st, le⟩ => (app_s hs hz hp hv hx (k2.le le) hb hb2 st).mono fun u W' h => by
    obtain ⟨A, m, c, rfl⟩ := row_form h (.head _)
    exact ⟨_, ⟨H1, h, Le.refl _⟩, fun ht => hg ht A m c H1 le, kk A m c H1 le⟩)
theorem WS.rownil {H : PH} (e : TypeId) (h : WS P ops Q C tail f ll N env (Grew w0 H0 H (rowS (.slice none 0 0) e ([] : List α) :: L))) : WS P ops Q C tail f ll N env (Grew w0 H0 H L) := by
  have hle : ∀ W, Grew w0 H0 H L W → Grew w0 H0 H (rowS (.slice none 0 0) e ([] : List α) :: L) W := fun W ⟨H', st, le⟩ => ⟨H', st.rownilS e, le⟩
  intro a ha
  have h1 := h a ha
  cases f with
  | zero => exact ⟨h1.1, fun W hW => h1.2 W (hle W hW)⟩
  | succ f => exact fun W hW => h1 W (hle W hW)
end
/-- Octets. -/
@[ext]
structure U8 where
  n : Int
deriving Inhabited, DecidableEq
instance : Enc U8 where
  c x := [.int .u8 x.n]
  sz := 1
  ok _ _ _ := True
  le _ h := h
  mono _ h := h
  len _ := rfl
  pos := Nat.one_pos
  one := fun x u h => by rw [List.mem_singleton.1 h]; rfl
/-- A text of octets. -/
def bsS (l : List U8) : ByteArray := (l.map U8.n).foldl (fun r n => r.push (UInt8.ofNat n.toNat)) ByteArray.empty
theorem bsS_size (l : List U8) : (bsS l).size = l.length := by
  have : ∀ (ns : List Int) (r : ByteArray), (ns.foldl (fun r n => r.push (UInt8.ofNat n.toNat)) r).size = r.size + ns.length := by
    intro ns
    induction ns with
    | nil => intro r; simp
    | cons n ns ih =>
      intro r
      have hp : ∀ (r : ByteArray) b, (r.push b).size = r.size + 1 := fun r b => by
        cases r
        exact Array.size_push _
      rw [List.foldl_cons, ih, hp, List.length_cons]; omega
  rw [bsS, this, List.length_map]; exact Nat.zero_add _
theorem ByteArray.size_mk0 (a : Array UInt8) : (⟨a⟩ : ByteArray).size = a.size := rfl

attribute [simp] ByteArray.size_mk0 bsS_size
theorem okS {M : Nat} {H : PH} {s : ByteArray} (h : s.size < M) : Enc.ok M H s := h
section
variable {P : Program} {N : Nat} {env : Env} {W : World} {d : Tmp} {ty t ty2 : TypeId} {pos : String} {aft : Array Edge} {g : Option (Nat × Bool)} {x y : Operand}
/-- Parts of slices. -/
def Sl.hi {α : Type} (s : Sl α) (j : Int) : Sl α := ⟨s.a, s.cap, s.l.take j.toNat⟩
def Sl.lo {α : Type} [Enc α] (s : Sl α) (i : Int) : Sl α := ⟨if s.cap = i.toNat then s.a else s.a.map (·.add (i.toNat * Enc.sz α)), s.cap - i.toNat, s.l.drop i.toNat⟩
theorem Sl.Ok.hi {α : Type} [Enc α] {M : Nat} {H : PH} {s : Sl α} (k : Sl.Ok M H s) (j : Int) : Sl.Ok M H (s.hi j) :=
  ⟨by have := k.cap; simp only [Sl.hi, List.length_take]; omega, by have := k.top; simp only [Sl.hi, List.length_take]; omega, fun i x e => by
    simp only [Sl.hi, List.getElem?_take] at e
    split at e
    · exact k.get i x e
    · cases e⟩
theorem Sl.Ok.lo {α : Type} [Enc α] {M : Nat} {H : PH} {s : Sl α} (k : Sl.Ok M H s) (j : Int) : Sl.Ok M H (s.lo j) :=
  ⟨by have := k.cap; simp only [Sl.lo, List.length_drop]; omega, by have := k.top; simp only [Sl.lo, List.length_drop]; omega, fun i x e => by
    simp only [Sl.lo, List.getElem?_drop] at e
    obtain ⟨⟨ad, h1, h2⟩, h3⟩ := k.get _ _ e
    have hc := k.cap
    have hlt := (List.getElem?_eq_some_iff.1 e).1
    have hne : s.cap ≠ j.toNat := by omega
    refine ⟨⟨ad.add (j.toNat * Enc.sz α), by simp [Sl.lo, hne, h1], ?_⟩, h3⟩
    rw [addr_add_add, ← Nat.add_mul]
    exact h2⟩
theorem slOf_run {n : Nat} (h : slOf P t = some n) : P.underlying t = some (.slice (P.elem t)) ∧ ∀ W, (sizeOf (P.elem t)).run P W = .ok n W := by
  obtain ⟨e, i, h1, h2, h3⟩ := slOf_elim h
  have : P.elem t = e := by unfold Program.elem; rw [h1]
  rw [this]
  exact ⟨h1, fun W => by simp [sizeOf, typeInfo, h2, h3]⟩
theorem Pu.slhi {α : Type} [Enc α] {s : Sl α} {M : Nat} {H : PH} {k : IntKind} {j : Int} (hx : ev env x = some (.slice s.a s.l.length s.cap)) (hj : ev env y = some (.int k j)) (ht : slOf P t = some (Enc.sz α)) (ok : Sl.Ok M H s) (h0 : 0 ≤ j) (h1 : j ≤ s.l.length) : Pu P ⟨some d, .slice t x none (some y) none, ty, pos, aft, g⟩ N env W (s.hi j).v := fun a ha => by
  obtain ⟨h2, h3⟩ := slOf_run ht
  have hc := ok.cap
  have hl : (s.l.take j.toNat).length = j.toNat := by rw [List.length_take]; omega
  have hz : s.a.map (fun x : Addr => x.add 0) = s.a := by cases s.a <;> simp [Addr.add]
  simp [execOp, ha.eval hx, ha.eval hj, run_sliceAt_slice (h := h2), run_slice_h (ht := h2) (cap := s.cap) (h := j) (h0 := h0) (h2 := by omega), h3, sliced, Sl.hi, Sl.v, hl, hz]
theorem Pu.sllo {α : Type} [Enc α] {s : Sl α} {M : Nat} {H : PH} {k : IntKind} {i : Int} (hx : ev env x = some (.slice s.a s.l.length s.cap)) (hi : ev env y = some (.int k i)) (ht : slOf P t = some (Enc.sz α)) (ok : Sl.Ok M H s) (h0 : 0 ≤ i) (h1 : i ≤ s.l.length) : Pu P ⟨some d, .slice t x (some y) none none, ty, pos, aft, g⟩ N env W (s.lo i).v := fun a ha => by
  obtain ⟨h2, h3⟩ := slOf_run ht
  have hc := ok.cap
  simp [execOp, ha.eval hx, ha.eval hi, run_sliceAt_slice (h := h2), run_slice_l (ht := h2) (l := i) (len := s.l.length) (h0 := h0) (h1 := h1), h3, sliced, Sl.lo, Sl.v]
/-- Parts of texts. -/
theorem Pu.slh {s : ByteArray} {k : IntKind} {j : Int} (hx : ev env x = some (.string s)) (hj : ev env y = some (.int k j)) (ht : P.underlying t = some .string) (h0 : 0 ≤ j) (h1 : j ≤ s.size) : Pu P ⟨some d, .slice t x none (some y) none, ty, pos, aft, g⟩ N env W (.string (s.extract 0 j.toNat)) := fun a ha => by
  simp [execOp, ha.eval hx, ha.eval hj, run_sliceAt_string (h := ht), run_slice_string_h (ht := ht) (h := j) (s := s) (h0 := h0) (h2 := h1)]
theorem Pu.sll {s : ByteArray} {k : IntKind} {i : Int} (hx : ev env x = some (.string s)) (hi : ev env y = some (.int k i)) (ht : P.underlying t = some .string) (h0 : 0 ≤ i) (h1 : i ≤ s.size) : Pu P ⟨some d, .slice t x (some y) none none, ty, pos, aft, g⟩ N env W (.string (s.extract i.toNat s.size)) := fun a ha => by
  simp [execOp, ha.eval hx, ha.eval hi, run_sliceAt_string (h := ht), run_slice_string_l (ht := ht) (l := i) (s := s) (h0 := h0) (h1 := h1)]
theorem Pu.slb {s : ByteArray} {k k' : IntKind} {i j : Int} {z : Operand} (hx : ev env x = some (.string s)) (hi : ev env y = some (.int k i)) (hj : ev env z = some (.int k' j)) (ht : P.underlying t = some .string) (h0 : 0 ≤ i) (h1 : i ≤ j) (h2 : j ≤ s.size) : Pu P ⟨some d, .slice t x (some y) (some z) none, ty, pos, aft, g⟩ N env W (.string (s.extract i.toNat j.toNat)) := fun a ha => by
  simp [execOp, ha.eval hx, ha.eval hi, ha.eval hj, run_sliceAt_string (h := ht), run_slice_string (h := ht) (i := i) (j := j) (s := s) (h0 := h0) (h1 := h1) (h2 := h2)]
theorem Pu.sadd {s u : ByteArray} {t : TypeId} (hx : ev env x = some (.string s)) (hy : ev env y = some (.string u)) (h : s.size + u.size ≤ 9223372036854775807) : Pu P ⟨some d, .binOp .add t x y ty2, ty, pos, aft, g⟩ N env W (.string (s ++ u)) :=
  Pu.bin hx hy (eqg_str P _ _ _ _) (fun W => by
    have : ¬ ((s.size + u.size : Nat) : Int) > IntKind.i64.max := by
      have h3 : IntKind.i64.max = 9223372036854775807 := by decide
      rw [h3]; omega
    simp only [binOp, Op.stringOp, if_neg this]; rfl)
/-- Which text comes first. -/
def slss (a b : ByteArray) : Bool := Op.bytesLess a.toList b.toList
theorem Pu.slt {s u : ByteArray} {t : TypeId} (hx : ev env x = some (.string s)) (hy : ev env y = some (.string u)) : Pu P ⟨some d, .binOp .lss t x y ty2, ty, pos, aft, g⟩ N env W (.bool (slss s u)) :=
  Pu.bin hx hy (eqg_str P _ _ _ _) (fun W => by simp only [binOp, Op.stringOp]; rfl)
def sleq (a b : ByteArray) : Bool := slss a b || decide (a = b)
def sgtr (a b : ByteArray) : Bool := !sleq a b
def sgeq (a b : ByteArray) : Bool := !slss a b
theorem Pu.sle {s u : ByteArray} {t : TypeId} (hx : ev env x = some (.string s)) (hy : ev env y = some (.string u)) : Pu P ⟨some d, .binOp .leq t x y ty2, ty, pos, aft, g⟩ N env W (.bool (sleq s u)) :=
  Pu.bin hx hy (eqg_str P _ _ _ _) (fun W => by simp only [binOp, Op.stringOp, toList_beq]; rfl)
theorem Pu.sgt {s u : ByteArray} {t : TypeId} (hx : ev env x = some (.string s)) (hy : ev env y = some (.string u)) : Pu P ⟨some d, .binOp .gtr t x y ty2, ty, pos, aft, g⟩ N env W (.bool (sgtr s u)) :=
  Pu.bin hx hy (eqg_str P _ _ _ _) (fun W => by simp only [binOp, Op.stringOp, toList_beq]; rfl)
theorem Pu.sge {s u : ByteArray} {t : TypeId} (hx : ev env x = some (.string s)) (hy : ev env y = some (.string u)) : Pu P ⟨some d, .binOp .geq t x y ty2, ty, pos, aft, g⟩ N env W (.bool (sgeq s u)) :=
  Pu.bin hx hy (eqg_str P _ _ _ _) (fun W => by simp only [binOp, Op.stringOp]; rfl)
theorem Pu.convs {s : ByteArray} {t u : TypeId} (hx : ev env x = some (.string s)) (h1 : P.underlying t = some .string) (h2 : P.underlying u = some .string) : Pu P ⟨some d, .convert t u x, ty, pos, aft, g⟩ N env W (.string s) := fun a ha => by
  simp [execOp, ha.eval hx, convert, run_underlying h1, run_underlying h2]
end
section
variable {P : Program} {N : Nat} {env : Env} {W : World} {d : Tmp} {ty t u e : TypeId} {pos : String} {aft : Array Edge} {g : Option (Nat × Bool)} {x : Operand}
theorem Pu.convb {s : Sl U8} {M : Nat} {H : PH} (hx : ev env x = some (.slice s.a s.l.length s.cap)) (h1 : P.underlying t = some (.slice e)) (h2 : P.underlying e = some (.int .u8)) (h3 : P.underlying u = some .string) (k : Sl.Ok M H s) (hs : Sub H W) : Pu P ⟨some d, .convert t u x, ty, pos, aft, g⟩ N env W (.string (bsS s.l)) := fun a ha => by
  have hcv : ∀ A l c, (convert t u (.slice A l c)).run P W = (Conv.bytesToString (.slice A l c)).run P W := fun A l c => by
    cases A <;> simp [convert, run_underlying h1, run_underlying h2, run_underlying h3]
  simp only [execOp, ha.eval hx, Sem.run_bind, hcv]
  cases hA : s.a with
  | none =>
    have hl : s.l = [] := by
      cases hl : s.l with
      | nil => rfl
      | cons y r => obtain ⟨⟨ad, h4, _⟩, _⟩ := k.get 0 y (by rw [hl]; rfl); rw [hA] at h4; cases h4
    simp [Conv.bytesToString, hl, bsS]
  | some ad =>
    have hat : AtW W ad (cellsL s.l) := by
      rcases k.atw hs with ⟨ad', h4, h5⟩ | h4
      · rw [hA] at h4; cases h4; exact h5
      · rw [h4]; intro j v hj; simp [cellsL] at hj
    have hc : cellsL s.l = (s.l.map U8.n).map (Value.int .u8) := by simp [cellsL, Enc.c, List.flatMap_singleton']; induction s.l <;> simp_all
    have hl : (cellsL s.l).length = s.l.length := by rw [cellsL_len]; simp [Enc.sz]
    have h6 := run_loadCells_list (P := P) W ad (cellsL s.l) (fun j v e => hat j v e)
    rw [hl, hc] at h6
    have h7 := run_bytesToString W ad s.l.length s.cap _ h6
    simp only [h7]
    rfl
end
end Go.Proofs.TB
