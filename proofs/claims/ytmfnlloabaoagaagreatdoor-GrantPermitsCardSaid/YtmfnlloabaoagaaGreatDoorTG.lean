/- Structs and slices that are made; rows that grow. -/
import Derived.Test.YtmfnlloabaoagaaGreatDoorTF
import Derived.Maps.AppendAt
set_option linter.unusedVariables false
set_option linter.unusedSimpArgs false
namespace Go.Proofs.TB
open Go.RowKit

/-- What a class of worlds keeps: what stays, and what is owned as it is. -/
def Cl (w0 : World) (H : PH) (L : List Own) : World → Prop := fun W => Sub H W ∧ ∀ e ∈ L, e.is w0.heap.size W
abbrev Grew (w0 : World) (H0 H : PH) (L : List Own) : World → Prop := fun W => ∃ H', St w0 W H0 H' L ∧ Le H H'
theorem good_grew {w0 : World} {H0 H H1 : PH} {L L' : List Own} (hle : Le H H1) (hL : ∀ e ∈ L', e ∈ L) : Good (Cl w0 H L') (Grew w0 H0 H1 L) where
  sub := fun W ⟨H', st, le⟩ => ⟨fun b o e => st.sub b o (le b o (hle b o e)), fun e h => (st.own _ (hL e h)).1⟩
  grow := fun W W' ⟨H', st, le⟩ hb => ⟨H', st.below hb, le⟩
theorem grew_start {w0 W W' : World} {H0 H : PH} {L : List Own} (st : St w0 W H0 H L) (h1 : W'.heap = W.heap) (h2 : W'.os = W.os) (h3 : W'.tape = W.tape) (h4 : W'.output = W.output) : Grew w0 H0 H L W' := ⟨H, st.drawn h1 h2 h3 h4, Le.refl _⟩

/-! ### structs -/
def stOf (P : Program) (t : TypeId) : Option (List (Nat × Nat) × Value) :=
  match P.underlying t with
  | some (.struct fs) => match fs.toList.mapM (fun f => (P.info? f.type).map fun i => (f.offset, i.size)), zeOf P t with
    | some ps, some z => some (ps, z)
    | _, _ => none
  | _ => none
theorem mapM_run {P : Program} (W : World) : ∀ (fs : List Field) (ps : List (Nat × Nat)), fs.mapM (fun f => (P.info? f.type).map fun i => (f.offset, i.size)) = some ps →
    (fs.mapM (m := Sem) fun f => do pure (f.offset, ← sizeOf f.type)).run P W = .ok ps W
  | [], ps, h => by simp at h; subst h; simp
  | f :: fs, ps, h => by
    simp only [List.mapM_cons, Option.bind_eq_bind, Option.bind_eq_some_iff] at h
    obtain ⟨q, hq, qs, hqs, hps⟩ := h
    obtain ⟨i, hi, rfl⟩ := Option.map_eq_some_iff.1 hq
    simp only [Option.pure_def, Option.some.injEq] at hps
    subst hps
    have ih := mapM_run W fs qs hqs
    simp [List.mapM_cons, sizeOf, typeInfo, hi] at ih ⊢
    simp [ih]
section
variable {P : Program} {ops : Array Oper} {Q : Exit → Act → World → Prop} {rest : List Oper} {N : Nat} {env : Env} {W w0 : World} {d : Tmp} {ty t : TypeId} {pos : String} {aft : Array Edge} {g : Option (Nat × Bool)} {x : Operand} {H0 H : PH} {L : List Own}
def evp (env : Env) : List (Nat × Operand) → Option (List (Nat × Value))
  | [] => some []
  | (i, x) :: r => match ev env x, evp env r with
    | some v, some vs => some ((i, v) :: vs)
    | _, _ => none
theorem Holds.evalp {N : Nat} {a : Act} {env : Env} (h : Holds N a env) : ∀ {xs : List (Nat × Operand)} {vs : List (Nat × Value)}, evp env xs = some vs → xs.map (fun (i, x) => (i, a.eval x)) = vs
  | [], vs, e => by simp only [evp, Option.some.injEq] at e; subst e; rfl
  | (i, x) :: r, vs, e => by
    simp only [evp] at e
    cases h1 : ev env x with
    | none => simp [h1] at e
    | some v =>
      cases h2 : evp env r with
      | none => simp [h1, h2] at e
      | some us =>
        simp only [h1, h2, Option.some.injEq] at e
        subst e
        have h3 := h.evalp h2
        simp only [List.map_cons, h.eval h1] at h3 ⊢
        rw [h3]
theorem Pu.build {ps : List (Nat × Nat)} {z : Value} {xs : List (Nat × Operand)} {vs : List (Nat × Value)} {cs : Array Value} (hs : stOf P t = some (ps, z)) (hx : evp env xs = some vs) (hf : Instr.fill (fun i => ps[i]?) z.cells vs = some cs) :
    Pu P ⟨some d, .build t xs.toArray, ty, pos, aft, g⟩ N env W (.agg cs) := fun a ha => by
  unfold stOf at hs
  cases hu : P.underlying t with
  | none => simp [hu] at hs
  | some ds =>
    cases ds <;> simp only [hu, reduceCtorEq] at hs
    rename_i fs
    cases hm : fs.toList.mapM (fun f => (P.info? f.type).map fun i => (f.offset, i.size)) with
    | none => simp [hm] at hs
    | some qs =>
      cases hz : zeOf P t with
      | none => simp [hm, hz] at hs
      | some zz =>
        simp only [hm, hz, Option.some.injEq, Prod.mk.injEq] at hs
        obtain ⟨rfl, rfl⟩ := hs
        have h1 := mapM_run (P := P) W _ _ hm
        have h2 : (fs.mapM (m := Sem) fun f => do pure (f.offset, ← sizeOf f.type)).run P W = .ok qs.toArray W := by
          rw [Array.mapM_eq_mapM_toList, Sem.run_map, h1]
          rfl
        have h3 : (xs.map fun (i, x) => (i, a.eval x)) = vs := ha.evalp hx
        have h4 : (fun i : Nat => qs.toArray[i]?) = fun i : Nat => qs[i]? := by funext i; simp
        simp only [execOp, Instr.build, Sem.run_bind, run_zero hz, run_underlying hu, Result.andThen_ok]
        simp only [List.map_toArray, h3] at *
        rw [h2]
        simp [h4, hf]
end
theorem setL_eq : ∀ (cs vs : List Value) (o : Nat), o + vs.length ≤ cs.length → setL cs o vs = cs.take o ++ vs ++ cs.drop (o + vs.length)
  | [], vs, o, h => by
    simp only [List.length_nil] at h
    have h1 : vs = [] := List.eq_nil_of_length_eq_zero (by omega)
    subst h1
    simp [setL]
  | c :: cs, [], 0, h => by simp [setL]
  | c :: cs, v :: vs, 0, h => by
    simp only [List.length_cons] at h
    rw [setL, setL_eq cs vs 0 (by omega)]
    simp
  | c :: cs, vs, o + 1, h => by
    simp only [List.length_cons] at h
    rw [setL, setL_eq cs vs o (by omega)]
    have : o + 1 + vs.length = (o + vs.length) + 1 := by omega
    rw [this]
    simp
def fillL (ps : List (Nat × Nat)) : List Value → List (Nat × Value) → Option (List Value)
  | cl, [] => some cl
  | cl, (i, v) :: r => match ps[i]? with
    | some (o, n) => bif Nat.beq v.cells.toList.length n && Nat.ble (o + n) cl.length then fillL ps (setL cl o v.cells.toList) r else none
    | none => none
/-! ### a slice that is written out; rows that grow -/
/-- A slice type's element: its type, its zero value, its cells, its bytes. -/
def apOf (P : Program) (t : TypeId) : Option (TypeId × Value × Nat × Nat) :=
  match P.underlying t with
  | some (.slice e) => match P.info? e with
    | some i => i.zero.map fun z => (e, z, i.size, i.bytes)
    | none => none
  | _ => none
theorem apOf_elim {P : Program} {t e : TypeId} {z : Value} {sz by_ : Nat} (h : apOf P t = some (e, z, sz, by_)) : ∃ i, P.underlying t = some (.slice e) ∧ P.info? e = some i ∧ i.zero = some z ∧ i.size = sz ∧ i.bytes = by_ := by
  unfold apOf at h
  cases hu : P.underlying t with
  | none => simp [hu] at h
  | some ds =>
    cases ds <;> simp only [hu, reduceCtorEq] at h
    rename_i e'
    cases hi : P.info? e' with
    | none => simp [hi] at h
    | some i =>
      simp only [hi, Option.map_eq_some_iff, Prod.mk.injEq] at h
      obtain ⟨z', hz, rfl, rfl, rfl, rfl⟩ := h
      exact ⟨i, rfl, hi, hz, rfl, rfl⟩
/-- The cells of a slice that is written out whole. -/
def litCells (vs : List (Nat × Value)) : List Value := vs.flatMap fun p => p.2.cells.toList
def litOk (sz : Nat) : Nat → List (Nat × Value) → Bool
  | _, [] => true
  | i, (j, v) :: r => Nat.beq i j && Nat.beq v.cells.size sz && litOk sz (i + 1) r
section
variable {P : Program} {ops : Array Oper} {Q : Exit → Act → World → Prop} {rest : List Oper} {N : Nat} {env : Env} {W w0 : World} {d : Tmp} {ty t : TypeId} {pos : String} {aft : Array Edge} {g : Option (Nat × Bool)} {x s : Operand} {H0 H : PH} {L : List Own}
theorem fold_set (c : Array Value) (o : Nat) : ∀ (vs : List Value) (k : Nat) (c : Array Value), o + k + vs.length ≤ c.size →
    ((vs.zipIdx k).foldl (fun cs (p : Value × Nat) => cs.setIfInBounds (o + p.2) p.1) c).toList = c.toList.take (o + k) ++ vs ++ c.toList.drop (o + k + vs.length)
  | [], k, c, h => by simp
  | v :: r, k, c, h => by
    simp only [List.length_cons] at h
    rw [List.zipIdx_cons, List.foldl_cons, fold_set c o r (k + 1) _ (by simp; omega)]
    have hlt : o + k < c.toList.length := by simp; omega
    rw [Array.toList_setIfInBounds]
    have h1 : (c.toList.set (o + k) v).take (o + (k + 1)) = c.toList.take (o + k) ++ [v] := by
      rw [← Nat.add_assoc, List.take_add_one, List.take_set_of_le (Nat.le_refl _), List.getElem?_set_self hlt]
      rfl
    have h2 : (c.toList.set (o + k) v).drop (o + (k + 1) + r.length) = c.toList.drop (o + k + (r.length + 1)) := by
      rw [List.drop_set_of_lt (by omega)]
      congr 1
      omega
    rw [h1, h2, List.append_assoc, List.append_assoc, List.append_assoc]
    simp
theorem fill_L (ps : List (Nat × Nat)) : ∀ (vs : List (Nat × Value)) (cl cl' : List Value), fillL ps cl vs = some cl' → Instr.fill (fun i => ps[i]?) cl.toArray vs = some cl'.toArray
  | [], cl, cl', h => by simp only [fillL, Option.some.injEq] at h; subst h; rfl
  | (i, v) :: r, cl, cl', h => by
    simp only [fillL] at h
    cases hp : ps[i]? with
    | none => rw [hp] at h; cases h
    | some p =>
      obtain ⟨o, n⟩ := p
      rw [hp] at h
      simp only at h
      cases hb : (Nat.beq v.cells.toList.length n && Nat.ble (o + n) cl.length) with
      | false => rw [hb] at h; cases h
      | true =>
        rw [hb, cond_true] at h
        simp only [Bool.and_eq_true] at hb
        have h1 : v.cells.size = n := by have := Nat.eq_of_beq_eq_true hb.1; simpa using this
        have h2 := Nat.le_of_ble_eq_true hb.2
        have hfs := fold_set cl.toArray o v.cells.toList 0 cl.toArray (by simp [h1]; omega)
        have hzip : v.cells.zipIdx.foldl (fun cs (p : Value × Nat) => cs.setIfInBounds (o + p.2) p.1) cl.toArray = (v.cells.toList.zipIdx 0).foldl (fun cs (p : Value × Nat) => cs.setIfInBounds (o + p.2) p.1) cl.toArray := by
          rw [← Array.foldl_toList, Array.toList_zipIdx]
        have heq : v.cells.zipIdx.foldl (fun cs (p : Value × Nat) => cs.setIfInBounds (o + p.2) p.1) cl.toArray = (setL cl o v.cells.toList).toArray := by
          apply Array.toList_inj.1
          rw [hzip, hfs, setL_eq cl _ o (by simp [h1]; omega)]
          simp
        rw [Instr.fill]
        simp only [hp, h1, ne_eq, not_true, decide_false, Bool.false_or, decide_eq_true_eq, List.size_toArray]
        rw [if_neg (by omega), heq]
        exact fill_L ps r _ _ h
theorem fill_lit (sz : Nat) : ∀ (vs : List (Nat × Value)) (i : Nat) (c : Array Value), litOk sz i vs = true → c.size = (i + vs.length) * sz →
    ∃ c', Instr.fill (fun i => some (i * sz, sz)) c vs = some c' ∧ c'.toList = c.toList.take (i * sz) ++ litCells vs
  | [], i, c, _, hc => ⟨c, rfl, by simp [litCells]; rw [List.take_of_length_le]; simp [hc]⟩
  | (j, v) :: r, i, c, h, hc => by
    simp only [litOk, Bool.and_eq_true] at h
    obtain ⟨⟨h1, h2⟩, h3⟩ := h
    have hij : i = j := Nat.eq_of_beq_eq_true h1
    have hsz : v.cells.size = sz := Nat.eq_of_beq_eq_true h2
    subst hij
    simp only [List.length_cons] at hc
    have hb : i * sz + v.cells.size ≤ c.size := by
      rw [hsz, hc, ← Nat.succ_mul]
      exact Nat.mul_le_mul_right _ (by omega)
    have hfs := fold_set c (i * sz) v.cells.toList 0 c (by simpa using hb)
    have hzip : v.cells.zipIdx.foldl (fun cs (p : Value × Nat) => cs.setIfInBounds (i * sz + p.2) p.1) c = (v.cells.toList.zipIdx 0).foldl (fun cs (p : Value × Nat) => cs.setIfInBounds (i * sz + p.2) p.1) c := by
      rw [← Array.foldl_toList, Array.toList_zipIdx]
    obtain ⟨c', k1, k2⟩ := fill_lit sz r (i + 1) (v.cells.zipIdx.foldl (fun cs (p : Value × Nat) => cs.setIfInBounds (i * sz + p.2) p.1) c) h3 (by
      have : (v.cells.zipIdx.foldl (fun cs (p : Value × Nat) => cs.setIfInBounds (i * sz + p.2) p.1) c).toList.length = c.toList.length := by
        rw [hzip, hfs]
        simp
        omega
      simp only [Array.length_toList] at this
      rw [this, hc]
      congr 1
      omega)
    refine ⟨c', ?_, ?_⟩
    · rw [Instr.fill]
      simp only [hsz]
      rw [if_neg (by rw [hsz] at hb; simp; omega)]
      exact k1
    · rw [k2, hzip, hfs]
      simp only [litCells, List.flatMap_cons, Nat.add_zero]
      have hl1 : (c.toList.take (i * sz)).length = i * sz := by simp; omega
      have hl2 : v.cells.toList.length = sz := by simp [hsz]
      rw [List.take_append_of_le_length (by simp only [List.length_append, hl1, hl2]; rw [Nat.add_mul]; omega)]
      rw [List.take_of_length_le (by simp only [List.length_append, hl1, hl2]; rw [Nat.add_mul]; omega)]
      simp [List.append_assoc]
theorem Pu.buildL {ps : List (Nat × Nat)} {z : Value} {cl : List Value} {xs : List (Nat × Operand)} {vs : List (Nat × Value)} {cs : List Value} (hs : stOf P t = some (ps, z)) (hz : z.cells = cl.toArray) (hx : evp env xs = some vs) (hf : fillL ps cl vs = some cs) :
    Pu P ⟨some d, .build t xs.toArray, ty, pos, aft, g⟩ N env W (.agg cs.toArray) := Pu.build hs hx (by rw [hz]; exact fill_L ps vs cl cs hf)
theorem bsl_op1 {dst : Option Tmp} {n : Nat} {e : TypeId} {z : Value} {sz by_ : Nat} {xs : List (Nat × Operand)} {vs : List (Nat × Value)} (hs : apOf P t = some (e, z, sz, by_)) (hz : z.cells.size = sz) (hp : Nat.blt 0 sz = true) (hx : evp env xs = some vs) (hn : vs.length = n) (hl : litOk sz 0 vs = true) (hle : Nat.ble (n * sz) 16777216 = true) :
    Op1 P ⟨dst, .buildSlice t n xs.toArray, ty, pos, aft, g⟩ N env W (fun u W' => u = .slice (some ⟨W.heap.size, 0, none⟩) n n ∧ W' = W.alloc (.cells (litCells vs).toArray e (0, 0))) := by
  intro a ha K Q hK
  obtain ⟨i, h1, h2, h3, h4, h5⟩ := apOf_elim hs
  have hpos : 0 < sz := by simpa using hp
  have hle' := Nat.le_of_ble_eq_true hle
  have hze : zeOf P e = some z := by simp [zeOf, h2, h3]
  have h6 : (xs.map fun (i, x) => (i, a.eval x)) = vs := ha.evalp hx
  unfold Oper.wp
  have hfill : ∀ c : Array Value, c.size = n * sz → Instr.fill (fun i => some (i * sz, sz)) c vs = some (litCells vs).toArray := fun c hc => by
    obtain ⟨c', k1, k2⟩ := fill_lit sz vs 0 c hl (by rw [hn, Nat.zero_add]; exact hc)
    rw [k1]
    simp only [Nat.zero_mul, List.take_zero, List.nil_append] at k2
    congr 1
    rw [← k2]
  have hr : (execOp a.eval ⟨dst, .buildSlice t n xs.toArray, ty, pos, aft, g⟩).run P W = .ok (.value (.slice (some ⟨W.heap.size, 0, none⟩) n n)) (W.alloc (.cells (litCells vs).toArray e (0, 0))) := by
    by_cases hn0 : n * sz = 0
    · have : n = 0 := by
        rcases Nat.mul_eq_zero.1 hn0 with h | h
        · exact h
        · omega
      subst this
      have hvs : vs = [] := List.eq_nil_of_length_eq_zero hn
      subst hvs
      have hxs : xs = [] := by
        cases xs with
        | nil => rfl
        | cons p r => simp at h6
      subst hxs
      simp [execOp, Instr.buildSlice, run_underlying h1, sizeOf, typeInfo, h2, Instr.fill, newRow, newObj, Sem.run, litCells, Array.range_zero']
    · have hgt : ¬ (16777216 < n * sz) := by omega
      simp only [execOp, Instr.buildSlice, Sem.run_bind, run_underlying h1, Result.andThen_ok, List.map_toArray, h6]
      have hf := hfill (Array.map (fun x => z.cells[x % z.cells.size]!) (Array.range (n * sz))) (by rw [Array.size_map, Array.size_range])
      simp [sizeOf, typeInfo, h2, h4, hgt, hn0, run_zero hze, hf, newRow, newObj, Sem.run]
  rw [hr]
  exact hK _ _ ⟨rfl, rfl⟩
end
section
variable {P : Program} {ops : Array Oper} {Q : Exit → Act → World → Prop} {rest : List Oper} {N : Nat} {env : Env} {W w0 : World} {d : Tmp} {ty t : TypeId} {pos : String} {aft : Array Edge} {g : Option (Nat × Bool)} {x s : Operand} {H0 H : PH} {L : List Own}
/-- append to a row of the call's own, the first that is named. -/
theorem app_op1 {dst : Option Tmp} {e : TypeId} {z v : Value} {sz by_ n m c : Nat} {xs news : List Value} {A : Option Addr} (hs : apOf P t = some (e, z, sz, by_)) (hz : z.cells.size = sz) (hp : Nat.blt 0 sz = true)
    (hv : ev env s = some v) (hx : ev env x = some (.slice A m c)) (hA : (∃ ad, A = some ad ∧ AtW W ad news) ∨ (A = none ∧ m = 0)) (hl : news.length = m * sz) (h1 : ∀ u ∈ news, u.oneCell' = true) (hb : (n + m) * by_ ≤ 140737488355328) (hb2 : n + m ≤ 140737488355328)
    (st : St w0 W H0 H (.row v e sz n xs :: L)) : Op1 P ⟨dst, .call { callee := .builtin .append, args := #[s, x], argTypes := #[t, t] }, ty, pos, aft, g⟩ N env W (fun u W' => St w0 W' H0 H (.row u e sz (n + m) (xs ++ news) :: L)) := by
  intro a ha K Q hK
  obtain ⟨i, g1, g2, g3, g4, g5⟩ := apOf_elim hs
  have hpos : 0 < sz := by simpa using hp
  have hown := (st.own _ List.mem_cons_self).1
  unfold Oper.wp
  have key : ∃ v1 w1, (execOp a.eval ⟨dst, .call { callee := .builtin .append, args := #[s, x], argTypes := #[t, t] }, ty, pos, aft, g⟩).run P W = .ok (.value v1) w1 ∧ St w0 w1 H0 H (.row v1 e sz (n + m) (xs ++ news) :: L) := by
    rcases hA with ⟨ad, rfl, hat⟩ | ⟨rfl, rfl⟩
    · obtain ⟨v1, w1, hr, h2, h3, _, h5⟩ := run_append_own_at (P := P) W w0.heap.size t ty e i z sz by_ g1 g2 g3 g4 g5 hz hpos v n xs hown ad m c news hl hat h1 (by simp only [maxLen]; omega) hb st.bel.size
      refine ⟨v1, w1, ?_, st.turn h3.os h3.tape h3.output h3.size (fun k hk hne => h3.block k hk hne) h2 ?_⟩
      · simp [execOp, resolve, invoke, builtin, ha.eval hv, ha.eval hx, hr]
      · rcases h5 with h5 | h5
        · exact .inl h5
        · exact .inr (.inl h5)
    · have hn : news = [] := List.eq_nil_of_length_eq_zero (by rw [hl]; simp)
      subst hn
      refine ⟨v, W, ?_, by simpa using st⟩
      rcases hown.2 with ⟨rfl, hn0⟩ | ⟨gb, cap, cur, rfl, _, _, hnc, _⟩
      · simp [execOp, resolve, invoke, builtin, ha.eval hv, ha.eval hx, Builtin.append_, run_underlying g1, sizeOf, typeInfo, g2, Builtin.lenOf, Builtin.firstCells]
      · simp [execOp, resolve, invoke, builtin, ha.eval hv, ha.eval hx, Builtin.append_, run_underlying g1, sizeOf, typeInfo, g2, Builtin.lenOf, Builtin.firstCells, hnc, storeCells]
  obtain ⟨v1, w1, hr, hst⟩ := key
  rw [hr]
  exact hK v1 w1 hst
/-- What a row holds, as data. -/
def cellsL {α : Type} [Enc α] (l : List α) : List Value := l.flatMap Enc.c
theorem cellsL_len {α : Type} [Enc α] : ∀ l : List α, (cellsL l).length = l.length * Enc.sz α
  | [] => by simp [cellsL]
  | x :: r => by
    have := cellsL_len r
    simp only [cellsL, List.flatMap_cons, List.length_append, List.length_cons, Enc.len] at this ⊢
    rw [this, Nat.add_mul]
    omega
theorem cellsL_one {α : Type} [Enc α] (l : List α) : ∀ u ∈ cellsL l, u.oneCell' = true := fun u hu => by
  obtain ⟨x, _, hx⟩ := List.mem_flatMap.1 hu
  exact Enc.one x u hx
theorem cellsL_app {α : Type} [Enc α] (l m : List α) : cellsL (l ++ m) = cellsL l ++ cellsL m := by simp [cellsL]
theorem cellsL_get {α : Type} [Enc α] : ∀ (l : List α) (i : Nat) (x : α), l[i]? = some x → ∀ j u, (Enc.c x)[j]? = some u → (cellsL l)[i * Enc.sz α + j]? = some u
  | [], i, x, h, _, _, _ => by simp at h
  | y :: r, 0, x, h, j, u, hj => by
    simp only [List.getElem?_cons_zero, Option.some.injEq] at h
    subst h
    have hlt := (List.getElem?_eq_some_iff.1 hj).1
    simp only [cellsL, List.flatMap_cons, Nat.zero_mul, Nat.zero_add]
    rw [List.getElem?_append_left hlt]
    exact hj
  | y :: r, i + 1, x, h, j, u, hj => by
    have ih := cellsL_get r i x (by simpa using h) j u hj
    simp only [cellsL, List.flatMap_cons] at ih ⊢
    rw [List.getElem?_append_right (by rw [Enc.len, Nat.add_mul]; omega), Enc.len]
    have : (i + 1) * Enc.sz α + j - Enc.sz α = i * Enc.sz α + j := by rw [Nat.add_mul]; omega
    rw [this]
    exact ih
theorem Sl.Ok.atw {α : Type} [Enc α] {s : Sl α} {M : Nat} (k : Sl.Ok M H s) (hs : Sub H W) : (∃ ad, s.a = some ad ∧ AtW W ad (cellsL s.l)) ∨ s.l = [] := by
  cases hl : s.l with
  | nil => exact .inr rfl
  | cons x r =>
    rw [← hl]
    obtain ⟨⟨ad, h1, h2⟩, _⟩ := k.get 0 x (by rw [hl]; rfl)
    refine .inl ⟨ad, h1, fun j u hj => ?_⟩
    have hlt := (List.getElem?_eq_some_iff.1 hj).1
    rw [cellsL_len] at hlt
    have hp : 0 < Enc.sz α := Enc.pos
    have hi : j / Enc.sz α < s.l.length := (Nat.div_lt_iff_lt_mul hp).2 hlt
    obtain ⟨⟨ad', h1', h2'⟩, _⟩ := k.get (j / Enc.sz α) _ (List.getElem?_eq_getElem hi)
    rw [h1] at h1'
    cases h1'
    have hr : j % Enc.sz α < (Enc.c s.l[j / Enc.sz α]).length := by rw [Enc.len]; exact Nat.mod_lt _ hp
    have h3 := h2' (j % Enc.sz α) _ (List.getElem?_eq_getElem hr)
    have h4 := cellsL_get s.l (j / Enc.sz α) _ (List.getElem?_eq_getElem hi) (j % Enc.sz α) _ (List.getElem?_eq_getElem hr)
    have h5 : j / Enc.sz α * Enc.sz α + j % Enc.sz α = j := by rw [Nat.mul_comm]; exact Nat.div_add_mod j _
    rw [h5, hj] at h4
    cases h4
    rw [addr_add_add, h5] at h3
    exact cell_of hs h3
/-- A row is let go: it is a slice that is read. -/
theorem St.rowkeep {α : Type} [Enc α] {M : Nat} {v : Value} {e : TypeId} {n : Nat} {l : List α} (st : St w0 W H0 H (.row v e (Enc.sz α) n (cellsL l) :: L)) (hn : l.length = n) (hok : ∀ x ∈ l, Enc.ok M H x) (htop : n ≤ M) :
    ∃ H' s, St w0 W H0 H' L ∧ Le H H' ∧ s.v = v ∧ s.l = l ∧ Sl.Ok M H' (s : Sl α) := by
  have hown := (st.own _ List.mem_cons_self).1
  rcases hown.2 with ⟨rfl, hn0⟩ | ⟨gb, cap, cur, rfl, hbase, hh, hnc, _, hsz, htake⟩
  · refine ⟨H, ⟨none, 0, l⟩, st.forget, Le.refl _, ?_, rfl, ?_⟩
    · simp [Sl.v, hn, hn0]
    · have : l = [] := List.eq_nil_of_length_eq_zero (by omega)
      subst this
      exact ⟨Nat.le_refl _, by simp, fun i x h => by simp at h⟩
  · have hl := le_put1 (.cells cur e (0, 0)) ((st.own _ List.mem_cons_self).2 gb rfl)
    refine ⟨_, ⟨some ⟨gb, 0, none⟩, cap, l⟩, st.keep rfl hh, hl, by simp [Sl.v, hn], rfl, ⟨by simpa [hn] using hnc, by simpa [hn] using htop, fun i x hx => ⟨⟨_, rfl, fun j u hj => ?_⟩, Enc.le hl (hok x (List.mem_of_getElem? hx))⟩⟩⟩
    rw [addr_add_add, plain_add]
    simp only [pcell, put1_self, Option.isSome_none, Bool.false_eq_true, if_false]
    have h4 := cellsL_get l i x hx j u hj
    rw [← htake, List.getElem?_take] at h4
    split at h4
    · rw [← Array.getElem?_toList]; exact h4
    · cases h4
/-- A row read while it is owned: a slice, in a wider heap of facts. -/
theorem St.rowread {α : Type} [Enc α] {M : Nat} {v : Value} {e : TypeId} {n : Nat} {l : List α} (st : St w0 W H0 H (.row v e (Enc.sz α) n (cellsL l) :: L)) (hn : l.length = n) (hok : ∀ x ∈ l, Enc.ok M H x) (htop : n ≤ M) :
    ∃ H' s, Sub H' W ∧ Le H H' ∧ s.v = v ∧ s.l = l ∧ Sl.Ok M H' (s : Sl α) := by
  obtain ⟨H', s, h1, h2, h3, h4, h5⟩ := st.rowkeep hn hok htop
  exact ⟨H', s, h1.sub, h2, h3, h4, h5⟩
end
end Go.Proofs.TB
