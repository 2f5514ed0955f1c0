/- The rules for the operations that only reckon or read. -/
import Derived.Test.YtmfnlloabaoagaaGreatDoorTB
import Derived.WalkLawsBesides
set_option linter.unusedVariables false
set_option linter.unusedSimpArgs false
namespace Go.Proofs.TB
open Go.RowKit

/-! ### facts on types -/
def tyOf (P : Program) (t : TypeId) : Option (Bool × Nat) :=
  match P.underlying t, P.info? t with
  | some d, some i => some (match d with | .struct _ | .array _ _ => true | _ => false, i.size)
  | _, _ => none
theorem tyOf_run {P : Program} {t : TypeId} {b : Bool} {n : Nat} (h : tyOf P t = some (b, n)) (W : World) : (isAgg t).run P W = .ok b W ∧ (sizeOf t).run P W = .ok n W := by
  unfold tyOf at h
  cases hu : P.underlying t with
  | none => simp [hu] at h
  | some d =>
    cases hi : P.info? t with
    | none => simp [hu, hi] at h
    | some i =>
      simp only [hu, hi, Option.some.injEq, Prod.mk.injEq] at h
      obtain ⟨h1, h2⟩ := h
      constructor
      · unfold isAgg
        simp only [underlying, program, Sem.run_bind, Sem.run, bind, Sem.bind, hu, Result.andThen_ok, pure]
        cases d <;> simp_all [Sem.run]
      · simp [sizeOf, typeInfo, hi, h2]
/-- Where a struct's field lies. -/
def foOf (P : Program) (s : TypeId) (f : Nat) : Option Nat :=
  match P.underlying s with
  | some (.struct fs) => match fs[f]? with
    | some fl => match P.info? fl.type with
      | some i => if i.size = 0 then none else some fl.offset
      | none => none
    | none => none
  | _ => none
theorem foOf_run {P : Program} {s : TypeId} {f o : Nat} (h : foOf P s f = some o) (ad : Addr) (W : World) : (Instr.fieldAt s (.pointer (some ad)) f).run P W = .ok (.pointer (some (ad.add o))) W := by
  unfold foOf at h
  cases hu : P.underlying s with
  | none => simp [hu] at h
  | some d =>
    cases d <;> simp only [hu, reduceCtorEq] at h
    rename_i fs
    cases hf : fs[f]? with
    | none => simp [hf] at h
    | some fl =>
      cases hi : P.info? fl.type with
      | none => simp [hf, hi] at h
      | some i =>
        simp only [hf, hi] at h
        split at h
        · cases h
        · rename_i hz
          simp only [Option.some.injEq] at h
          subst h
          simp [Instr.fieldAt, run_underlying hu, hf, Instr.sureAddr, fieldPlace, sizeOf, typeInfo, hi, hz]

/-! ### what lies at an address -/
def AtW (W : World) (a : Addr) (cs : List Value) : Prop := ∀ j v, cs[j]? = some v → W.cell? (a.add j) = some v
theorem At.w {H : PH} {W : World} {a : Addr} {cs : List Value} (h : At H a cs) (hs : Sub H W) : AtW W a cs := fun j v e => cell_of hs (h j v e)
theorem addr_add_add (a : Addr) (i j : Nat) : (a.add i).add j = a.add (i + j) := by
  unfold Addr.add
  by_cases h1 : i = 0 <;> by_cases h2 : j = 0 <;> simp [h1, h2, Nat.add_assoc]
theorem At.drop {H : PH} {a : Addr} {cs : List Value} (h : At H a cs) (o : Nat) : At H (a.add o) (cs.drop o) := fun j v e => by
  rw [addr_add_add]
  refine h (o + j) v ?_
  rw [List.getElem?_drop] at e
  exact e
theorem AtW.drop {W : World} {a : Addr} {cs : List Value} (h : AtW W a cs) (o : Nat) : AtW W (a.add o) (cs.drop o) := fun j v e => by
  rw [addr_add_add]
  refine h (o + j) v ?_
  rw [List.getElem?_drop] at e
  exact e
theorem plain_add (b j : Nat) : (⟨b, 0, none⟩ : Addr).add j = ⟨b, j, none⟩ := by
  unfold Addr.add
  split <;> simp_all
/-- A block known whole. -/
theorem At.block {H : PH} {b : Nat} {c : Array Value} {t : TypeId} {fr : Nat × Nat} (h : H b = some (.cells c t fr)) : At H ⟨b, 0, none⟩ c.toList := fun j v e => by
  rw [plain_add]
  simp only [pcell, h]
  simpa using e
theorem AtW.block {W : World} {b : Nat} {c : Array Value} {t : TypeId} {fr : Nat × Nat} (h : W.heap[b]? = some (.cells c t fr)) : AtW W ⟨b, 0, none⟩ c.toList := fun j v e => by
  rw [plain_add]
  simp only [World.cell?, h]
  simpa using e
/-- What a load hands over. -/
def ldv (b : Bool) (n : Nat) (cs : List Value) : Option Value := bif b then (bif Nat.ble n cs.length then some (.agg (cs.take n).toArray) else none) else cs.head?
theorem run_load {P : Program} {t : TypeId} {b : Bool} {n : Nat} {W : World} {a : Addr} {cs : List Value} {v : Value} (ht : tyOf P t = some (b, n)) (h : AtW W a cs) (hv : ldv b n cs = some v) : (loadVar t a).run P W = .ok v W := by
  obtain ⟨h1, h2⟩ := tyOf_run ht W
  unfold loadVar
  cases b with
  | false =>
    simp only [ldv, cond_false] at hv
    have h0 : W.cell? a = some v := by
      have := h 0 v (by rw [← hv]; cases cs <;> rfl)
      simpa [Addr.add] using this
    rw [Sem.run_bind, h1]
    simp [load, Sem.run, h0]
  | true =>
    simp only [ldv, cond_true] at hv
    cases hb : Nat.ble n cs.length with
    | false => rw [hb] at hv; cases hv
    | true =>
      rw [hb, cond_true, Option.some.injEq] at hv
      subst hv
      have hn : n ≤ cs.length := Nat.le_of_ble_eq_true hb
      have hl := run_loadCells_list (P := P) W a (cs.take n) (fun j u e => by
        rw [List.getElem?_take] at e
        split at e
        · exact h j u e
        · cases e)
      rw [List.length_take, Nat.min_eq_left hn] at hl
      rw [Sem.run_bind, h1]
      simp only [Result.andThen_ok, if_true]
      rw [Sem.run_bind, h2]
      simp only [Result.andThen_ok, Sem.run_bind, hl]
      rfl

section
variable {P : Program} {ops : Array Oper} {Q : Exit → Act → World → Prop} {rest : List Oper} {N : Nat} {env : Env} {W : World} {d : Tmp} {ty : TypeId} {pos : String} {aft : Array Edge} {g : Option (Nat × Bool)}
theorem Pu.move {x : Operand} {v : Value} (hx : ev env x = some v) : Pu P ⟨some d, .move x, ty, pos, aft, g⟩ N env W (v) :=
  (fun a ha => by simp only [execOp, ha.eval hx]; rfl)
theorem Pu.assign {x : Operand} {v : Value} (hx : ev env x = some v) : Pu P ⟨some d, .assign x, ty, pos, aft, g⟩ N env W (v) :=
  (fun a ha => by simp only [execOp, ha.eval hx]; rfl)
theorem Pu.pickT {c x y : Operand} {v : Value} (hc : ev env c = some (.bool true)) (hx : ev env x = some v) : Pu P ⟨some d, .pick c x y, ty, pos, aft, g⟩ N env W (v) :=
  (fun a ha => by simp [execOp, ha.eval hx, ha.eval hc, asBool])
theorem Pu.pickF {c x y : Operand} {v : Value} (hc : ev env c = some (.bool false)) (hx : ev env y = some v) : Pu P ⟨some d, .pick c x y, ty, pos, aft, g⟩ N env W (v) :=
  (fun a ha => by simp [execOp, ha.eval hx, ha.eval hc, asBool])
theorem Pu.fa {s : TypeId} {x : Operand} {f o : Nat} {ad : Addr} (hx : ev env x = some (.pointer (some ad))) (hf : foOf P s f = some o) : Pu P ⟨some d, .fieldAddr s x f, ty, pos, aft, g⟩ N env W (.pointer (some (ad.add o))) :=
  (fun a ha => by simp [execOp, ha.eval hx, foOf_run hf])
theorem Pu.load {t : TypeId} {x : Operand} {b : Bool} {n : Nat} {ad : Addr} {cs : List Value} {v : Value} (hx : ev env x = some (.pointer (some ad))) (ht : tyOf P t = some (b, n)) (h : AtW W ad cs) (hv : ldv b n cs = some v) : Pu P ⟨some d, .load t x, ty, pos, aft, g⟩ N env W (v) :=
  (fun a ha => by simp [execOp, ha.eval hx, Instr.loadAt, Instr.sureAddr, run_load ht h hv])
theorem Pu.nilc {x : Operand} {ad : Addr} (hx : ev env x = some (.pointer (some ad))) : Pu P ⟨some d, .nilCheck x, ty, pos, aft, g⟩ N env W (.pointer (some ad)) :=
  (fun a ha => by simp [execOp, ha.eval hx])
/-- Any operation on two values: what it comes to is a fact of its own. -/
def Bin (P : Program) (op : BinOp) (t : TypeId) (a b v : Value) : Prop := ∀ W, (binOp op t a b).run P W = .ok v W
/-- No interface lies in it: '==' asks for nothing more. -/
def Eqg (P : Program) (op : BinOp) (t : TypeId) (a b : Value) : Prop := ∀ (x y : Operand) W, (eqGuard op t x y a b).run P W = .ok () W
theorem Pu.bin {op : BinOp} {t ty2 : TypeId} {x y : Operand} {u w v : Value} (hx : ev env x = some u) (hy : ev env y = some w) (he : Eqg P op t u w) (h : Bin P op t u w v) : Pu P ⟨some d, .binOp op t x y ty2, ty, pos, aft, g⟩ N env W (v) :=
  (fun a ha => by simp [execOp, ha.eval hx, ha.eval hy, he x y W, h W])
theorem Pu.notb {t : TypeId} {x : Operand} {b : Bool} (hx : ev env x = some (.bool b)) : Pu P ⟨some d, .unOp .not t x, ty, pos, aft, g⟩ N env W (.bool (!b)) :=
  (fun a ha => by simp [execOp, ha.eval hx, Op.unary])
theorem Pu.ext {x : Operand} {i : Nat} {vs : Array Value} {v : Value} (hx : ev env x = some (.tuple vs)) (hv : vs[i]? = some v) : Pu P ⟨some d, .extract x i, ty, pos, aft, g⟩ N env W (v) :=
  (fun a ha => by simp [execOp, ha.eval hx, Instr.extract, hv])
def evs (env : Env) : List Operand → Option (List Value)
  | [] => some []
  | x :: r => match ev env x, evs env r with
    | some v, some vs => some (v :: vs)
    | _, _ => none
theorem Holds.evals {N : Nat} {a : Act} {env : Env} (h : Holds N a env) : ∀ {xs : List Operand} {vs : List Value}, evs env xs = some vs → xs.map a.eval = vs
  | [], vs, e => by simp only [evs, Option.some.injEq] at e; subst e; rfl
  | x :: r, vs, e => by
    simp only [evs] at e
    cases h1 : ev env x with
    | none => simp [h1] at e
    | some v =>
      cases h2 : evs env r with
      | none => simp [h1, h2] at e
      | some us =>
        simp only [h1, h2, Option.some.injEq] at e
        subst e
        rw [List.map_cons, h.eval h1, h.evals h2]
theorem Pu.mkf {fn : Fn} {xs : List Operand} {vs : List Value} (hx : evs env xs = some vs) : Pu P ⟨some d, .makeFunc fn #[] xs.toArray, ty, pos, aft, g⟩ N env W (.func fn #[] vs.toArray) :=
  (fun a ha => by simp [execOp, Instr.makeFunc, ha.evals hx])
/-- How many cells an element of a slice type has. -/
def slOf (P : Program) (t : TypeId) : Option Nat :=
  match P.underlying t with
  | some (.slice e) => (P.info? e).map (·.size)
  | _ => none
theorem slOf_elim {P : Program} {t : TypeId} {n : Nat} (h : slOf P t = some n) : ∃ e i, P.underlying t = some (.slice e) ∧ P.info? e = some i ∧ i.size = n := by
  unfold slOf at h
  cases hu : P.underlying t with
  | none => simp [hu] at h
  | some ds =>
    cases ds <;> simp only [hu, reduceCtorEq] at h
    rename_i e
    cases hi : P.info? e with
    | none => simp [hi] at h
    | some i => exact ⟨e, i, rfl, hi, by simpa [hi] using h⟩
theorem Pu.idx0 {t : TypeId} {x ix : Operand} {A : Option Addr} {n c sz : Nat} {i : Int} {ad : Addr} (hx : ev env x = some (.slice A n c)) (hi : ev env ix = some (.int .i64 i)) (ht : slOf P t = some sz) (h0 : 0 ≤ i) (h1 : i < n) (hA : A = some ad) : Pu P ⟨some d, .indexAddr t x ix, ty, pos, aft, g⟩ N env W (.pointer (some (ad.add (i.toNat * sz)))) :=
  (fun a ha => by
    obtain ⟨e, inf, hu, hin, hs⟩ := slOf_elim ht
    subst hA
    simp [execOp, ha.eval hx, ha.eval hi, Instr.indexAt, asIntOf, run_underlying hu, h0, h1, sizeOf, typeInfo, hin, hs])
theorem Pu.lens {t : TypeId} {x : Operand} {A : Option Addr} {n c : Nat} (hx : ev env x = some (.slice A n c)) {sz : Nat} (ht : slOf P t = some sz) : Pu P ⟨some d, .call { callee := .builtin .len, args := #[x], argTypes := #[t] }, ty, pos, aft, g⟩ N env W (.int .i64 (n : Int)) :=
  (fun a ha => by
    obtain ⟨e, inf, hu, hin, hs⟩ := slOf_elim ht
    simp [execOp, resolve, invoke, builtin, Builtin.len_, ha.eval hx, run_underlying hu, goInt])
theorem Pu.lenstr {t : TypeId} {x : Operand} {s : ByteArray} (hx : ev env x = some (.string s)) (ht : P.underlying t = some .string) : Pu P ⟨some d, .call { callee := .builtin .len, args := #[x], argTypes := #[t] }, ty, pos, aft, g⟩ N env W (.int .i64 (s.size : Int)) :=
  (fun a ha => by
    simp [execOp, resolve, invoke, builtin, Builtin.len_, ha.eval hx, run_underlying ht, goInt])
/-- A byte of a text; 0 beyond it. -/
def bt (s : ByteArray) (i : Int) : Int := ((s.data.toList.getD i.toNat 0).toNat : Int)
theorem Pu.ixs {t : TypeId} {x ix : Operand} {s : ByteArray} {i : Int} (hx : ev env x = some (.string s)) (hi : ev env ix = some (.int .i64 i)) (ht : P.underlying t = some .string) (h0 : 0 ≤ i) (h1 : i < s.size) : Pu P ⟨some d, .index t x ix, ty, pos, aft, g⟩ N env W (.int .u8 (bt s i)) :=
  (fun a ha => by
    have hl : i.toNat < s.size := by omega
    have hg : s[i.toNat]? = some (s[i.toNat]'hl) := by simp [hl]
    have hb : bt s i = ((s[i.toNat]'hl).toNat : Int) := by
      have hl2 : i.toNat < s.data.toList.length := by rw [Array.length_toList]; exact hl
      simp only [bt, List.getD_eq_getElem?_getD, List.getElem?_eq_getElem hl2, Option.getD_some]
      rfl
    simp [execOp, ha.eval hx, ha.eval hi, Instr.index, asIntOf, run_underlying ht, h0, hg, hb])
end
/-! ### operations on two numbers, texts, truths -/
theorem eqg_int (P : Program) (op : BinOp) (t : TypeId) (a b : Int) (k k' : IntKind) : Eqg P op t (.int k a) (.int k' b) := fun x y W => by simp [eqGuard]
theorem eqg_str (P : Program) (op : BinOp) (t : TypeId) (a b : ByteArray) : Eqg P op t (.string a) (.string b) := fun x y W => by simp [eqGuard]
theorem eqg_bool (P : Program) (op : BinOp) (t : TypeId) (a b : Bool) : Eqg P op t (.bool a) (.bool b) := fun x y W => by simp [eqGuard]
theorem eqg_slice (P : Program) (op : BinOp) (t : TypeId) (A B : Option Addr) (a b c e : Nat) : Eqg P op t (.slice A a c) (.slice B b e) := fun x y W => by simp [eqGuard]
theorem toList_beq (a b : ByteArray) : (a.toList == b.toList) = decide (a = b) := by
  rw [Bool.eq_iff_iff]
  simp only [beq_iff_eq, decide_eq_true_eq]
  constructor
  · intro h
    rw [ByteArray.toList_eq, ByteArray.toList_eq] at h
    obtain ⟨⟨x⟩⟩ := a
    obtain ⟨⟨y⟩⟩ := b
    simp at h
    rw [h]
  · rintro rfl; rfl
theorem run_equalIn_bool {P : Program} {t : TypeId} (ht : P.underlying t = some .bool) (n : Nat) (p q : Bool) (W : World) : (Op.equalIn (n + 1) t (.bool p) (.bool q)).run P W = .ok (p == q) W := by
  simp [Op.equalIn, run_underlying ht]
theorem run_equal_bool {P : Program} {t : TypeId} (ht : P.underlying t = some .bool) (p q : Bool) (W : World) : (Op.equal t (.bool p) (.bool q)).run P W = .ok (p == q) W := run_equalIn_bool ht 9999 p q W
section
variable {P : Program} {ops : Array Oper} {Q : Exit → Act → World → Prop} {rest : List Oper} {N : Nat} {env : Env} {W : World} {d : Tmp} {ty t ty2 : TypeId} {pos : String} {aft : Array Edge} {g : Option (Nat × Bool)} {x y : Operand} {kd : IntKind} {a b : Int} {s u : ByteArray} {p q : Bool}
theorem Pu.ieq (hx : ev env x = some (.int kd a)) (hy : ev env y = some (.int kd b)) : Pu P ⟨some d, .binOp .eql t x y ty2, ty, pos, aft, g⟩ N env W (.bool (decide (a = b))) :=
  Pu.bin hx hy (eqg_int P _ _ _ _ _ _) (fun W => by simp [binOp, Op.intCmp]; rfl)
theorem Pu.ine (hx : ev env x = some (.int kd a)) (hy : ev env y = some (.int kd b)) : Pu P ⟨some d, .binOp .neq t x y ty2, ty, pos, aft, g⟩ N env W (.bool (!decide (a = b))) :=
  Pu.bin hx hy (eqg_int P _ _ _ _ _ _) (fun W => by simp [binOp, Op.intCmp]; rfl)
theorem Pu.ilt (hx : ev env x = some (.int kd a)) (hy : ev env y = some (.int kd b)) : Pu P ⟨some d, .binOp .lss t x y ty2, ty, pos, aft, g⟩ N env W (.bool (decide (a < b))) :=
  Pu.bin hx hy (eqg_int P _ _ _ _ _ _) (fun W => by simp [binOp, Op.intCmp])
theorem Pu.ile (hx : ev env x = some (.int kd a)) (hy : ev env y = some (.int kd b)) : Pu P ⟨some d, .binOp .leq t x y ty2, ty, pos, aft, g⟩ N env W (.bool (decide (a ≤ b))) :=
  Pu.bin hx hy (eqg_int P _ _ _ _ _ _) (fun W => by simp [binOp, Op.intCmp])
theorem Pu.igt (hx : ev env x = some (.int kd a)) (hy : ev env y = some (.int kd b)) : Pu P ⟨some d, .binOp .gtr t x y ty2, ty, pos, aft, g⟩ N env W (.bool (decide (b < a))) :=
  Pu.bin hx hy (eqg_int P _ _ _ _ _ _) (fun W => by simp [binOp, Op.intCmp])
theorem Pu.ige (hx : ev env x = some (.int kd a)) (hy : ev env y = some (.int kd b)) : Pu P ⟨some d, .binOp .geq t x y ty2, ty, pos, aft, g⟩ N env W (.bool (decide (b ≤ a))) :=
  Pu.bin hx hy (eqg_int P _ _ _ _ _ _) (fun W => by simp [binOp, Op.intCmp])
theorem Pu.iadd {c : Int} (hx : ev env x = some (.int kd a)) (hy : ev env y = some (.int kd b)) (hc : kd.wrap (a + b) = c) : Pu P ⟨some d, .binOp .add t x y ty2, ty, pos, aft, g⟩ N env W (.int kd c) :=
  Pu.bin hx hy (eqg_int P _ _ _ _ _ _) (fun W => by subst hc; simp [binOp, Op.intArith])
theorem Pu.isub {c : Int} (hx : ev env x = some (.int kd a)) (hy : ev env y = some (.int kd b)) (hc : kd.wrap (a - b) = c) : Pu P ⟨some d, .binOp .sub t x y ty2, ty, pos, aft, g⟩ N env W (.int kd c) :=
  Pu.bin hx hy (eqg_int P _ _ _ _ _ _) (fun W => by subst hc; simp [binOp, Op.intArith])
theorem Pu.seq (hx : ev env x = some (.string s)) (hy : ev env y = some (.string u)) : Pu P ⟨some d, .binOp .eql t x y ty2, ty, pos, aft, g⟩ N env W (.bool (decide (s = u))) :=
  Pu.bin hx hy (eqg_str P _ _ _ _) (fun W => by simp only [binOp, Op.stringOp, toList_beq]; rfl)
theorem Pu.sne (hx : ev env x = some (.string s)) (hy : ev env y = some (.string u)) : Pu P ⟨some d, .binOp .neq t x y ty2, ty, pos, aft, g⟩ N env W (.bool (!decide (s = u))) :=
  Pu.bin hx hy (eqg_str P _ _ _ _) (fun W => by simp only [binOp, Op.stringOp, toList_beq]; rfl)
theorem Pu.beq (hx : ev env x = some (.bool p)) (hy : ev env y = some (.bool q)) (ht : P.underlying t = some .bool) : Pu P ⟨some d, .binOp .eql t x y ty2, ty, pos, aft, g⟩ N env W (.bool (p == q)) :=
  Pu.bin hx hy (eqg_bool P _ _ _ _) (fun W => by simp only [binOp, Sem.run_bind, run_equal_bool ht, Result.andThen_ok]; rfl)
theorem Pu.bne (hx : ev env x = some (.bool p)) (hy : ev env y = some (.bool q)) (ht : P.underlying t = some .bool) : Pu P ⟨some d, .binOp .neq t x y ty2, ty, pos, aft, g⟩ N env W (.bool (!(p == q))) :=
  Pu.bin hx hy (eqg_bool P _ _ _ _) (fun W => by simp only [binOp, Sem.run_bind, run_equal_bool ht, Result.andThen_ok]; rfl)
end
end Go.Proofs.TB
