/- '==' of structs. -/
import Derived.Test.YtmfnlloabaoagaaGreatDoorTI
set_option linter.unusedVariables false
set_option linter.unusedSimpArgs false
namespace Go.Proofs.TB
open Go.RowKit
variable {P : Program}
theorem eqg_agg {op : BinOp} {t : TypeId} (h : P.eqGuardType P.depth t = false) (xs ys : Array Value) : Eqg P op t (.agg xs) (.agg ys) := fun x y W => by
  simp only [eqGuard]
  cases op <;> simp [h]
def eqF (d : Nat) (xs ys : Array Value) : List (Bool × TypeId × Nat) → Sem Bool
  | [] => pure true
  | (n, t, o) :: fs =>
    if n = false then do
      let a ← part t xs o
      let b ← part t ys o
      let r ← Op.equalIn d t a b
      if (!r) = true then pure false else eqF d xs ys fs
    else eqF d xs ys fs
def flOf (P : Program) (t : TypeId) : List (Bool × TypeId × Nat) := (P.fieldsOf t).toList.map fun f => (f.name == "_", f.type, f.offset)
theorem eqF_of (d : Nat) (xs ys : Array Value) : ∀ fs : List Field, Op.eqFields d xs ys fs = eqF d xs ys (fs.map fun f => (f.name == "_", f.type, f.offset))
  | [] => rfl
  | f :: fs => by
    simp only [Op.eqFields, List.map_cons, eqF, eqF_of d xs ys fs]
    by_cases h : f.name = "_" <;> simp [h]
def EqIn (P : Program) (d : Nat) (t : TypeId) (a b : Value) (r : Bool) : Prop := ∀ W, (Op.equalIn d t a b).run P W = .ok r W
def EqFs (P : Program) (d : Nat) (xs ys : Array Value) (fs : List (Bool × TypeId × Nat)) (r : Bool) : Prop := ∀ W, (eqF d xs ys fs).run P W = .ok r W
theorem EqFs.nil {d : Nat} {xs ys : Array Value} : EqFs P d xs ys [] true := fun W => by simp [eqF]
theorem EqFs.cons {d : Nat} {xs ys : Array Value} {t : TypeId} {o : Nat} {fs : List (Bool × TypeId × Nat)} {u v : Value} {b c : Bool} (hx : ∀ W, (part t xs o).run P W = .ok u W) (hy : ∀ W, (part t ys o).run P W = .ok v W) (he : EqIn P d t u v b) (hr : EqFs P d xs ys fs c) : EqFs P d xs ys ((false, t, o) :: fs) (b && c) := fun W => by
  simp only [eqF, if_true, Sem.run_bind, hx, hy, he W, Result.andThen_ok]
  cases b
  · simp
  · simpa using hr W
theorem EqIn.st {d : Nat} {t : TypeId} {xs ys : Array Value} {fs : List (Bool × TypeId × Nat)} {r : Bool} (ht : P.underlying t = some (.struct (P.fieldsOf t))) (hp : P.stoodInHeld t = false) (hf : flOf P t = fs) (h : EqFs P d xs ys fs r) : EqIn P (d + 1) t (.agg xs) (.agg ys) r := fun W => by
  rw [run_equalIn_struct W d t xs ys ht hp, eqF_of, show (P.fieldsOf t).toList.map (fun f => (f.name == "_", f.type, f.offset)) = fs from hf]
  exact h W
theorem EqIn.int {d : Nat} {t : TypeId} {k kk : IntKind} (ht : P.underlying t = some (.int kk)) (a b : Int) : EqIn P (d + 1) t (.int k a) (.int k b) (decide (a = b)) := fun W => by
  simp [Op.equalIn, run_underlying ht]; rfl
theorem EqIn.str {d : Nat} {t : TypeId} (ht : P.underlying t = some .string) (a b : ByteArray) : EqIn P (d + 1) t (.string a) (.string b) (decide (a = b)) := fun W => by
  simp only [Op.equalIn, Sem.run_bind, run_underlying ht, Result.andThen_ok]
  rw [beq_toListBytes, toList_beq]; rfl
theorem EqIn.bool {d : Nat} {t : TypeId} (ht : P.underlying t = some .bool) (a b : Bool) : EqIn P (d + 1) t (.bool a) (.bool b) (decide (a = b)) := fun W => by
  simp [Op.equalIn, run_underlying ht]
  cases a <;> cases b <;> rfl
theorem part1 {t : TypeId} {xs : Array Value} {o n : Nat} {u : Value} (ht : tyOf P t = some (false, n)) (hx : xs[o]? = some u) : ∀ W, (part t xs o).run P W = .ok u W := fun W => by
  simp [part, (tyOf_run ht W).1, hx]
theorem partA {t : TypeId} {xs us : Array Value} {o n : Nat} (ht : tyOf P t = some (true, n)) (hx : xs.extract o (o + n) = us) : ∀ W, (part t xs o).run P W = .ok (.agg us) W := fun W => by
  simp [part, (tyOf_run ht W).1, (tyOf_run ht W).2, hx]
theorem Bin.eqst {t : TypeId} {xs ys : Array Value} {r : Bool} (h : EqIn P 10000 t (.agg xs) (.agg ys) r) : Bin P .eql t (.agg xs) (.agg ys) (.bool r) := fun W => by
  have := h W
  simp only [binOp, Op.equal, Sem.run_bind]
  rw [show Op.maxDepth = 10000 from rfl, this]
  rfl
theorem Bin.nest {t : TypeId} {xs ys : Array Value} {r : Bool} (h : EqIn P 10000 t (.agg xs) (.agg ys) r) : Bin P .neq t (.agg xs) (.agg ys) (.bool (!r)) := fun W => by
  have := h W
  simp only [binOp, Op.equal, Sem.run_bind]
  rw [show Op.maxDepth = 10000 from rfl, this]
  rfl
end Go.Proofs.TB
