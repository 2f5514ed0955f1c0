/- The library's own IndexByte, that has no text. -/
import Derived.Test.YtmfnlloabaoagaaGreatDoorTK
import Derived.Lib.Bytealg
import Derived.Laws.Externs
set_option linter.unusedVariables false
set_option linter.unusedSimpArgs false
namespace Go.Proofs.TB
open Go.RowKit
/-- The first place of an octet; -1: none. -/
def ixb (s : ByteArray) (c : Int) : Int := Lib.indexByte s.data.toList c.toNat.toUInt8
def Ixb (P : Program) (k : FuncId) : Prop := ∀ (s : ByteArray) (c : Int) (W : World), (callFunc k #[.string s, .int .u8 c]).run P W = .ok (.value (.int .i64 (ixb s c))) W
theorem Ixb.of {P : Program} {k : FuncId} {fn : Func} (hf : P.funcs[k]? = some fn) (hname : (fn.name == "runtime.NumGoroutine") = false) (hb : fn.body.isNone = true) (hn : Extern.findNext fn = none) (he : Extern.find fn = some Extern.BytealgIndexByte.indexByte) : Ixb P k := fun s c W => by
  rw [run_callFunc_extern hf hname hb hn he, Lib.run_indexByteString]
  rfl
theorem Pu.ixb {P : Program} {N : Nat} {env : Env} {W : World} {d : Tmp} {ty : TypeId} {pos : String} {aft : Array Edge} {g : Option (Nat × Bool)} {f x y : Operand} {ts : Array TypeId} {k : FuncId} {s : ByteArray} {c : Int} (he : Ixb P k) (hf : ev env f = some (.func (.func k) #[] #[])) (hx : ev env x = some (.string s)) (hy : ev env y = some (.int .u8 c)) :
    Pu P ⟨some d, .call { callee := .value f, args := #[x, y], argTypes := ts }, ty, pos, aft, g⟩ N env W (.int .i64 (ixb s c)) := fun a ha => by
  simp [execOp, resolve, ha.eval hf, Deferred.ofValue, invoke, ha.eval hx, ha.eval hy, he s c W]
theorem ixb_ge (s : ByteArray) (c : Int) : -1 ≤ ixb s c := Lib.indexByte_ge _ _
theorem indexByte_lt : ∀ (l : List UInt8) (c : UInt8), Lib.indexByte l c < (l.length : Int)
  | [], c => by simp [Lib.indexByte]
  | x :: r, c => by
    have ih := indexByte_lt r c
    simp only [Lib.indexByte, List.length_cons]
    split
    · omega
    · split <;> omega
theorem ixb_lt (s : ByteArray) (c : Int) : ixb s c < (s.size : Int) := indexByte_lt s.data.toList c.toNat.toUInt8
theorem Pu.irem {P : Program} {N : Nat} {env : Env} {W : World} {d : Tmp} {ty t ty2 : TypeId} {pos : String} {aft : Array Edge} {g : Option (Nat × Bool)} {x y : Operand} {kd : IntKind} {a b : Int} (hx : ev env x = some (.int kd a)) (hy : ev env y = some (.int kd b)) (h0 : 0 ≤ a) (hb : 0 < b) : Pu P ⟨some d, .binOp .rem t x y ty2, ty, pos, aft, g⟩ N env W (.int kd (a % b)) :=
  Pu.bin hx hy (eqg_int P _ _ _ _ _ _) (fun W => by
    have h1 : ¬ b = 0 := by omega
    simp [binOp, Op.intDiv, h1, Int.tmod_eq_emod_of_nonneg h0])
theorem Pu.convi {P : Program} {N : Nat} {env : Env} {W : World} {d : Tmp} {ty t u : TypeId} {pos : String} {aft : Array Edge} {g : Option (Nat × Bool)} {x : Operand} {k k' : IntKind} {a c : Int} (hx : ev env x = some (.int k a)) (h1 : P.underlying t = some (.int k)) (h2 : P.underlying u = some (.int k')) (hc : k'.wrap a = c) : Pu P ⟨some d, .convert t u x, ty, pos, aft, g⟩ N env W (.int k' c) := fun w ha => by
  subst hc
  simp [execOp, ha.eval hx, convert, run_underlying h1, run_underlying h2, Conv.intToInt]
section
variable {P : Program} {ops : Array Oper} {Q : Exit → Act → World → Prop} {C : World → Prop} {tail : List Nat} {f : Nat} {ll : Array Bool} {N : Nat} {env : Env} {d : Tmp} {ty t : TypeId} {pos : String} {aft : Array Edge} {gd : Option (Nat × Bool)} {w0 W : World} {H0 H : PH} {L : List Own} {α : Type} [Enc α]
theorem St.litrow {e : TypeId} {n sz : Nat} {cs : List Value} (l : List α) (hpos : 0 < sz) (hsz : Enc.sz α = sz) (hle : n * sz ≤ 16777216) (hc : cs = cellsL l) (hln : l.length = n) (st : St w0 W H0 H L) : St w0 (W.alloc (.cells cs.toArray e (0, 0))) H0 H (rowS (.slice (some ⟨W.heap.size, 0, none⟩) n n) e l :: L) := by
  have hn2 : n ≤ n * sz := Nat.le_mul_of_pos_right n hpos
  refine (st.allocOwn (.cells cs.toArray e (0, 0))).turn (e' := rowS (.slice (some ⟨W.heap.size, 0, none⟩) n n) e l) rfl rfl rfl (Nat.le_refl _) (fun _ _ _ => rfl) ⟨by rw [cellsL_len], .inr ⟨W.heap.size, n, cs.toArray, by rw [hln], st.bel.size, heap_new W _, by omega, by unfold maxLen; omega, ?_, ?_⟩⟩ (.inl rfl)
  · rw [hc]; simp [cellsL_len, hln]
  · rw [hc, hln]; simp [← hln, ← cellsL_len]
theorem WO.litrow {e : TypeId} {z : Value} {sz by_ n : Nat} {xs : List (Nat × Operand)} {vs : List (Nat × Value)} (l : List α) (i : Nat) (hi : ops[i]? = some ⟨some d, .buildSlice t n xs.toArray, ty, pos, aft, gd⟩) (hw : wn ops env gd = some true) (hd : Nat.blt d N = true)
    (hg : ∀ b, tailB tail (ll.setIfInBounds i true) = false → ∀ H', Le H H' → Good C (Grew w0 H0 H' (rowS (.slice (some ⟨b, 0, none⟩) n n) e l :: L)))
    (hs : apOf P t = some (e, z, sz, by_)) (hz : z.cells.size = sz) (hp : Nat.blt 0 sz = true) (hsz : Enc.sz α = sz) (hx : evp env xs = some vs) (hn : vs.length = n) (hl : litOk sz 0 vs = true) (hle : Nat.ble (n * sz) 16777216 = true) (hc : litCells vs = cellsL l) (hln : l.length = n)
    (kk : ∀ b H', Le H H' → WS P ops Q C tail f (ll.setIfInBounds i true) N ((d, .slice (some ⟨b, 0, none⟩) n n) :: env) (Grew w0 H0 H' (rowS (.slice (some ⟨b, 0, none⟩) n n) e l :: L))) : WO P ops Q C tail f ll N env (Grew w0 H0 H L) i :=
  WO.op (o := ⟨some d, .buildSlice t n xs.toArray, ty, pos, aft, gd⟩) i hi hw hd (fun W ⟨H1, st, le⟩ => (bsl_op1 hs hz hp hx hn hl hle).mono fun u W' ⟨h1, h2⟩ => by
    subst h1; subst h2
    exact ⟨_, ⟨H1, st.litrow l (by simpa using hp) hsz (Nat.le_of_ble_eq_true hle) hc hln, Le.refl _⟩, fun ht => hg _ ht _ le, kk _ _ le⟩)
end
/-! ### a text's pieces -/
def splitOn (c : UInt8) : List UInt8 → List (List UInt8)
  | [] => [[]]
  | b :: r => if b == c then [] :: splitOn c r else match splitOn c r with
    | p :: ps => (b :: p) :: ps
    | [] => [[b]]
theorem splitOn_no (c : UInt8) : ∀ (l : List UInt8), Lib.indexByte l c < 0 → splitOn c l = [l]
  | [], _ => rfl
  | b :: r, h => by
    have hg := Lib.indexByte_ge r c
    simp only [Lib.indexByte] at h
    split at h
    · omega
    · rename_i hb
      split at h
      · rename_i h1
        have := splitOn_no c r (by have := beq_iff_eq.1 h1; omega)
        simp only [splitOn, hb, this]
        simp
      · rename_i h1
        have : ¬ Lib.indexByte r c = -1 := fun e => h1 (beq_iff_eq.2 e)
        omega
theorem splitOn_yes (c : UInt8) : ∀ (l : List UInt8) (i : Nat), Lib.indexByte l c = i → splitOn c l = l.take i :: splitOn c (l.drop (i + 1))
  | [], i, h => by simp only [Lib.indexByte] at h; omega
  | b :: r, i, h => by
    have hg := Lib.indexByte_ge r c
    simp only [Lib.indexByte] at h
    split at h
    · rename_i hb
      obtain rfl : i = 0 := by omega
      simp only [splitOn, hb]
      simp
    · rename_i hb
      split at h
      · omega
      · rename_i h1
        have : ¬ Lib.indexByte r c = -1 := fun e => h1 (beq_iff_eq.2 e)
        cases i with
        | zero => omega
        | succ i =>
          have := splitOn_yes c r i (by omega)
          simp only [splitOn, hb, this]
          simp
def bytesOf (l : List UInt8) : ByteArray := ⟨l.toArray⟩
def pieces (s : ByteArray) : List ByteArray := (splitOn 46 s.data.toList).map bytesOf
theorem extract_list (s : ByteArray) (a b : Nat) : (s.extract a b).data.toList = (s.data.toList.drop a).take (b - a) := by
  rw [ByteArray.data_extract, Array.toList_extract]
theorem bytesOf_data (s : ByteArray) : bytesOf s.data.toList = s := rfl
theorem pieces_no {s : ByteArray} (h : ixb s 46 < 0) : pieces s = [s] := by
  unfold pieces
  rw [splitOn_no 46 _ h, List.map_singleton, bytesOf_data]
theorem pieces_yes {s : ByteArray} (h : 0 ≤ ixb s 46) : pieces s = s.extract 0 (ixb s 46).toNat :: pieces (s.extract ((ixb s 46).toNat + 1) s.size) := by
  have h1 : Lib.indexByte s.data.toList 46 = ((ixb s 46).toNat : Int) := by
    show ixb s 46 = _
    omega
  have h2 := ixb_lt s 46
  unfold pieces
  rw [splitOn_yes 46 _ _ h1, List.map_cons]
  congr 1
  · rw [← bytesOf_data (s.extract 0 _), extract_list]
    simp
  · rw [extract_list]
    congr 2
    rw [List.take_of_length_le]
    rw [List.length_drop]
    show s.data.size - _ ≤ s.data.size - _
    omega
theorem pieces_len (s : ByteArray) : (pieces s).length ≤ s.size + 1 := by
  have : ∀ l : List UInt8, (splitOn 46 l).length ≤ l.length + 1 := by
    intro l
    induction l with
    | nil => simp [splitOn]
    | cons b r ih =>
      simp only [splitOn]
      split
      · simp; omega
      · cases h : splitOn 46 r with
        | nil => simp
        | cons p ps => rw [h] at ih; simp at ih ⊢; omega
  unfold pieces
  rw [List.length_map]
  exact this _
section
variable {P : Program} {ops : Array Oper} {Q : Exit → Act → World → Prop} {rest : List Oper} {N : Nat} {env : Env} {W : World} {d : Tmp} {op : Op} {ty : TypeId} {pos : String} {aft : Array Edge} {g : Option (Nat × Bool)} {v : Value} {x : Operand}
/-! The commonest steps, their side facts by default. -/
theorem vb {a b : Bool} (h : a = b) : Value.bool b = .bool a := by rw [h]
theorem WL.nt {y : Code} {Q' : Exit → Act → World → Prop} (h : CW P y Q N env W) : WL P ops (Exit.then (fun a w => y.wp P Q a w) Q') [] N env W := WL.nil (QX.thenN h)
theorem WL.pv (h : Pu P ⟨some d, op, ty, pos, aft, g⟩ N env W v) (k : WL P ops Q rest N ((d, v) :: env) W) (hw : wn ops env g = some true := by exact rfl) (hd : Nat.blt d N = true := by exact rfl) : WL P ops Q (⟨some d, op, ty, pos, aft, g⟩ :: rest) N env W := WL.pu hw hd h k
theorem WL.of (k : WL P ops Q rest N ((d, undef) :: env) W) (hw : wn ops env g = some false := by exact rfl) (hd : Nat.blt d N = true := by exact rfl) : WL P ops Q (⟨some d, op, ty, pos, aft, g⟩ :: rest) N env W := WL.off hw hd k
theorem WL.as (hx : ev env x = some v) (k : WL P ops Q rest N ((d, v) :: env) W) (hw : wn ops env g = some true := by exact rfl) (hd : Nat.blt d N = true := by exact rfl) : WL P ops Q (⟨some d, .assign x, ty, pos, aft, g⟩ :: rest) N env W := WL.pu hw hd (Pu.assign hx) k
theorem WL.mv (hx : ev env x = some v) (k : WL P ops Q rest N ((d, v) :: env) W) (hw : wn ops env g = some true := by exact rfl) (hd : Nat.blt d N = true := by exact rfl) : WL P ops Q (⟨some d, .move x, ty, pos, aft, g⟩ :: rest) N env W := WL.pu hw hd (Pu.move hx) k
theorem finA {fn : Func} {w : World} {H H' : PH} {L : List Own} {rs : List ResultVar} {vs : List Value} {Post : PH → Value → Prop} (hr : fn.results = rs.toArray) (st : St w W H H' L) (hv : Res P env W rs vs) (hp : Post H' (resV vs)) :
    QX .ret (bodyPost P fn (fun e W' => ∃ v H', e = .returned v ∧ St w W' H H' [] ∧ Post H' v)) N env W := fun _ ha => finR hr st hv hp ha
end
end Go.Proofs.TB
