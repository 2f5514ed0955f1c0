/- What values are as data: elements with their cells; slices with what they hold. -/
import Derived.Test.YtmfnlloabaoagaaGreatDoorTD
import Derived.Laws.StructEq
set_option linter.unusedVariables false
set_option linter.unusedSimpArgs false
namespace Go.Proofs.TB
open Go.RowKit

/-- How a datum lies in memory: its cells; what must stay true of memory for it to be read. -/
class Enc (α : Type) where
  c : α → List Value
  sz : Nat
  ok : Nat → PH → α → Prop
  le : ∀ {M : Nat} {H H' : PH} {x : α}, Le H H' → ok M H x → ok M H' x
  mono : ∀ {M M' : Nat} {H : PH} {x : α}, M ≤ M' → ok M H x → ok M' H x
  len : ∀ x, (c x).length = sz
  pos : 0 < sz
  one : ∀ x, ∀ u ∈ c x, u.oneCell' = true
instance : Enc Int where
  c n := [.int .i64 n]
  sz := 1
  ok _ _ _ := True
  le _ h := h
  mono _ h := h
  len _ := rfl
  pos := Nat.one_pos
  one := fun x u h => by rw [List.mem_singleton.1 h]; rfl
instance : Enc ByteArray where
  c s := [.string s]
  sz := 1
  ok M _ s := s.size < M
  le _ h := h
  mono h k := Nat.lt_of_lt_of_le k h
  len _ := rfl
  pos := Nat.one_pos
  one := fun x u h => by rw [List.mem_singleton.1 h]; rfl
/-- A slice: where it begins, its capacity, its elements. -/
structure Sl (α : Type) where
  a : Option Addr
  cap : Nat
  l : List α
instance {α : Type} : Inhabited (Sl α) := ⟨⟨none, 0, []⟩⟩
def Sl.v {α : Type} (s : Sl α) : Value := .slice s.a s.l.length s.cap
def Sl.nil {α : Type} : Sl α := ⟨none, 0, []⟩
structure Sl.Ok {α : Type} [Enc α] (M : Nat) (H : PH) (s : Sl α) : Prop where
  cap : s.l.length ≤ s.cap
  top : s.l.length ≤ M
  get : ∀ i x, s.l[i]? = some x → (∃ ad, s.a = some ad ∧ At H (ad.add (i * Enc.sz α)) (Enc.c x)) ∧ Enc.ok M H x
theorem Sl.Ok.le {α : Type} [Enc α] {M : Nat} {H H' : PH} {s : Sl α} (h : Le H H') (k : Sl.Ok M H s) : Sl.Ok M H' s :=
  ⟨k.cap, k.top, fun i x e => by
    obtain ⟨⟨ad, h1, h2⟩, h3⟩ := k.get i x e
    exact ⟨⟨ad, h1, h2.le h⟩, Enc.le h h3⟩⟩
theorem Sl.Ok.mono {α : Type} [Enc α] {M M' : Nat} {H : PH} {s : Sl α} (h : M ≤ M') (k : Sl.Ok M H s) : Sl.Ok M' H s :=
  ⟨k.cap, Nat.le_trans k.top h, fun i x e => ⟨(k.get i x e).1, Enc.mono h (k.get i x e).2⟩⟩
instance {α : Type} [Enc α] : Enc (Sl α) where
  c s := [s.v]
  sz := 1
  ok M H s := Sl.Ok M H s
  le h k := k.le h
  mono h k := k.mono h
  len _ := rfl
  pos := Nat.one_pos
  one := fun x u h => by rw [List.mem_singleton.1 h]; rfl
theorem Sl.Ok.nil {α : Type} [Enc α] {M : Nat} {H : PH} : Sl.Ok M H (Sl.nil : Sl α) := ⟨Nat.le_refl _, by simp [Sl.nil], fun i x e => by simp [Sl.nil] at e⟩
/-- A list's element, a list's length. -/
def lg {α : Type} [Inhabited α] (l : List α) (i : Int) : α := l.getD i.toNat default
theorem lg_get {α : Type} [Inhabited α] {l : List α} {i : Int} (h0 : 0 ≤ i) (h1 : i < l.length) : l[i.toNat]? = some (lg l i) := by
  have : i.toNat < l.length := by omega
  simp [lg, List.getD_eq_getElem?_getD, List.getElem?_eq_getElem this]
section
variable {P : Program} {ops : Array Oper} {Q : Exit → Act → World → Prop} {rest : List Oper} {N : Nat} {env : Env} {W w0 : World} {d : Tmp} {ty t : TypeId} {pos : String} {aft : Array Edge} {g : Option (Nat × Bool)} {x ix : Operand} {H0 H : PH} {L : List Own} {C : World → Prop} {K : Act → Prop}
/-- An element's place. -/
theorem WL.idx {α : Type} [Enc α] {s : Sl α} {i : Int} {y : α} (hw : wn ops env g = some true) (hd : Nat.blt d N = true) (hx : ev env x = some (.slice s.a s.l.length s.cap)) (hi : ev env ix = some (.int .i64 i)) (ht : slOf P t = some (Enc.sz α)) {M : Nat} (k : Sl.Ok M H s) (h0 : 0 ≤ i) (hy : s.l[i.toNat]? = some y)
    (kk : ∀ ad, At H ad (Enc.c y) → WL P ops Q rest N ((d, .pointer (some ad)) :: env) W) : WL P ops Q (⟨some d, .indexAddr t x ix, ty, pos, aft, g⟩ :: rest) N env W := by
  obtain ⟨ad, hA, hat⟩ := (k.get _ _ hy).1
  have h1 : i < s.l.length := by have := (List.getElem?_eq_some_iff.1 hy).1; omega
  exact WL.pu hw hd (Pu.idx0 hx hi ht h0 h1 hA) (kk _ hat)
end
/-- The list that a loop goes through: where it stands. -/
theorem drop_at {α : Type} {l suf : List α} {i : Int} (h : suf = l.drop i.toNat) (h0 : 0 ≤ i) (h1 : i < l.length) : ∃ x xs, suf = x :: xs ∧ l[i.toNat]? = some x ∧ xs = l.drop (i + 1).toNat := by
  have hlt : i.toNat < l.length := by omega
  refine ⟨l[i.toNat], l.drop (i.toNat + 1), ?_, List.getElem?_eq_getElem hlt, ?_⟩
  · rw [h, List.drop_eq_getElem_cons hlt]
  · congr 1; omega
theorem drop_end {α : Type} {l suf : List α} {i : Int} (h : suf = l.drop i.toNat) (h1 : ¬ i < l.length) : suf = [] := by
  rw [h]
  exact List.drop_eq_nil_of_le (by omega)
theorem drop_0 {α : Type} (l : List α) : l = l.drop (0 : Int).toNat := rfl
theorem w64 {x : Int} (h0 : -9223372036854775808 ≤ x) (h1 : x ≤ 9223372036854775807) : IntKind.i64.wrap x = x := IntWalk.i64_in _ (by omega)
end Go.Proofs.TB
