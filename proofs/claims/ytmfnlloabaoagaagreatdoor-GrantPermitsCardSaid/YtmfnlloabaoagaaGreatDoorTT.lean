/- The program's types as data. -/
import Derived.Test.YtmfnlloabaoagaaGreatDoorTE
set_option linter.unusedVariables false
namespace Go.Proofs.TB
@[ext]
structure Ref where
  kind : Int
  space : ByteArray
  name : ByteArray
deriving Inhabited, DecidableEq
def Ref.c (x : Ref) : List Value := [.int .i64 x.kind, .string x.space, .string x.name]
def Ref.v (x : Ref) : Value := .agg (Ref.c x).toArray
structure Ref.Ok (M : Nat) (H : PH) (x : Ref) : Prop where
  space : x.space.size < M
  name : x.name.size < M
theorem Ref.Ok.le {M : Nat} {H H' : PH} {x : Ref} (h : Le H H') (k : Ref.Ok M H x) : Ref.Ok M H' x := ⟨k.space, k.name⟩
theorem Ref.Ok.mono {M M' : Nat} {H : PH} {x : Ref} (h : M ≤ M') (k : Ref.Ok M H x) : Ref.Ok M' H x := ⟨Nat.lt_of_lt_of_le k.space h, Nat.lt_of_lt_of_le k.name h⟩
instance : Enc Ref where
  c := Ref.c
  sz := 3
  ok := Ref.Ok
  le h k := k.le h
  mono h k := k.mono h
  len _ := rfl
  pos := by decide
  one := fun x u h => by
    simp only [Ref.c, List.mem_cons, List.not_mem_nil, or_false] at h
    rcases h with rfl | rfl | rfl <;> rfl
@[ext]
structure Pair where
  name : ByteArray
  val : ByteArray
deriving Inhabited, DecidableEq
def Pair.c (x : Pair) : List Value := [.string x.name, .string x.val]
def Pair.v (x : Pair) : Value := .agg (Pair.c x).toArray
structure Pair.Ok (M : Nat) (H : PH) (x : Pair) : Prop where
  name : x.name.size < M
  val : x.val.size < M
theorem Pair.Ok.le {M : Nat} {H H' : PH} {x : Pair} (h : Le H H') (k : Pair.Ok M H x) : Pair.Ok M H' x := ⟨k.name, k.val⟩
theorem Pair.Ok.mono {M M' : Nat} {H : PH} {x : Pair} (h : M ≤ M') (k : Pair.Ok M H x) : Pair.Ok M' H x := ⟨Nat.lt_of_lt_of_le k.name h, Nat.lt_of_lt_of_le k.val h⟩
instance : Enc Pair where
  c := Pair.c
  sz := 2
  ok := Pair.Ok
  le h k := k.le h
  mono h k := k.mono h
  len _ := rfl
  pos := by decide
  one := fun x u h => by
    simp only [Pair.c, List.mem_cons, List.not_mem_nil, or_false] at h
    rcases h with rfl | rfl <;> rfl
structure Need where
  kind : Int
  name : ByteArray
  vals : Sl ByteArray
deriving Inhabited
def Need.c (x : Need) : List Value := [.int .i64 x.kind, .string x.name, x.vals.v]
def Need.v (x : Need) : Value := .agg (Need.c x).toArray
structure Need.Ok (M : Nat) (H : PH) (x : Need) : Prop where
  name : x.name.size < M
  vals : Sl.Ok M H x.vals
theorem Need.Ok.le {M : Nat} {H H' : PH} {x : Need} (h : Le H H') (k : Need.Ok M H x) : Need.Ok M H' x := ⟨k.name, k.vals.le h⟩
theorem Need.Ok.mono {M M' : Nat} {H : PH} {x : Need} (h : M ≤ M') (k : Need.Ok M H x) : Need.Ok M' H x := ⟨Nat.lt_of_lt_of_le k.name h, k.vals.mono h⟩
instance : Enc Need where
  c := Need.c
  sz := 3
  ok := Need.Ok
  le h k := k.le h
  mono h k := k.mono h
  len _ := rfl
  pos := by decide
  one := fun x u h => by
    simp only [Need.c, List.mem_cons, List.not_mem_nil, or_false] at h
    rcases h with rfl | rfl | rfl <;> rfl
structure Listener where
  name : ByteArray
  port : Int
  tls : Bool
  host : ByteArray
  cert : Ref
  frm : Int
  needs : Sl Need
deriving Inhabited
def Listener.c (x : Listener) : List Value := [.string x.name, .int .i64 x.port, .bool x.tls, .string x.host, .int .i64 x.cert.kind, .string x.cert.space, .string x.cert.name, .int .i64 x.frm, x.needs.v]
def Listener.v (x : Listener) : Value := .agg (Listener.c x).toArray
structure Listener.Ok (M : Nat) (H : PH) (x : Listener) : Prop where
  name : x.name.size < M
  host : x.host.size < M
  cert : Ref.Ok M H x.cert
  needs : Sl.Ok M H x.needs
theorem Listener.Ok.le {M : Nat} {H H' : PH} {x : Listener} (h : Le H H') (k : Listener.Ok M H x) : Listener.Ok M H' x := ⟨k.name, k.host, k.cert.le h, k.needs.le h⟩
theorem Listener.Ok.mono {M M' : Nat} {H : PH} {x : Listener} (h : M ≤ M') (k : Listener.Ok M H x) : Listener.Ok M' H x := ⟨Nat.lt_of_lt_of_le k.name h, Nat.lt_of_lt_of_le k.host h, k.cert.mono h, k.needs.mono h⟩
instance : Enc Listener where
  c := Listener.c
  sz := 9
  ok := Listener.Ok
  le h k := k.le h
  mono h k := k.mono h
  len _ := rfl
  pos := by decide
  one := fun x u h => by
    simp only [Listener.c, List.mem_cons, List.not_mem_nil, or_false] at h
    rcases h with rfl | rfl | rfl | rfl | rfl | rfl | rfl | rfl | rfl <;> rfl
@[ext]
structure Parent where
  space : ByteArray
  name : ByteArray
  sect : ByteArray
  port : Int
deriving Inhabited, DecidableEq
def Parent.c (x : Parent) : List Value := [.string x.space, .string x.name, .string x.sect, .int .i64 x.port]
def Parent.v (x : Parent) : Value := .agg (Parent.c x).toArray
structure Parent.Ok (M : Nat) (H : PH) (x : Parent) : Prop where
  space : x.space.size < M
  name : x.name.size < M
  sect : x.sect.size < M
theorem Parent.Ok.le {M : Nat} {H H' : PH} {x : Parent} (h : Le H H') (k : Parent.Ok M H x) : Parent.Ok M H' x := ⟨k.space, k.name, k.sect⟩
theorem Parent.Ok.mono {M M' : Nat} {H : PH} {x : Parent} (h : M ≤ M') (k : Parent.Ok M H x) : Parent.Ok M' H x := ⟨Nat.lt_of_lt_of_le k.space h, Nat.lt_of_lt_of_le k.name h, Nat.lt_of_lt_of_le k.sect h⟩
instance : Enc Parent where
  c := Parent.c
  sz := 4
  ok := Parent.Ok
  le h k := k.le h
  mono h k := k.mono h
  len _ := rfl
  pos := by decide
  one := fun x u h => by
    simp only [Parent.c, List.mem_cons, List.not_mem_nil, or_false] at h
    rcases h with rfl | rfl | rfl | rfl <;> rfl
@[ext]
structure Path where
  kind : Int
  val : ByteArray
deriving Inhabited, DecidableEq
def Path.c (x : Path) : List Value := [.int .i64 x.kind, .string x.val]
def Path.v (x : Path) : Value := .agg (Path.c x).toArray
structure Path.Ok (M : Nat) (H : PH) (x : Path) : Prop where
  val : x.val.size < M
theorem Path.Ok.le {M : Nat} {H H' : PH} {x : Path} (h : Le H H') (k : Path.Ok M H x) : Path.Ok M H' x := ⟨k.val⟩
theorem Path.Ok.mono {M M' : Nat} {H : PH} {x : Path} (h : M ≤ M') (k : Path.Ok M H x) : Path.Ok M' H x := ⟨Nat.lt_of_lt_of_le k.val h⟩
instance : Enc Path where
  c := Path.c
  sz := 2
  ok := Path.Ok
  le h k := k.le h
  mono h k := k.mono h
  len _ := rfl
  pos := by decide
  one := fun x u h => by
    simp only [Path.c, List.mem_cons, List.not_mem_nil, or_false] at h
    rcases h with rfl | rfl <;> rfl
structure Match where
  path : Path
  method : ByteArray
  head : Sl Pair
  query : Sl Pair
deriving Inhabited
def Match.c (x : Match) : List Value := [.int .i64 x.path.kind, .string x.path.val, .string x.method, x.head.v, x.query.v]
def Match.v (x : Match) : Value := .agg (Match.c x).toArray
structure Match.Ok (M : Nat) (H : PH) (x : Match) : Prop where
  path : Path.Ok M H x.path
  method : x.method.size < M
  head : Sl.Ok M H x.head
  query : Sl.Ok M H x.query
theorem Match.Ok.le {M : Nat} {H H' : PH} {x : Match} (h : Le H H') (k : Match.Ok M H x) : Match.Ok M H' x := ⟨k.path.le h, k.method, k.head.le h, k.query.le h⟩
theorem Match.Ok.mono {M M' : Nat} {H : PH} {x : Match} (h : M ≤ M') (k : Match.Ok M H x) : Match.Ok M' H x := ⟨k.path.mono h, Nat.lt_of_lt_of_le k.method h, k.head.mono h, k.query.mono h⟩
instance : Enc Match where
  c := Match.c
  sz := 5
  ok := Match.Ok
  le h k := k.le h
  mono h k := k.mono h
  len _ := rfl
  pos := by decide
  one := fun x u h => by
    simp only [Match.c, List.mem_cons, List.not_mem_nil, or_false] at h
    rcases h with rfl | rfl | rfl | rfl | rfl <;> rfl
@[ext]
structure Filter where
  kind : Int
  name : ByteArray
  val : ByteArray
  host : ByteArray
  port : Int
  path : ByteArray
  whole : Bool
  code : Int
deriving Inhabited, DecidableEq
def Filter.c (x : Filter) : List Value := [.int .i64 x.kind, .string x.name, .string x.val, .string x.host, .int .i64 x.port, .string x.path, .bool x.whole, .int .i64 x.code]
def Filter.v (x : Filter) : Value := .agg (Filter.c x).toArray
structure Filter.Ok (M : Nat) (H : PH) (x : Filter) : Prop where
  name : x.name.size < M
  val : x.val.size < M
  host : x.host.size < M
  path : x.path.size < M
theorem Filter.Ok.le {M : Nat} {H H' : PH} {x : Filter} (h : Le H H') (k : Filter.Ok M H x) : Filter.Ok M H' x := ⟨k.name, k.val, k.host, k.path⟩
theorem Filter.Ok.mono {M M' : Nat} {H : PH} {x : Filter} (h : M ≤ M') (k : Filter.Ok M H x) : Filter.Ok M' H x := ⟨Nat.lt_of_lt_of_le k.name h, Nat.lt_of_lt_of_le k.val h, Nat.lt_of_lt_of_le k.host h, Nat.lt_of_lt_of_le k.path h⟩
instance : Enc Filter where
  c := Filter.c
  sz := 8
  ok := Filter.Ok
  le h k := k.le h
  mono h k := k.mono h
  len _ := rfl
  pos := by decide
  one := fun x u h => by
    simp only [Filter.c, List.mem_cons, List.not_mem_nil, or_false] at h
    rcases h with rfl | rfl | rfl | rfl | rfl | rfl | rfl | rfl <;> rfl
@[ext]
structure Backend where
  ref : Ref
  port : Int
  weight : Int
deriving Inhabited, DecidableEq
def Backend.c (x : Backend) : List Value := [.int .i64 x.ref.kind, .string x.ref.space, .string x.ref.name, .int .i64 x.port, .int .i64 x.weight]
def Backend.v (x : Backend) : Value := .agg (Backend.c x).toArray
structure Backend.Ok (M : Nat) (H : PH) (x : Backend) : Prop where
  ref : Ref.Ok M H x.ref
theorem Backend.Ok.le {M : Nat} {H H' : PH} {x : Backend} (h : Le H H') (k : Backend.Ok M H x) : Backend.Ok M H' x := ⟨k.ref.le h⟩
theorem Backend.Ok.mono {M M' : Nat} {H : PH} {x : Backend} (h : M ≤ M') (k : Backend.Ok M H x) : Backend.Ok M' H x := ⟨k.ref.mono h⟩
instance : Enc Backend where
  c := Backend.c
  sz := 5
  ok := Backend.Ok
  le h k := k.le h
  mono h k := k.mono h
  len _ := rfl
  pos := by decide
  one := fun x u h => by
    simp only [Backend.c, List.mem_cons, List.not_mem_nil, or_false] at h
    rcases h with rfl | rfl | rfl | rfl | rfl <;> rfl
structure Rule where
  mats : Sl Match
  filters : Sl Filter
  backends : Sl Backend
deriving Inhabited
def Rule.c (x : Rule) : List Value := [x.mats.v, x.filters.v, x.backends.v]
def Rule.v (x : Rule) : Value := .agg (Rule.c x).toArray
structure Rule.Ok (M : Nat) (H : PH) (x : Rule) : Prop where
  mats : Sl.Ok M H x.mats
  filters : Sl.Ok M H x.filters
  backends : Sl.Ok M H x.backends
theorem Rule.Ok.le {M : Nat} {H H' : PH} {x : Rule} (h : Le H H') (k : Rule.Ok M H x) : Rule.Ok M H' x := ⟨k.mats.le h, k.filters.le h, k.backends.le h⟩
theorem Rule.Ok.mono {M M' : Nat} {H : PH} {x : Rule} (h : M ≤ M') (k : Rule.Ok M H x) : Rule.Ok M' H x := ⟨k.mats.mono h, k.filters.mono h, k.backends.mono h⟩
instance : Enc Rule where
  c := Rule.c
  sz := 3
  ok := Rule.Ok
  le h k := k.le h
  mono h k := k.mono h
  len _ := rfl
  pos := by decide
  one := fun x u h => by
    simp only [Rule.c, List.mem_cons, List.not_mem_nil, or_false] at h
    rcases h with rfl | rfl | rfl <;> rfl
@[ext]
structure Side where
  kind : Int
  space : ByteArray
  name : ByteArray
deriving Inhabited, DecidableEq
def Side.c (x : Side) : List Value := [.int .i64 x.kind, .string x.space, .string x.name]
def Side.v (x : Side) : Value := .agg (Side.c x).toArray
structure Side.Ok (M : Nat) (H : PH) (x : Side) : Prop where
  space : x.space.size < M
  name : x.name.size < M
theorem Side.Ok.le {M : Nat} {H H' : PH} {x : Side} (h : Le H H') (k : Side.Ok M H x) : Side.Ok M H' x := ⟨k.space, k.name⟩
theorem Side.Ok.mono {M M' : Nat} {H : PH} {x : Side} (h : M ≤ M') (k : Side.Ok M H x) : Side.Ok M' H x := ⟨Nat.lt_of_lt_of_le k.space h, Nat.lt_of_lt_of_le k.name h⟩
instance : Enc Side where
  c := Side.c
  sz := 3
  ok := Side.Ok
  le h k := k.le h
  mono h k := k.mono h
  len _ := rfl
  pos := by decide
  one := fun x u h => by
    simp only [Side.c, List.mem_cons, List.not_mem_nil, or_false] at h
    rcases h with rfl | rfl | rfl <;> rfl
structure Object where
  ref : Ref
  good : Bool
  labels : Sl Pair
  ports : Sl Int
  cls : ByteArray
  listeners : Sl Listener
  parents : Sl Parent
  hosts : Sl ByteArray
  rules : Sl Rule
  frm : Sl Side
  to : Sl Side
deriving Inhabited
def Object.c (x : Object) : List Value := [.int .i64 x.ref.kind, .string x.ref.space, .string x.ref.name, .bool x.good, x.labels.v, x.ports.v, .string x.cls, x.listeners.v, x.parents.v, x.hosts.v, x.rules.v, x.frm.v, x.to.v]
def Object.v (x : Object) : Value := .agg (Object.c x).toArray
structure Object.Ok (M : Nat) (H : PH) (x : Object) : Prop where
  ref : Ref.Ok M H x.ref
  labels : Sl.Ok M H x.labels
  ports : Sl.Ok M H x.ports
  cls : x.cls.size < M
  listeners : Sl.Ok M H x.listeners
  parents : Sl.Ok M H x.parents
  hosts : Sl.Ok M H x.hosts
  rules : Sl.Ok M H x.rules
  frm : Sl.Ok M H x.frm
  to : Sl.Ok M H x.to
theorem Object.Ok.le {M : Nat} {H H' : PH} {x : Object} (h : Le H H') (k : Object.Ok M H x) : Object.Ok M H' x := ⟨k.ref.le h, k.labels.le h, k.ports.le h, k.cls, k.listeners.le h, k.parents.le h, k.hosts.le h, k.rules.le h, k.frm.le h, k.to.le h⟩
theorem Object.Ok.mono {M M' : Nat} {H : PH} {x : Object} (h : M ≤ M') (k : Object.Ok M H x) : Object.Ok M' H x := ⟨k.ref.mono h, k.labels.mono h, k.ports.mono h, Nat.lt_of_lt_of_le k.cls h, k.listeners.mono h, k.parents.mono h, k.hosts.mono h, k.rules.mono h, k.frm.mono h, k.to.mono h⟩
instance : Enc Object where
  c := Object.c
  sz := 13
  ok := Object.Ok
  le h k := k.le h
  mono h k := k.mono h
  len _ := rfl
  pos := by decide
  one := fun x u h => by
    simp only [Object.c, List.mem_cons, List.not_mem_nil, or_false] at h
    rcases h with rfl | rfl | rfl | rfl | rfl | rfl | rfl | rfl | rfl | rfl | rfl | rfl | rfl <;> rfl
structure Sides11 where
  o : Object
  kind : Int
  to : Ref
  at_ : Int
deriving Inhabited
def Sides11.c (x : Sides11) : List Value := [.int .i64 x.o.ref.kind, .string x.o.ref.space, .string x.o.ref.name, .bool x.o.good, x.o.labels.v, x.o.ports.v, .string x.o.cls, x.o.listeners.v, x.o.parents.v, x.o.hosts.v, x.o.rules.v, x.o.frm.v, x.o.to.v, .int .i64 x.kind, .int .i64 x.to.kind, .string x.to.space, .string x.to.name, .int .u8 x.at_]
def Sides11.v (x : Sides11) : Value := .agg (Sides11.c x).toArray
structure Sides11.Ok (M : Nat) (H : PH) (x : Sides11) : Prop where
  o : Object.Ok M H x.o
  to : Ref.Ok M H x.to
  at__r : 0 ≤ x.at_ ∧ x.at_ < 256
theorem Sides11.Ok.le {M : Nat} {H H' : PH} {x : Sides11} (h : Le H H') (k : Sides11.Ok M H x) : Sides11.Ok M H' x := ⟨k.o.le h, k.to.le h, k.at__r⟩
theorem Sides11.Ok.mono {M M' : Nat} {H : PH} {x : Sides11} (h : M ≤ M') (k : Sides11.Ok M H x) : Sides11.Ok M' H x := ⟨k.o.mono h, k.to.mono h, k.at__r⟩
instance : Enc Sides11 where
  c := Sides11.c
  sz := 18
  ok := Sides11.Ok
  le h k := k.le h
  mono h k := k.mono h
  len _ := rfl
  pos := by decide
  one := fun x u h => by
    simp only [Sides11.c, List.mem_cons, List.not_mem_nil, or_false] at h
    rcases h with rfl | rfl | rfl | rfl | rfl | rfl | rfl | rfl | rfl | rfl | rfl | rfl | rfl | rfl | rfl | rfl | rfl | rfl <;> rfl
structure Ask11 where
  l : Sl Object
  kind : Int
  space : ByteArray
  to : Ref
deriving Inhabited
def Ask11.c (x : Ask11) : List Value := [x.l.v, .int .i64 x.kind, .string x.space, .int .i64 x.to.kind, .string x.to.space, .string x.to.name]
def Ask11.v (x : Ask11) : Value := .agg (Ask11.c x).toArray
structure Ask11.Ok (M : Nat) (H : PH) (x : Ask11) : Prop where
  l : Sl.Ok M H x.l
  space : x.space.size < M
  to : Ref.Ok M H x.to
theorem Ask11.Ok.le {M : Nat} {H H' : PH} {x : Ask11} (h : Le H H') (k : Ask11.Ok M H x) : Ask11.Ok M H' x := ⟨k.l.le h, k.space, k.to.le h⟩
theorem Ask11.Ok.mono {M M' : Nat} {H : PH} {x : Ask11} (h : M ≤ M') (k : Ask11.Ok M H x) : Ask11.Ok M' H x := ⟨k.l.mono h, Nat.lt_of_lt_of_le k.space h, k.to.mono h⟩
instance : Enc Ask11 where
  c := Ask11.c
  sz := 6
  ok := Ask11.Ok
  le h k := k.le h
  mono h k := k.mono h
  len _ := rfl
  pos := by decide
  one := fun x u h => by
    simp only [Ask11.c, List.mem_cons, List.not_mem_nil, or_false] at h
    rcases h with rfl | rfl | rfl | rfl | rfl | rfl <;> rfl
@[ext]
structure Cond where
  part : ByteArray
  typ : ByteArray
  reason : ByteArray
  tru : Bool
  n : Int
  gen : Int
deriving Inhabited, DecidableEq
def Cond.c (x : Cond) : List Value := [.string x.part, .string x.typ, .string x.reason, .bool x.tru, .int .i64 x.n, .int .i64 x.gen]
def Cond.v (x : Cond) : Value := .agg (Cond.c x).toArray
structure Cond.Ok (M : Nat) (H : PH) (x : Cond) : Prop where
  part : x.part.size < M
  typ : x.typ.size < M
  reason : x.reason.size < M
theorem Cond.Ok.le {M : Nat} {H H' : PH} {x : Cond} (h : Le H H') (k : Cond.Ok M H x) : Cond.Ok M H' x := ⟨k.part, k.typ, k.reason⟩
theorem Cond.Ok.mono {M M' : Nat} {H : PH} {x : Cond} (h : M ≤ M') (k : Cond.Ok M H x) : Cond.Ok M' H x := ⟨Nat.lt_of_lt_of_le k.part h, Nat.lt_of_lt_of_le k.typ h, Nat.lt_of_lt_of_le k.reason h⟩
instance : Enc Cond where
  c := Cond.c
  sz := 6
  ok := Cond.Ok
  le h k := k.le h
  mono h k := k.mono h
  len _ := rfl
  pos := by decide
  one := fun x u h => by
    simp only [Cond.c, List.mem_cons, List.not_mem_nil, or_false] at h
    rcases h with rfl | rfl | rfl | rfl | rfl | rfl <;> rfl
structure Stored where
  o : Object
  version : Int
  gen : Int
  born : Int
  conds : Sl Cond
deriving Inhabited
def Stored.c (x : Stored) : List Value := [.int .i64 x.o.ref.kind, .string x.o.ref.space, .string x.o.ref.name, .bool x.o.good, x.o.labels.v, x.o.ports.v, .string x.o.cls, x.o.listeners.v, x.o.parents.v, x.o.hosts.v, x.o.rules.v, x.o.frm.v, x.o.to.v, .int .i64 x.version, .int .i64 x.gen, .int .i64 x.born, x.conds.v]
def Stored.v (x : Stored) : Value := .agg (Stored.c x).toArray
structure Stored.Ok (M : Nat) (H : PH) (x : Stored) : Prop where
  o : Object.Ok M H x.o
  conds : Sl.Ok M H x.conds
theorem Stored.Ok.le {M : Nat} {H H' : PH} {x : Stored} (h : Le H H') (k : Stored.Ok M H x) : Stored.Ok M H' x := ⟨k.o.le h, k.conds.le h⟩
theorem Stored.Ok.mono {M M' : Nat} {H : PH} {x : Stored} (h : M ≤ M') (k : Stored.Ok M H x) : Stored.Ok M' H x := ⟨k.o.mono h, k.conds.mono h⟩
instance : Enc Stored where
  c := Stored.c
  sz := 17
  ok := Stored.Ok
  le h k := k.le h
  mono h k := k.mono h
  len _ := rfl
  pos := by decide
  one := fun x u h => by
    simp only [Stored.c, List.mem_cons, List.not_mem_nil, or_false] at h
    rcases h with rfl | rfl | rfl | rfl | rfl | rfl | rfl | rfl | rfl | rfl | rfl | rfl | rfl | rfl | rfl | rfl | rfl <;> rfl
@[ext]
structure Event where
  version : Int
  ref : Ref
deriving Inhabited, DecidableEq
def Event.c (x : Event) : List Value := [.int .i64 x.version, .int .i64 x.ref.kind, .string x.ref.space, .string x.ref.name]
def Event.v (x : Event) : Value := .agg (Event.c x).toArray
structure Event.Ok (M : Nat) (H : PH) (x : Event) : Prop where
  ref : Ref.Ok M H x.ref
theorem Event.Ok.le {M : Nat} {H H' : PH} {x : Event} (h : Le H H') (k : Event.Ok M H x) : Event.Ok M H' x := ⟨k.ref.le h⟩
theorem Event.Ok.mono {M M' : Nat} {H : PH} {x : Event} (h : M ≤ M') (k : Event.Ok M H x) : Event.Ok M' H x := ⟨k.ref.mono h⟩
instance : Enc Event where
  c := Event.c
  sz := 4
  ok := Event.Ok
  le h k := k.le h
  mono h k := k.mono h
  len _ := rfl
  pos := by decide
  one := fun x u h => by
    simp only [Event.c, List.mem_cons, List.not_mem_nil, or_false] at h
    rcases h with rfl | rfl | rfl | rfl <;> rfl
structure Store where
  version : Int
  floor : Int
  l : Sl Stored
  log : Sl Event
deriving Inhabited
def Store.c (x : Store) : List Value := [.int .i64 x.version, .int .i64 x.floor, x.l.v, x.log.v]
def Store.v (x : Store) : Value := .agg (Store.c x).toArray
structure Store.Ok (M : Nat) (H : PH) (x : Store) : Prop where
  l : Sl.Ok M H x.l
  log : Sl.Ok M H x.log
theorem Store.Ok.le {M : Nat} {H H' : PH} {x : Store} (h : Le H H') (k : Store.Ok M H x) : Store.Ok M H' x := ⟨k.l.le h, k.log.le h⟩
theorem Store.Ok.mono {M M' : Nat} {H : PH} {x : Store} (h : M ≤ M') (k : Store.Ok M H x) : Store.Ok M' H x := ⟨k.l.mono h, k.log.mono h⟩
instance : Enc Store where
  c := Store.c
  sz := 4
  ok := Store.Ok
  le h k := k.le h
  mono h k := k.mono h
  len _ := rfl
  pos := by decide
  one := fun x u h => by
    simp only [Store.c, List.mem_cons, List.not_mem_nil, or_false] at h
    rcases h with rfl | rfl | rfl | rfl <;> rfl
structure Spot where
  gateway : Ref
  listener : ByteArray
  hosts : Sl ByteArray
deriving Inhabited
def Spot.c (x : Spot) : List Value := [.int .i64 x.gateway.kind, .string x.gateway.space, .string x.gateway.name, .string x.listener, x.hosts.v]
def Spot.v (x : Spot) : Value := .agg (Spot.c x).toArray
structure Spot.Ok (M : Nat) (H : PH) (x : Spot) : Prop where
  gateway : Ref.Ok M H x.gateway
  listener : x.listener.size < M
  hosts : Sl.Ok M H x.hosts
theorem Spot.Ok.le {M : Nat} {H H' : PH} {x : Spot} (h : Le H H') (k : Spot.Ok M H x) : Spot.Ok M H' x := ⟨k.gateway.le h, k.listener, k.hosts.le h⟩
theorem Spot.Ok.mono {M M' : Nat} {H : PH} {x : Spot} (h : M ≤ M') (k : Spot.Ok M H x) : Spot.Ok M' H x := ⟨k.gateway.mono h, Nat.lt_of_lt_of_le k.listener h, k.hosts.mono h⟩
instance : Enc Spot where
  c := Spot.c
  sz := 5
  ok := Spot.Ok
  le h k := k.le h
  mono h k := k.mono h
  len _ := rfl
  pos := by decide
  one := fun x u h => by
    simp only [Spot.c, List.mem_cons, List.not_mem_nil, or_false] at h
    rcases h with rfl | rfl | rfl | rfl | rfl <;> rfl
structure Look10 where
  s : Store
  o : Store
  r : Ref
  ver : Int
deriving Inhabited
def Look10.c (x : Look10) : List Value := [.int .i64 x.s.version, .int .i64 x.s.floor, x.s.l.v, x.s.log.v, .int .i64 x.o.version, .int .i64 x.o.floor, x.o.l.v, x.o.log.v, .int .i64 x.r.kind, .string x.r.space, .string x.r.name, .int .i64 x.ver]
def Look10.v (x : Look10) : Value := .agg (Look10.c x).toArray
structure Look10.Ok (M : Nat) (H : PH) (x : Look10) : Prop where
  s : Store.Ok M H x.s
  o : Store.Ok M H x.o
  r : Ref.Ok M H x.r
theorem Look10.Ok.le {M : Nat} {H H' : PH} {x : Look10} (h : Le H H') (k : Look10.Ok M H x) : Look10.Ok M H' x := ⟨k.s.le h, k.o.le h, k.r.le h⟩
theorem Look10.Ok.mono {M M' : Nat} {H : PH} {x : Look10} (h : M ≤ M') (k : Look10.Ok M H x) : Look10.Ok M' H x := ⟨k.s.mono h, k.o.mono h, k.r.mono h⟩
instance : Enc Look10 where
  c := Look10.c
  sz := 12
  ok := Look10.Ok
  le h k := k.le h
  mono h k := k.mono h
  len _ := rfl
  pos := by decide
  one := fun x u h => by
    simp only [Look10.c, List.mem_cons, List.not_mem_nil, or_false] at h
    rcases h with rfl | rfl | rfl | rfl | rfl | rfl | rfl | rfl | rfl | rfl | rfl | rfl <;> rfl
@[ext]
structure Mode where
  port : Int
  tls : Bool
deriving Inhabited, DecidableEq
def Mode.c (x : Mode) : List Value := [.int .i64 x.port, .bool x.tls]
def Mode.v (x : Mode) : Value := .agg (Mode.c x).toArray
instance : Enc Mode where
  c := Mode.c
  sz := 2
  ok := fun _ _ _ => True
  le _ h := h
  mono _ h := h
  len _ := rfl
  pos := by decide
  one := fun x u h => by
    simp only [Mode.c, List.mem_cons, List.not_mem_nil, or_false] at h
    rcases h with rfl | rfl <;> rfl
@[ext]
structure Place where
  mode : Mode
  host : ByteArray
deriving Inhabited, DecidableEq
def Place.c (x : Place) : List Value := [.int .i64 x.mode.port, .bool x.mode.tls, .string x.host]
def Place.v (x : Place) : Value := .agg (Place.c x).toArray
structure Place.Ok (M : Nat) (H : PH) (x : Place) : Prop where
  host : x.host.size < M
theorem Place.Ok.le {M : Nat} {H H' : PH} {x : Place} (h : Le H H') (k : Place.Ok M H x) : Place.Ok M H' x := ⟨k.host⟩
theorem Place.Ok.mono {M M' : Nat} {H : PH} {x : Place} (h : M ≤ M') (k : Place.Ok M H x) : Place.Ok M' H x := ⟨Nat.lt_of_lt_of_le k.host h⟩
instance : Enc Place where
  c := Place.c
  sz := 3
  ok := Place.Ok
  le h k := k.le h
  mono h k := k.mono h
  len _ := rfl
  pos := by decide
  one := fun x u h => by
    simp only [Place.c, List.mem_cons, List.not_mem_nil, or_false] at h
    rcases h with rfl | rfl | rfl <;> rfl
@[ext]
structure Goal where
  ref : Ref
  port : Int
  weight : Int
  bad : Bool
deriving Inhabited, DecidableEq
def Goal.c (x : Goal) : List Value := [.int .i64 x.ref.kind, .string x.ref.space, .string x.ref.name, .int .i64 x.port, .int .i64 x.weight, .bool x.bad]
def Goal.v (x : Goal) : Value := .agg (Goal.c x).toArray
structure Goal.Ok (M : Nat) (H : PH) (x : Goal) : Prop where
  ref : Ref.Ok M H x.ref
theorem Goal.Ok.le {M : Nat} {H H' : PH} {x : Goal} (h : Le H H') (k : Goal.Ok M H x) : Goal.Ok M H' x := ⟨k.ref.le h⟩
theorem Goal.Ok.mono {M M' : Nat} {H : PH} {x : Goal} (h : M ≤ M') (k : Goal.Ok M H x) : Goal.Ok M' H x := ⟨k.ref.mono h⟩
instance : Enc Goal where
  c := Goal.c
  sz := 6
  ok := Goal.Ok
  le h k := k.le h
  mono h k := k.mono h
  len _ := rfl
  pos := by decide
  one := fun x u h => by
    simp only [Goal.c, List.mem_cons, List.not_mem_nil, or_false] at h
    rcases h with rfl | rfl | rfl | rfl | rfl | rfl <;> rfl
structure Thing where
  object : Object
deriving Inhabited
def Thing.c (x : Thing) : List Value := [.int .i64 x.object.ref.kind, .string x.object.ref.space, .string x.object.ref.name, .bool x.object.good, x.object.labels.v, x.object.ports.v, .string x.object.cls, x.object.listeners.v, x.object.parents.v, x.object.hosts.v, x.object.rules.v, x.object.frm.v, x.object.to.v]
def Thing.v (x : Thing) : Value := .agg (Thing.c x).toArray
structure Thing.Ok (M : Nat) (H : PH) (x : Thing) : Prop where
  object : Object.Ok M H x.object
theorem Thing.Ok.le {M : Nat} {H H' : PH} {x : Thing} (h : Le H H') (k : Thing.Ok M H x) : Thing.Ok M H' x := ⟨k.object.le h⟩
theorem Thing.Ok.mono {M M' : Nat} {H : PH} {x : Thing} (h : M ≤ M') (k : Thing.Ok M H x) : Thing.Ok M' H x := ⟨k.object.mono h⟩
instance : Enc Thing where
  c := Thing.c
  sz := 13
  ok := Thing.Ok
  le h k := k.le h
  mono h k := k.mono h
  len _ := rfl
  pos := by decide
  one := fun x u h => by
    simp only [Thing.c, List.mem_cons, List.not_mem_nil, or_false] at h
    rcases h with rfl | rfl | rfl | rfl | rfl | rfl | rfl | rfl | rfl | rfl | rfl | rfl | rfl <;> rfl
structure Among where
  s : ByteArray
  vals : Sl ByteArray
deriving Inhabited
def Among.c (x : Among) : List Value := [.string x.s, x.vals.v]
def Among.v (x : Among) : Value := .agg (Among.c x).toArray
structure Among.Ok (M : Nat) (H : PH) (x : Among) : Prop where
  s : x.s.size < M
  vals : Sl.Ok M H x.vals
theorem Among.Ok.le {M : Nat} {H H' : PH} {x : Among} (h : Le H H') (k : Among.Ok M H x) : Among.Ok M H' x := ⟨k.s, k.vals.le h⟩
theorem Among.Ok.mono {M M' : Nat} {H : PH} {x : Among} (h : M ≤ M') (k : Among.Ok M H x) : Among.Ok M' H x := ⟨Nat.lt_of_lt_of_le k.s h, k.vals.mono h⟩
instance : Enc Among where
  c := Among.c
  sz := 2
  ok := Among.Ok
  le h k := k.le h
  mono h k := k.mono h
  len _ := rfl
  pos := by decide
  one := fun x u h => by
    simp only [Among.c, List.mem_cons, List.not_mem_nil, or_false] at h
    rcases h with rfl | rfl <;> rfl
structure Outside where
  among : Among
deriving Inhabited
def Outside.c (x : Outside) : List Value := [.string x.among.s, x.among.vals.v]
def Outside.v (x : Outside) : Value := .agg (Outside.c x).toArray
structure Outside.Ok (M : Nat) (H : PH) (x : Outside) : Prop where
  among : Among.Ok M H x.among
theorem Outside.Ok.le {M : Nat} {H H' : PH} {x : Outside} (h : Le H H') (k : Outside.Ok M H x) : Outside.Ok M H' x := ⟨k.among.le h⟩
theorem Outside.Ok.mono {M M' : Nat} {H : PH} {x : Outside} (h : M ≤ M') (k : Outside.Ok M H x) : Outside.Ok M' H x := ⟨k.among.mono h⟩
instance : Enc Outside where
  c := Outside.c
  sz := 2
  ok := Outside.Ok
  le h k := k.le h
  mono h k := k.mono h
  len _ := rfl
  pos := by decide
  one := fun x u h => by
    simp only [Outside.c, List.mem_cons, List.not_mem_nil, or_false] at h
    rcases h with rfl | rfl <;> rfl
@[ext]
structure Missing where
  there : ByteArray
deriving Inhabited, DecidableEq
def Missing.c (x : Missing) : List Value := [.string x.there]
def Missing.v (x : Missing) : Value := .agg (Missing.c x).toArray
structure Missing.Ok (M : Nat) (H : PH) (x : Missing) : Prop where
  there : x.there.size < M
theorem Missing.Ok.le {M : Nat} {H H' : PH} {x : Missing} (h : Le H H') (k : Missing.Ok M H x) : Missing.Ok M H' x := ⟨k.there⟩
theorem Missing.Ok.mono {M M' : Nat} {H : PH} {x : Missing} (h : M ≤ M') (k : Missing.Ok M H x) : Missing.Ok M' H x := ⟨Nat.lt_of_lt_of_le k.there h⟩
instance : Enc Missing where
  c := Missing.c
  sz := 1
  ok := Missing.Ok
  le h k := k.le h
  mono h k := k.mono h
  len _ := rfl
  pos := by decide
  one := fun x u h => by
    simp only [Missing.c, List.mem_cons, List.not_mem_nil, or_false] at h
    rcases h with rfl <;> rfl
/-- What an interface of package label holds. -/
inductive Asker where
  | nil
  | among (x : Among)
  | outside (x : Outside)
  | there (s : ByteArray)
  | missing (x : Missing)
deriving Inhabited
def Asker.v : Asker → Value
  | .nil => .nilIface
  | .among x => .iface 273 (Among.v x)
  | .outside x => .iface 275 (Outside.v x)
  | .there s => .iface 276 (.string s)
  | .missing x => .iface 278 (Missing.v x)
def Asker.Ok (M : Nat) (H : PH) : Asker → Prop
  | .nil => True
  | .among x => Among.Ok M H x
  | .outside x => Outside.Ok M H x
  | .there s => s.size < M
  | .missing x => Missing.Ok M H x
theorem Asker.Ok.nil {M : Nat} {H : PH} : Asker.Ok M H .nil := trivial
theorem Asker.Ok.le {M : Nat} {H H' : PH} {x : Asker} (h : Le H H') (k : Asker.Ok M H x) : Asker.Ok M H' x := by
  cases x with
  | nil => trivial
  | among x => exact Among.Ok.le h k
  | outside x => exact Outside.Ok.le h k
  | there s => exact k
  | missing x => exact Missing.Ok.le h k
def Asker.isNil : Asker → Bool
  | .nil => true
  | _ => false
section
variable {P : Program} {N : Nat} {env : Env} {W : World} {d : Tmp} {ty t t2 : TypeId} {pos : String} {aft : Array Edge} {g : Option (Nat × Bool)} {x y : Operand}
theorem Pu.mkif {u v : Value} {dd : TypeDesc} (hx : ev env x = some u) (h : v = .iface t u) (ht : P.underlying t = some dd) (hn : (match dd with | .interface _ => false | _ => true) = true) : Pu P ⟨some d, .makeInterface t x, ty, pos, aft, g⟩ N env W v := fun a ha => by
  subst h
  cases dd <;> simp_all [execOp, ha.eval hx, Instr.makeInterface, run_underlying ht]
theorem Pu.ifnil {ms} {z : Asker} (hx : ev env x = some z.v) (hy : y = .const .nilIface) (ht : P.underlying t = some (.interface ms)) : Pu P ⟨some d, .binOp .eql t x y t2, ty, pos, aft, g⟩ N env W (.bool z.isNil) := fun a ha => by
  subst hy
  have he : (Op.equal t z.v .nilIface).run P W = .ok z.isNil W := by
    have h1 : ∀ n, (Op.equalIn (n + 1) t z.v .nilIface).run P W = .ok z.isNil W := fun n => by
      cases z <;> simp [Op.equalIn, run_underlying ht, Asker.v, Asker.isNil]
    exact h1 9999
  have hg : (eqGuard .eql t x (.const .nilIface) z.v .nilIface).run P W = .ok () W := by
    cases z <;> simp [eqGuard, Asker.v]
  have hb : binOp .eql t z.v .nilIface = (do pure (.bool (← Op.equal t z.v .nilIface))) := by cases z <;> rfl
  have hy : a.eval (.const .nilIface) = .nilIface := rfl
  simp only [execOp, ha.eval hx, hy, Sem.run_bind, hg, Result.andThen_ok, hb, he]
  rfl
end

end Go.Proofs.TB
