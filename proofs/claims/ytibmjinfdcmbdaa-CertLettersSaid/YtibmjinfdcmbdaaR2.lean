/- R2: what an operation gives on the abstract side. -/
import Derived.Test.YtibmjinfdcmbdaaR1
namespace Go.Proofs.Ytibmjinfdcmbdaa.R

structure TI where
  desc : TypeDesc
  size : Nat
  bytes : Nat
  zero : Value

/-- What the abstract side knows of a type. -/
def TT (P : Program) (t : TypeId) : Option TI :=
  match P.underlying t, P.info? t with
  | some d, some i => match i.zero with
    | some z => if z.cells.size = i.size then some ⟨d, i.size, i.bytes, z⟩ else none
    | none => none
  | _, _ => none

def TI.isAgg (i : TI) : Bool := match i.desc with | .struct _ | .array _ _ => true | _ => false

/-- A constant's cell. -/
def ofLeaf (v : Value) : AV :=
  match v with
  | .slice none 0 0 => .fsl []
  | .func (.func f) ⟨[]⟩ ⟨[]⟩ => .fn (.func f) [] []
  | v => if plainV v then .t (.v v) else .any
def ofConst (v : Value) : AV :=
  match v with
  | .agg cs => .agg (cs.toList.map ofLeaf)
  | .tuple ⟨[]⟩ => .tup []
  | v => ofLeaf v

/-- A slot of the abstract frame. -/
abbrev Slots := Nat → AV
def put (s : Slots) (d : Option Nat) (v : AV) : Slots :=
  match d with
  | some d => fun i => if i = d then v else s i
  | none => s

def ev (s : Slots) : Operand → AV
  | .tmp t => s t
  | .const v => ofConst v
  | .global _ => .any
  | .func f => .fn (.func f) [] []

/-- The cells of a value. -/
def cellsOf : AV → Option (List AV)
  | .agg cs => some cs
  | .any | .tup _ => none
  | x => some [x]
/-- A value of one cell. -/
def leaf : AV → Bool
  | .agg _ | .any | .tup _ => false
  | _ => true

def toT : AV → Option T
  | .t x => some x
  | .fsl es => some (.sl es)
  | .fn (.func f) [] [] => some (.v (.func (.func f) #[] #[]))
  | _ => none
def toTs : List AV → Option (List T)
  | [] => some []
  | a :: as => match toT a, toTs as with
    | some x, some xs => some (x :: xs)
    | _, _ => none

def setCells {α : Type} (cs : List α) (off : Nat) : List α → List α
  | [] => cs
  | x :: xs => setCells (cs.set off x) (off + 1) xs

/-- A part of cells, as a value. -/
def partA (i : TI) (cs : List AV) (off : Nat) : Option AV :=
  if i.isAgg then (if off + i.size ≤ cs.length then some (.agg ((cs.drop off).take i.size)) else none)
  else cs[off]?

def partT (i : TI) (cs : List T) (off : Nat) : Option AV :=
  if i.isAgg then (if off + i.size ≤ cs.length then some (.agg (((cs.drop off).take i.size).map .t)) else none)
  else (cs[off]?).map .t

def band (k : IntKind) (a b : Int) : Int := k.wrap (BitVec.ofInt k.bits a &&& BitVec.ofInt k.bits b).toNat
def bor (k : IntKind) (a b : Int) : Int := k.wrap (BitVec.ofInt k.bits a ||| BitVec.ofInt k.bits b).toNat
def bxor (k : IntKind) (a b : Int) : Int := k.wrap (BitVec.ofInt k.bits a ^^^ BitVec.ofInt k.bits b).toNat
def bandn (k : IntKind) (a b : Int) : Int := k.wrap (BitVec.ofInt k.bits a &&& ~~~ BitVec.ofInt k.bits b).toNat
/-- Whole numbers, bools, strings. -/
def binV (op : BinOp) (x y : Value) : Option Value :=
  match x, y with
  | .int k a, .int k' b =>
    match op with
    | .shl => if b < 0 then none else some (.int k (k.wrap (a * 2 ^ (min b.toNat k.bits))))
    | .shr => if b < 0 then none else some (.int k (a.fdiv (2 ^ (min b.toNat k.bits))))
    | _ => if k ≠ k' then none else
      match op with
      | .add => some (.int k (k.wrap (a + b)))
      | .sub => some (.int k (k.wrap (a - b)))
      | .mul => some (.int k (k.wrap (a * b)))
      | .quo => if b = 0 then none else some (.int k (k.wrap (a.tdiv b)))
      | .rem => if b = 0 then none else some (.int k (a.tmod b))
      | .and => some (.int k (band k a b))
      | .or => some (.int k (bor k a b))
      | .xor => some (.int k (bxor k a b))
      | .andNot => some (.int k (bandn k a b))
      | .eql => some (.bool (a == b))
      | .neq => some (.bool (a != b))
      | .lss => some (.bool (decide (a < b)))
      | .leq => some (.bool (decide (a ≤ b)))
      | .gtr => some (.bool (decide (a > b)))
      | .geq => some (.bool (decide (a ≥ b)))
      | _ => none
  | .bool a, .bool b =>
    match op with
    | .eql => some (.bool (a == b))
    | .neq => some (.bool (!(a == b)))
    | _ => none
  | .string a, .string b =>
    match op with
    | .eql => some (.bool (a.toList == b.toList))
    | .neq => some (.bool (!(a.toList == b.toList)))
    | _ => none
  | _, _ => none

def unV (op : UnOp) (x : Value) : Option Value :=
  match op, x with
  | .neg, .int k n => some (.int k (k.wrap (0 - n)))
  | .not, .bool b => some (.bool !b)
  | _, _ => none

def pickA (b : Bool) (x y : AV) : AV :=
  match x, y with
  | .t (.v (.bool p)), .t (.v (.bool q)) => .t (.v (.bool (if b then p else q)))
  | x, y => if b then x else y


/-- A whole number that is an index of a list of so many. -/
def idx (n : Int) (len : Nat) : Option Nat := if 0 ≤ n ∧ n < len then some n.toNat else none

def asInt : AV → Option Int
  | .t (.v (.int _ n)) => some n
  | _ => none

/-- An element's address in a slice that isn't written. -/
def elemRd (es : List (List T)) (sz : Nat) (n : Int) : Option AV :=
  match idx n es.length with
  | some j => match es[j]? with
    | some e => if e.length = sz then some (.rd e) else none
    | none => none
  | none => none

def bound (x : Option AV) (dflt : Nat) (most : Nat) : Option Nat :=
  match x with
  | none => some dflt
  | some a => match asInt a with
    | some n => if 0 ≤ n ∧ n ≤ most then some n.toNat else none
    | none => none

/-- A cut of a slice that isn't written: 'full': capacity is length. -/
def cutT (full : Bool) (es : List (List T)) (lo hi mx : Option AV) : Option AV :=
  match mx with
  | some m => match bound (some m) 0 es.length, hi with
    | some m, some h => match bound (some h) 0 m with
      | some h => match bound lo 0 h with
        | some l => if h = m then some (.fsl ((es.take h).drop l)) else some (.t (.sl ((es.take h).drop l)))
        | none => none
      | none => none
    | _, _ => none
  | none => match hi with
    | some h => match bound (some h) 0 es.length with
      | some h => match bound lo 0 h with
        | some l => some (.t (.sl ((es.take h).drop l)))
        | none => none
      | none => none
    | none => match bound lo 0 es.length with
      | some l => if full then some (.fsl (es.drop l)) else some (.t (.sl (es.drop l)))
      | none => none

def placesA (P : Program) : List Field → Option (List (Nat × Nat))
  | [] => some []
  | f :: r => match TT P f.type, placesA P r with
    | some i, some l => some ((f.offset, i.size) :: l)
    | _, _ => none

def fillA (place : Nat → Option (Nat × Nat)) (cs : List AV) : List (Nat × AV) → Option (List AV)
  | [] => some cs
  | (i, a) :: r => match place i with
    | some (off, size) => match cellsOf a with
      | some c => if c.length = size ∧ off + size ≤ cs.length then fillA place (setCells cs off c) r else none
      | none => none
    | none => none

def fillT (sz : Nat) (es : List (List T)) : List (Nat × AV) → Option (List (List T))
  | [] => some es
  | (i, a) :: r => match (cellsOf a).bind toTs with
    | some c => if c.length = sz ∧ i < es.length then fillT sz (es.set i c) r else none
    | none => none

def zeroA (i : TI) : List AV := i.zero.cells.toList.map ofLeaf

def minI (f : Int → Int → Bool) (k : IntKind) (x : Int) : List AV → Option Int
  | [] => some x
  | .t (.v (.int _ y)) :: r => minI f k (if f y x then y else x) r
  | _ => none

def bytesT (s : ByteArray) : List (List T) := s.data.toList.map fun b => [.v (.int .u8 b.toNat)]

/-- Bytes out of elements. -/
def unbytes : List (List T) → Option (List UInt8)
  | [] => some []
  | [.v (.int .u8 n)] :: r => (unbytes r).map fun l => UInt8.ofNat n.toNat :: l
  | _ => none

/-- What is known of a computation that looks at no memory. -/
def pureSem {α : Type} (P : Program) : Sem α → Option α
  | .pure a => some a
  | .program k => pureSem P (k P)
  | .mark _ k => pureSem P k
  | _ => none

/-- Builtins that look at no object. -/
def evalB (P : Program) (ρ : Operand → AV) (f : Callee) (args : List Operand) (tys : List TypeId) : Option AV :=
  match f with
  | .builtin .len => match args, tys with
    | [x], [t] => match TT P t, ρ x with
      | some ⟨.string, _, _, _⟩, .t (.v (.string s)) => some (.t (.v (.int .i64 s.size)))
      | some ⟨.slice _, _, _, _⟩, .t (.sl es) => some (.t (.v (.int .i64 es.length)))
      | some ⟨.slice _, _, _, _⟩, .fsl es => some (.t (.v (.int .i64 es.length)))
      | some ⟨.array n _, _, _, _⟩, _ => some (.t (.v (.int .i64 n)))
      | _, _ => none
    | _, _ => none
  | .builtin .max => match args.map ρ with
    | .t (.v (.int k n)) :: r => (minI (fun y x => decide (y > x)) k n r).map fun m => .t (.v (.int k m))
    | _ => none
  | .builtin .min => match args.map ρ with
    | .t (.v (.int k n)) :: r => (minI (fun y x => decide (y < x)) k n r).map fun m => .t (.v (.int k m))
    | _ => none
  | _ => none

/-- Operations that look at no object: what is written into the slot. -/
def evalP (P : Program) (ρ : Operand → AV) : Op → Option AV
  | .move x | .assign x => some (ρ x)
  | .pick c a b => match ρ c with
    | .t (.v (.bool c)) => some (pickA c (ρ a) (ρ b))
    | _ => none
  | .nilCheck x => match ρ x with
    | .ptr b o => some (.ptr b o)
    | .rd cs => some (.rd cs)
    | .el q o => some (.el q o)
    | .fn (.func f) a b => some (.fn (.func f) a b)
    | _ => none
  | .binOp op t x y _ => match ρ x, ρ y with
    | .t (.v (.bool a)), .t (.v (.bool b)) => match TT P t with
      | some ⟨.bool, _, _, _⟩ => (binV op (.bool a) (.bool b)).map fun v => .t (.v v)
      | _ => none
    | .t (.v (.int k a)), .t (.v (.int k' b)) => (binV op (.int k a) (.int k' b)).map fun v => .t (.v v)
    | .t (.v (.string a)), .t (.v (.string b)) => (binV op (.string a) (.string b)).map fun v => .t (.v v)
    | _, _ => none
  | .unOp op _ x => match ρ x with
    | .t (.v a) => (unV op a).map fun v => .t (.v v)
    | _ => none
  | .convert s d x => match TT P s, TT P d, ρ x with
    | some _, some ⟨.int k, _, _, _⟩, .t (.v (.int _ n)) => some (.t (.v (.int k (k.wrap n))))
    | some ⟨.slice e, _, _, _⟩, some ⟨.string, _, _, _⟩, .t (.sl es) => match TT P e with
      | some ⟨.int .u8, _, _, _⟩ => (unbytes es).map fun l => .t (.v (.string ⟨l.toArray⟩))
      | _ => none
    | some ⟨.slice e, _, _, _⟩, some ⟨.string, _, _, _⟩, .fsl es => match TT P e with
      | some ⟨.int .u8, _, _, _⟩ => (unbytes es).map fun l => .t (.v (.string ⟨l.toArray⟩))
      | _ => none
    | some ⟨.string, _, _, _⟩, some ⟨.slice e, _, _, _⟩, .t (.v (.string s)) => match TT P e with
      | some ⟨.int .u8, _, _, _⟩ => some (.t (.sl (bytesT s)))
      | _ => none
    | _, _, _ => none
  | .makeFunc fn first caps => some (.fn fn (first.toList.map ρ) (caps.toList.map ρ))
  | .fieldAddr s x f => match TT P s with
    | some ⟨.struct fs, _, _, _⟩ => match fs[f]? with
      | some f => match TT P f.type with
        | some i => if i.size = 0 then none else match ρ x with
          | .ptr b o => some (.ptr b (o + f.offset))
          | .rd cs => some (.rd (cs.drop f.offset))
          | .el q o => some (.el q (o + f.offset))
          | _ => none
        | none => none
      | none => none
    | _ => none
  | .field s x f => match TT P s, ρ x with
    | some ⟨.struct fs, _, _, _⟩, .agg cs => match fs[f]? with
      | some f => match TT P f.type with
        | some i => partA i cs f.offset
        | none => none
      | none => none
    | _, _ => none
  | .extract x i => match ρ x with
    | .tup cs => cs[i]?
    | _ => none
  | .indexAddr t x ix => match TT P t, asInt (ρ ix) with
    | some ⟨.slice e, _, _, _⟩, some n => match TT P e, ρ x with
      | some i, .t (.sl es) => elemRd es i.size n
      | some i, .fsl es => elemRd es i.size n
      | _, _ => none
    | some ⟨.array len e, _, _, _⟩, some n => match TT P e, idx n len, ρ x with
      | some i, some j, .ptr b o => some (.ptr b (o + j * i.size))
      | some i, some j, .rd cs => some (.rd (cs.drop (j * i.size)))
      | _, _, _ => none
    | _, _ => none
  | .index t x ix => match TT P t, asInt (ρ ix), ρ x with
    | some ⟨.array len e, _, _, _⟩, some n, .agg cs => match TT P e, idx n len with
      | some i, some j => partA i cs (j * i.size)
      | _, _ => none
    | some ⟨.string, _, _, _⟩, some n, .t (.v (.string s)) => match idx n s.size with
      | some j => match s[j]? with
        | some b => some (.t (.v (.int .u8 b.toNat)))
        | none => none
      | none => none
    | _, _, _ => none
  | .slice t x lo hi mx => match TT P t, ρ x with
    | some ⟨.slice e, _, _, _⟩, .t (.sl es) => match TT P e with
      | some j => if ∀ x ∈ es, x.length = j.size then cutT false es (lo.map ρ) (hi.map ρ) (mx.map ρ) else none
      | none => none
    | some ⟨.slice e, _, _, _⟩, .fsl es => match TT P e with
      | some j => if ∀ x ∈ es, x.length = j.size then cutT true es (lo.map ρ) (hi.map ρ) (mx.map ρ) else none
      | none => none
    | some ⟨.string, _, _, _⟩, .t (.v (.string s)) => if mx.isSome then none else
      match bound (hi.map ρ) s.size s.size with
      | some h => match bound (lo.map ρ) 0 h with
        | some l => some (.t (.v (.string (s.extract l h))))
        | none => none
      | none => none
    | _, _ => none
  | .build t parts => match TT P t with
    | some ⟨.struct fs, sz, by_, z⟩ => match placesA P fs.toList with
      | some l => (fillA (l[·]?) (zeroA ⟨.struct fs, sz, by_, z⟩) (parts.toList.map fun p => (p.1, ρ p.2))).map .agg
      | none => none
    | some ⟨.array n e, sz, by_, z⟩ => match TT P e with
      | some i => (fillA (fun j => some (j * i.size, i.size)) (zeroA ⟨.array n e, sz, by_, z⟩) (parts.toList.map fun p => (p.1, ρ p.2))).map .agg
      | none => none
    | _ => none
  | .buildSlice t len parts => match TT P t with
    | some ⟨.slice e, _, _, _⟩ => match TT P e with
      | some i => if len * i.size > 2 ^ 24 then none else match toTs (zeroA i) with
        | some z => (fillT i.size (List.replicate len z) (parts.toList.map fun p => (p.1, ρ p.2))).map .fsl
        | none => none
      | none => none
    | _ => none
  | .call c => evalB P ρ c.callee c.args.toList c.argTypes.toList
  | _ => none

/-- What an operation does to the store. -/
inductive Eff where
  | none
  /-- a new object -/
  | new (o : AObj)
  /-- an object turns -/
  | set (i : Nat) (o : AObj)
  /-- an object ends, a new one begins in its place -/
  | next (i : Nat) (o : AObj)

structure St where
  m : Slots
  σ : Nat → AObj
  nx : Nat

/-- One object turns. -/
def oput (σ : Nat → AObj) (j : Nat) (o : AObj) : Nat → AObj := fun i => if i = j then o else σ i

def Eff.on (e : Eff) (σ : Nat → AObj) (nx : Nat) : (Nat → AObj) × Nat :=
  match e with
  | .none => (σ, nx)
  | .new o => (oput σ nx o, nx + 1)
  | .set j o => (oput σ j o, nx)
  | .next j o => (oput (oput σ j .dead) nx o, nx + 1)

def St.upd (s : St) (d : Option Nat) (v : AV) (e : Eff) : St := ⟨put s.m d v, (e.on s.σ s.nx).1, (e.on s.σ s.nx).2⟩

def slicesT (σ : Nat → AObj) : AV → Option (List (List T))
  | .t (.sl es) => some es
  | .fsl es => some es
  | .ref q => match σ q with
    | .arr _ es => some es
    | _ => none
  | _ => none

/-- How many elements a slice may have here. -/
def mostLen : Nat := 4294967296

/-- append: of what. -/
def srcA (σ : Nat → AObj) (d : TypeDesc) (a : AV) : Option (List (List T)) :=
  match d with
  | .slice _ => slicesT σ a
  | .string => match a with
    | .t (.v (.string s)) => some (bytesT s)
    | _ => none
  | _ => none

/-- append: onto what. -/
def appA (σ : Nat → AObj) (nx sz : Nat) (ys : List (List T)) (s : AV) : Option (AV × Eff) :=
  match s with
  | .fsl es => if (es = [] ∨ ys ≠ []) ∧ es.length + ys.length ≤ mostLen ∧ (∀ y ∈ es, y.length = sz) ∧ (∀ y ∈ ys, y.length = sz) then some (.ref nx, .new (.arr sz (es ++ ys))) else none
  | .ref q => match σ q with
    | .arr sz' es => if sz' = sz ∧ es.length + ys.length ≤ mostLen ∧ (∀ y ∈ ys, y.length = sz) then some (.ref nx, .next q (.arr sz' (es ++ ys))) else none
    | _ => none
  | _ => none

/-- Builtins that look at an object, or make one. -/
def evalC (P : Program) (σ : Nat → AObj) (nx : Nat) (ρ : Operand → AV) (f : Callee) (args : List Operand) (tys : List TypeId) : Option (AV × Eff) :=
  match f with
  | .builtin .len => match args, tys with
    | [x], [t] => match TT P t, ρ x with
      | some ⟨.slice _, _, _, _⟩, .ref q => match σ q with
        | .arr _ es => some (.t (.v (.int .i64 es.length)), .none)
        | _ => none
      | _, _ => none
    | _, _ => none
  | .builtin .append => match args, tys with
    | [s, x], [t, t'] => match TT P t, TT P t' with
      | some ⟨.slice e, _, _, _⟩, some ⟨d, _, _, _⟩ => match TT P e, srcA σ d (ρ x) with
        | some i, some ys => if i.bytes ≤ 1024 ∧ 0 < i.size then appA σ nx i.size ys (ρ s) else none
        | _, _ => none
      | _, _ => none
    | _, _ => none
  | _ => none

/-- Operations that look at an object, or make one: the value, what turns. -/
def evalS (P : Program) (σ : Nat → AObj) (nx : Nat) (ρ : Operand → AV) : Op → Option (AV × Eff)
  | .alloc t => match TT P t with
    | some i => some (.ptr nx 0, .new (.box (zeroA i)))
    | none => none
  | .box _ x => match cellsOf (ρ x) with
    | some cs => some (.ptr nx 0, .new (.box cs))
    | none => none
  | .load t a => match TT P t, ρ a with
    | some i, .ptr b o => match σ b with
      | .box cs => (partA i cs o).map fun v => (v, .none)
      | _ => none
    | some i, .rd cs => (partT i cs 0).map fun v => (v, .none)
    | some i, .el q o => match σ q with
      | .arr sz es => match es[o / sz]? with
        | some e => if o % sz + i.size ≤ e.length then (partT i e (o % sz)).map fun v => (v, .none) else none
        | none => none
      | _ => none
    | _, _ => none
  | .store t a x => match TT P t, ρ a with
    | some i, .ptr b o => match σ b with
      | .box cs => match cellsOf (ρ x) with
        | some c => if c.length = i.size ∧ c.all leaf ∧ o + i.size ≤ cs.length then some (.tup [], .set b (.box (setCells cs o c))) else none
        | none => none
      | _ => none
    | some i, .el q o => match σ q, (cellsOf (ρ x)).bind toTs with
      | .arr sz es, some c => match es[o / sz]? with
        | some e => if c.length = i.size ∧ o % sz + i.size ≤ e.length then some (.tup [], .set q (.arr sz (es.set (o / sz) (setCells e (o % sz) c)))) else none
        | none => none
      | _, _ => none
    | _, _ => none
  | .indexAddr t x ix => match TT P t, asInt (ρ ix), ρ x with
    | some ⟨.slice e, _, _, _⟩, some n, .ref q => match TT P e, σ q with
      | some i, .arr sz es => if i.size = sz then (idx n es.length).map fun j => (.el q (j * sz), .none) else none
      | _, _ => none
    | _, _, _ => none
  | .range t x => match TT P t, ρ x with
    | some ⟨.string, _, _, _⟩, .t (.v (.string s)) => some (.ptr nx 0, .new (.iter s 0))
    | _, _ => none
  | .next x true => match ρ x with
    | .ptr b 0 => match σ b with
      | .iter s k => if k < s.size then some (.tup [.t (.v (.bool true)), .t (.v (.int .i64 k)), .t (.v (.int .i32 (Utf8.decode s k).1))], .set b (.iter s (k + (Utf8.decode s k).2))) else some (.tup [.t (.v (.bool false))], .none)
      | _ => none
    | _ => none
  | .makeMap _ none => some (.mapr nx, .new (.map []))
  | .makeSlice t l c => match TT P t, asInt (ρ l), asInt (ρ c) with
    | some ⟨.slice e, _, _, _⟩, some n, some m => match TT P e with
      | some i => match toTs (zeroA i) with
        | some z => if 0 ≤ n ∧ n = m ∧ n ≤ mostLen ∧ i.bytes ≤ 1024 then some (.ref nx, .new (.arr i.size (List.replicate n.toNat z))) else none
        | none => none
      | none => none
    | _, _, _ => none
  | .call c => evalC P σ nx ρ c.callee c.args.toList c.argTypes.toList
  | _ => none

end Go.Proofs.Ytibmjinfdcmbdaa.R
