/- D, part 1: a deterministic evaluator of the model's code on named heaps: its definitions. Nothing is proved here. -/
import Derived.Calls
import Derived.Orders
namespace Go.D
open Go

/-! ### Tries -/
inductive Tr (α : Type) where
  | tip
  | n (v : Option α) (l r : Tr α)
namespace Tr
variable {α : Type}
def get : Tr α → Nat → Option α
  | .tip, _ => none
  | .n v l r, i => if i = 0 then v else if i % 2 = 1 then l.get (i / 2) else r.get (i / 2 - 1)
def one : Nat → Nat → Option α → Tr α
  | 0, _, _ => .tip
  | f + 1, i, v => if i = 0 then .n v .tip .tip else if i % 2 = 1 then .n none (one f (i / 2) v) .tip else .n none .tip (one f (i / 2 - 1) v)
def put : Tr α → Nat → Option α → Tr α
  | .tip, i, v => one (i + 1) i v
  | .n x l r, i, v => if i = 0 then .n v l r else if i % 2 = 1 then .n x (l.put (i / 2) v) r else .n x l (r.put (i / 2 - 1) v)
end Tr

/-! ### Values whose addresses are names -/
inductive SV where
  | bool (b : Bool)
  | int (k : IntKind) (n : Int)
  | flt (k : FloatKind) (bits : Nat)
  | str (s : List UInt8)
  | nilp
  | ptr (nm off : Nat)
  | nils
  | slc (nm off len es : Nat) (cp : Option Nat)
  | nilm
  | nilf
  | fn (f : Fn) (first cap : List SV)
  | yld (nm : Nat)
  | nili
  | ifc (t : TypeId) (v : SV)
  | agg (cs : List SV)
  | tup (vs : List SV)
  deriving Inhabited

def und : SV := .tup []

/-- The cells of a value. -/
def SV.cells : SV → List SV
  | .agg cs => cs
  | v => [v]
/-- A value of one cell. -/
def SV.one : SV → Bool
  | .agg _ | .tup _ => false
  | _ => true

/-- A row of cells (there may be more cells behind it in its block). -/
abbrev Chunk := List SV

structure Heap where
  mem : Tr Chunk
  next : Nat

def Heap.get (h : Heap) (nm : Nat) : Option Chunk := h.mem.get nm
def Heap.put (h : Heap) (nm : Nat) (c : Chunk) : Heap := ⟨h.mem.put nm (some c), h.next⟩
def Heap.new (h : Heap) (c : Chunk) : Heap := ⟨h.mem.put h.next (some c), h.next + 1⟩
def Heap.drop (h : Heap) (nm : Nat) : Heap := ⟨h.mem.put nm none, h.next⟩

abbrev Env := Tr SV
def Env.at (e : Env) (t : Nat) : SV := (Tr.get e t).getD und
def Env.set (e : Env) (d : Option Nat) (v : SV) : Env := match d with | some d => Tr.put e d (some v) | none => e

mutual
def ofV : Value → Option SV
  | .bool b => some (.bool b)
  | .int k n => some (.int k n)
  | .float k b => some (.flt k b)
  | .string ⟨⟨s⟩⟩ => some (.str s)
  | .pointer none => some .nilp
  | .slice none 0 0 => some .nils
  | .map none => some .nilm
  | .nilFunc => some .nilf
  | .nilIface => some .nili
  | .iface t v => match ofV v with | some v => some (.ifc t v) | none => none
  | .func f ⟨a⟩ ⟨b⟩ => match ofVs a, ofVs b with | some a, some b => some (.fn f a b) | _, _ => none
  | .agg ⟨cs⟩ => match ofVs cs with | some cs => some (.agg cs) | none => none
  | .tuple ⟨cs⟩ => match ofVs cs with | some cs => some (.tup cs) | none => none
  | _ => none
def ofVs : List Value → Option (List SV)
  | [] => some []
  | v :: vs => match ofV v, ofVs vs with | some v, some vs => some (v :: vs) | _, _ => none
end

def ev (e : Env) : Operand → Option SV
  | .tmp t => some (e.at t)
  | .const v => ofV v
  | .func f => some (.fn (.func f) [] [])
  | .global _ => none

def evs (e : Env) : List Operand → Option (List SV)
  | [] => some []
  | x :: xs => match ev e x, evs e xs with | some v, some vs => some (v :: vs) | _, _ => none

/-! ### Types -/
section
variable (P : Program)
def tsize (t : TypeId) : Option Nat := (P.info? t).map (·.size)
def tagg (t : TypeId) : Option Bool := (P.underlying t).map fun | .struct _ | .array _ _ => true | _ => false
def tzero (t : TypeId) : Option SV := match (P.info? t).bind (·.zero) with | some v => ofV v | none => none
/-- The element type of a slice type. -/
def telem (t : TypeId) : Option TypeId := match P.underlying t with | some (.slice e) => some e | _ => none
def tarr (t : TypeId) : Option (Nat × TypeId) := match P.underlying t with | some (.array n e) => some (n, e) | _ => none
def tfield (t : TypeId) (i : Nat) : Option Field := match P.underlying t with | some (.struct fs) => fs[i]? | _ => none
end

/-! ### Memory -/
def seg (cs : List SV) (off n : Nat) : Option (List SV) := if off + n ≤ cs.length then some ((cs.drop off).take n) else none
def splice (cs : List SV) (off : Nat) (vs : List SV) : List SV := cs.take off ++ vs ++ cs.drop (off + vs.length)
def loadN (h : Heap) (nm off n : Nat) : Option (List SV) := match h.get nm with | some cs => seg cs off n | none => none
def loadT (P : Program) (h : Heap) (t : TypeId) (nm off : Nat) : Option SV :=
  match tagg P t with
  | some true => match tsize P t with | some n => (match loadN h nm off n with | some cs => some (.agg cs) | none => none) | none => none
  | some false => match h.get nm with | some cs => cs[off]? | none => none
  | none => none
def storeN (h : Heap) (nm off : Nat) (vs : List SV) : Option Heap :=
  match h.get nm with
  | some cs => if off + vs.length ≤ cs.length ∧ vs.all SV.one = true then some (h.put nm (splice cs off vs)) else none
  | none => none
def storeT (P : Program) (h : Heap) (t : TypeId) (nm off : Nat) (v : SV) : Option Heap :=
  if tsize P t = some v.cells.length then storeN h nm off v.cells else none

/-! ### Operators -/
def intOp (op : BinOp) (k : IntKind) (a b : Int) : Option SV :=
  match op with
  | .add => some (.int k (k.wrap (a + b)))
  | .sub => some (.int k (k.wrap (a - b)))
  | .mul => some (.int k (k.wrap (a * b)))
  | .quo => if b = 0 then none else some (.int k (k.wrap (a.tdiv b)))
  | .rem => if b = 0 then none else some (.int k (a.tmod b))
  | .and => some (.int k (k.wrap (BitVec.ofInt k.bits a &&& BitVec.ofInt k.bits b).toNat))
  | .or => some (.int k (k.wrap (BitVec.ofInt k.bits a ||| BitVec.ofInt k.bits b).toNat))
  | .xor => some (.int k (k.wrap (BitVec.ofInt k.bits a ^^^ BitVec.ofInt k.bits b).toNat))
  | .andNot => some (.int k (k.wrap (BitVec.ofInt k.bits a &&& ~~~ BitVec.ofInt k.bits b).toNat))
  | .eql => some (.bool (a == b))
  | .neq => some (.bool (a != b))
  | .lss => some (.bool (a < b))
  | .leq => some (.bool (a ≤ b))
  | .gtr => some (.bool (a > b))
  | .geq => some (.bool (a ≥ b))
  | _ => none
def shiftOp (op : BinOp) (k : IntKind) (a b : Int) : Option SV :=
  if b < 0 then none else
  match op with
  | .shl => some (.int k (k.wrap (a * 2 ^ (min b.toNat k.bits))))
  | .shr => some (.int k (a.fdiv (2 ^ (min b.toNat k.bits))))
  | _ => none
def fltOp (op : BinOp) (k : FloatKind) (a b : Nat) : Option SV :=
  match op with
  | .add => (k.format.add a b).map (.flt k)
  | .sub => (k.format.sub a b).map (.flt k)
  | .mul => (k.format.mul a b).map (.flt k)
  | .quo => (k.format.div a b).map (.flt k)
  | .eql => some (.bool (k.format.order a b == some .eq))
  | .neq => some (.bool (k.format.order a b != some .eq))
  | .lss => some (.bool (k.format.order a b == some .lt))
  | .leq => some (.bool (k.format.order a b == some .lt || k.format.order a b == some .eq))
  | .gtr => some (.bool (k.format.order a b == some .gt))
  | .geq => some (.bool (k.format.order a b == some .gt || k.format.order a b == some .eq))
  | _ => none
def strOp (op : BinOp) (a b : List UInt8) : Option SV :=
  match op with
  | .add => if a.length + b.length ≤ 2 ^ 40 then some (.str (a ++ b)) else none
  | .eql => some (.bool (a == b))
  | .neq => some (.bool !(a == b))
  | .lss => some (.bool (Op.bytesLess a b))
  | .geq => some (.bool !(Op.bytesLess a b))
  | _ => none
def partT (P : Program) (t : TypeId) (cs : List SV) (off : Nat) : Option SV :=
  match tagg P t with
  | some true => match tsize P t with | some n => (match seg cs off n with | some l => some (.agg l) | none => none) | none => none
  | some false => cs[off]?
  | none => none
def eqFs (P : Program) (eq : TypeId → SV → SV → Option Bool) (xs ys : List SV) : List Field → Option Bool
  | [] => some true
  | f :: fs => if f.name = "_" then none else
    match partT P f.type xs f.offset, partT P f.type ys f.offset with
    | some a, some b => match eq f.type a b with
      | some true => eqFs P eq xs ys fs
      | some false => some false
      | none => none
    | _, _ => none
def eqArr (P : Program) (eq : TypeId → SV → SV → Option Bool) (el : TypeId) (s : Nat) (xs ys : List SV) : Nat → Nat → Option Bool
  | 0, _ => some true
  | n + 1, i => match partT P el xs (i * s), partT P el ys (i * s) with
    | some a, some b => match eq el a b with
      | some true => eqArr P eq el s xs ys n (i + 1)
      | some false => some false
      | none => none
    | _, _ => none
/-- Equality by the type, as the model asks it; 'none': it is not told. -/
def eqT (P : Program) : Nat → TypeId → SV → SV → Option Bool
  | 0, _, _, _ => none
  | d + 1, t, x, y =>
    match x, y with
    | .bool a, .bool b => match P.underlying t with | some .bool => some (a == b) | _ => none
    | .int k a, .int k' b => match P.underlying t with | some (.int _) => if k = k' then some (a == b) else none | _ => none
    | .str a, .str b => match P.underlying t with | some .string => some (a == b) | _ => none
    | .nilp, .nilp => match P.underlying t with | some (.pointer _) => some true | _ => none
    | .nilp, .ptr _ _ => match P.underlying t with | some (.pointer _) => some false | _ => none
    | .ptr _ _, .nilp => match P.underlying t with | some (.pointer _) => some false | _ => none
    | .nils, .nils => match P.underlying t with | some (.slice _) => some true | _ => none
    | .nils, .slc .. => match P.underlying t with | some (.slice _) => some false | _ => none
    | .slc .., .nils => match P.underlying t with | some (.slice _) => some false | _ => none
    | .nili, .ifc _ _ => match P.underlying t with | some (.interface _) => some false | _ => none
    | .ifc _ _, .nili => match P.underlying t with | some (.interface _) => some false | _ => none
    | .agg xs, .agg ys => match P.underlying t with
      | some (.struct fs) => if P.stoodInHeld t = true then none else eqFs P (eqT P d) xs ys fs.toList
      | some (.array n el) => match tsize P el with | some s => eqArr P (eqT P d) el s xs ys n 0 | none => none
      | _ => none
    | _, _ => none
def eqTop (P : Program) (t : TypeId) (x y : SV) : Option Bool :=
  match x, y with
  | .agg _, .agg _ => if P.eqGuardType P.depth t = true then none else eqT P Op.maxDepth t x y
  | _, _ => eqT P Op.maxDepth t x y
def binD (P : Program) (op : BinOp) (t : TypeId) (a b : SV) : Option SV :=
  match a, b with
  | .int k a, .int k' b => match op with
    | .shl => shiftOp .shl k a b
    | .shr => shiftOp .shr k a b
    | op => if k = k' then intOp op k a b else none
  | .flt k a, .flt k' b => if k = k' then fltOp op k a b else none
  | .str a, .str b => strOp op a b
  | a, b => match op with
    | .eql => match eqTop P t a b with | some x => some (.bool x) | none => none
    | .neq => match eqTop P t a b with | some x => some (.bool !x) | none => none
    | _ => none
def unD (op : UnOp) (x : SV) : Option SV :=
  match op, x with
  | .neg, .int k n => intOp .sub k 0 n
  | .xor, .int k n => intOp .xor k (if k.signed then -1 else k.max) n
  | .neg, .flt k b => some (.flt k (Op.negFloat k b))
  | .not, .bool b => some (.bool !b)
  | _, _ => none
/-- Bytes out of cells. -/
def asBytes : List SV → Option (List UInt8)
  | [] => some []
  | .int .u8 n :: vs => match asBytes vs with | some s => some (UInt8.ofNat n.toNat :: s) | none => none
  | _ => none
def ofBytes (s : List UInt8) : List SV := s.map fun b => .int .u8 b.toNat
def isU8 (P : Program) (t : TypeId) : Bool := match P.underlying t with | some (.int .u8) => true | _ => false
def convD (P : Program) (h : Heap) (src dst : TypeId) (x : SV) : Option SV :=
  match x with
  | .int _ n => match P.underlying dst with
    | some (.int k) => some (.int k (k.wrap n))
    | some (.float k) => some (.flt k (k.nearest n))
    | _ => none
  | .flt s b => match P.underlying dst with
    | some (.int k) => match (s.decode b).toInt .zero with
      | some n => if k.min ≤ n ∧ n ≤ k.max then some (.int k n) else none
      | none => none
    | _ => none
  | .str s => match P.underlying dst with
    | some .string => some (.str s)
    | _ => none
  | .slc nm off len es _ => match P.underlying dst, telem P src with
    | some .string, some e => if isU8 P e = true ∧ es = 1 then match loadN h nm off len with
      | some cs => match asBytes cs with | some s => some (.str s) | none => none
      | none => none else none
    | _, _ => none
  | _ => none
def lenD : SV → Option Nat
  | .slc _ _ len _ _ => some len
  | .nils => some 0
  | .str s => some s.length
  | _ => none
def boundD (v : SV) (y : Nat) : Option Nat :=
  match v with
  | .int _ i => if 0 ≤ i ∧ i ≤ (y : Int) then some i.toNat else none
  | _ => none
/-- An optional bound: an operand's value, or what stands for it. -/
def boundO (e : Env) (o : Option Operand) (y dflt : Nat) : Option Nat :=
  match o with
  | none => some dflt
  | some x => match ev e x with | some v => boundD v y | none => none
/-- Low, high, max. -/
def boundsD (e : Env) (len cap : Nat) (lo hi mx : Option Operand) : Option (Nat × Nat × Nat) :=
  match boundO e mx cap cap with
  | none => none
  | some m => match (match hi, mx with | none, some _ => none | hi, _ => boundO e hi m len) with
    | none => none
    | some b => match boundO e lo b 0 with
      | some a => some (a, b, m)
      | none => none
/-- How many elements a slice surely has room for. -/
def roomD (h : Heap) (nm off es : Nat) (cp : Option Nat) : Option Nat :=
  match cp with
  | some c => some c
  | none => match h.get nm with | some cs => some ((cs.length - off) / es) | none => none
def sliceD (P : Program) (h : Heap) (e : Env) (t : TypeId) (x : SV) (lo hi mx : Option Operand) : Option SV :=
  match x with
  | .str s => match P.underlying t with
    | some .string => if mx.isSome then none else
      match boundsD e s.length s.length lo hi none with
      | some (a, b, _) => some (.str ((s.drop a).take (b - a)))
      | none => none
    | _ => none
  | .nils => match telem P t with
    | some el => if (tsize P el).isSome = true then (match boundsD e 0 0 lo hi mx with
      | some _ => some .nils
      | none => none) else none
    | none => none
  | .slc nm off len es cp => match telem P t with
    | some el => if tsize P el = some es ∧ 0 < es then
        match roomD h nm off es cp with
        | none => none
        | some c => match boundsD e len c lo hi mx with
          | some (a, b, m) => if mx.isSome ∨ cp.isSome then some (.slc nm (off + a * es) (b - a) es (some (m - a)))
            else some (.slc nm (off + a * es) (b - a) es none)
          | none => none
      else none
    | none => none
  | .ptr nm off => match tarr P t with
    | some (n, el) => match tsize P el with
      | some es => if 0 < es then match boundsD e n n lo hi mx with
        | some (a, b, m) => some (.slc nm (off + a * es) (b - a) es (some (m - a)))
        | none => none else none
      | none => none
    | none => none
  | _ => none
def minD (isMax : Bool) : SV → SV → Option SV
  | .int k x, .int k' y => if k = k' then some (.int k (if isMax then (if y > x then y else x) else (if y < x then y else x))) else none
  | _, _ => none
def foldMin (isMax : Bool) : SV → List SV → Option SV
  | v, [] => some v
  | v, w :: ws => match minD isMax v w with | some u => foldMin isMax u ws | none => none
def fillD : List SV → List (Nat × SV) → Option (List SV)
  | cs, [] => some cs
  | cs, (off, v) :: ps => if off + v.cells.length ≤ cs.length then fillD (splice cs off v.cells) ps else none
/-- Where part i of a composite of a struct's or an array's type lies, and how many cells it has. -/
def placeD (P : Program) (t : TypeId) (i : Nat) : Option (Nat × Nat) :=
  match P.underlying t with
  | some (.struct fs) => match fs[i]? with
    | some f => (match tsize P f.type with | some n => some (f.offset, n) | none => none)
    | none => none
  | some (.array _ el) => match tsize P el with | some n => some (i * n, n) | none => none
  | some (.slice el) => match tsize P el with | some n => some (i * n, n) | none => none
  | _ => none
def partsD (P : Program) (e : Env) (t : TypeId) : List (Nat × Operand) → Option (List (Nat × SV))
  | [] => some []
  | (i, x) :: ps => match placeD P t i, ev e x, partsD P e t ps with
    | some (off, n), some v, some ps => if v.cells.length = n then some ((off, v) :: ps) else none
    | _, _, _ => none
def zeros (z : List SV) : Nat → List SV
  | 0 => []
  | n + 1 => z ++ zeros z n

/-- A struct all of whose fields have a size, or an array. -/
def kindB (P : Program) (t : TypeId) : Bool :=
  match P.underlying t with
  | some (.struct fs) => fs.toList.all fun f => (tsize P f.type).isSome
  | some (.array _ el) => (tsize P el).isSome
  | _ => false
def isConst : Operand → Bool
  | .const _ => true
  | _ => false
/-- Two nil interface values, one of them the literal. -/
def nilsD (P : Program) (op : BinOp) (t : TypeId) (x y : Operand) (a b : SV) : Option SV :=
  match a, b with
  | .nili, .nili => if isConst x || isConst y then (match P.underlying t with
    | some (.interface _) => (match op with | .eql => some (.bool true) | .neq => some (.bool false) | _ => none)
    | _ => none) else none
  | _, _ => none
/-- What an operation yields that leaves the heap as it is. -/
def stillD (P : Program) (e : Env) (h : Heap) (o : Op) : Option SV :=
  match o with
  | .move x => ev e x
  | .assign x => ev e x
  | .pick c a b => match ev e c with | some (.bool t) => if t then ev e a else ev e b | _ => none
  | .build t parts => match tzero P t, partsD P e t parts.toList with
    | some z, some ps => if kindB P t = true then (match fillD z.cells ps with | some cs => some (.agg cs) | none => none) else none
    | _, _ => none
  | .load t x => match ev e x with | some (.ptr nm off) => loadT P h t nm off | _ => none
  | .nilCheck x => match ev e x with
    | some (.ptr a b) => some (.ptr a b)
    | some (.ifc t v) => some (.ifc t v)
    | some (.fn (.func f) a b) => some (.fn (.func f) a b)
    | _ => none
  | .binOp op t x y _ => match ev e x, ev e y with
    | some a, some b => (match nilsD P op t x y a b with | some v => some v | none => binD P op t a b)
    | _, _ => none
  | .unOp op _ x => match ev e x with | some a => unD op a | none => none
  | .convert s d x => match ev e x, P.underlying s with | some a, some _ => convD P h s d a | _, _ => none
  | .makeInterface t x => match ev e x, P.underlying t with
    | some a, some d => (match d with | .interface _ => none | _ => some (.ifc t a))
    | _, _ => none
  | .makeFunc f a b => match evs e a.toList, evs e b.toList with | some a, some b => some (.fn f a b) | _, _ => none
  | .slice t x lo hi mx => match ev e x with | some v => sliceD P h e t v lo hi mx | none => none
  | .fieldAddr t x i => match ev e x, tfield P t i with
    | some (.ptr nm off), some f => (match tsize P f.type with | some n => if 0 < n then some (.ptr nm (off + f.offset)) else none | none => none)
    | _, _ => none
  | .field t x i => match ev e x, tfield P t i with
    | some (.agg cs), some f => partT P f.type cs f.offset
    | _, _ => none
  | .indexAddr t x i => match ev e x, ev e i with
    | some (.slc nm off len es _), some (.int _ i) => (match telem P t with
      | some el => if tsize P el = some es ∧ 0 ≤ i ∧ i < (len : Int) then some (.ptr nm (off + i.toNat * es)) else none
      | none => none)
    | some (.ptr nm off), some (.int _ i) => (match tarr P t with
      | some (n, el) => (match tsize P el with | some es => if 0 ≤ i ∧ i < (n : Int) then some (.ptr nm (off + i.toNat * es)) else none | none => none)
      | none => none)
    | _, _ => none
  | .index t x i => match ev e x, ev e i with
    | some (.agg cs), some (.int _ i) => (match tarr P t with
      | some (n, el) => (match tsize P el with | some es => if 0 ≤ i ∧ i < (n : Int) then partT P el cs (i.toNat * es) else none | none => none)
      | none => none)
    | some (.str s), some (.int _ i) => (match P.underlying t with
      | some .string => if 0 ≤ i then (match s[i.toNat]? with | some b => some (.int .u8 b.toNat) | none => none) else none
      | _ => none)
    | _, _ => none
  | .extract x i => match ev e x with | some (.tup vs) => vs[i]? | _ => none
  | .call c => match c.callee with
    | .builtin .len => (match evs e c.args.toList, (c.argTypes[0]?).bind P.underlying with
      | some [x], some (.slice _) => (match x with | .slc _ _ n _ _ => some (.int .i64 n) | .nils => some (.int .i64 0) | _ => none)
      | some [.str s], some .string => some (.int .i64 s.length)
      | _, _ => none)
    | .builtin .cap => (match evs e c.args.toList, (c.argTypes[0]?).bind P.underlying with
      | some [.nils], some (.slice _) => some (.int .i64 0)
      | _, _ => none)
    | .builtin .min => (match evs e c.args.toList with | some (x :: xs) => foldMin false x xs | _ => none)
    | .builtin .max => (match evs e c.args.toList with | some (x :: xs) => foldMin true x xs | _ => none)
    | _ => none
  | _ => none

/-- What an operation yields that makes one new row under the name 'nm', and that row. -/
def newD (P : Program) (e : Env) (nm : Nat) (o : Op) : Option (SV × Chunk) :=
  match o with
  | .alloc t => match tzero P t with | some z => some (.ptr nm 0, z.cells) | none => none
  | .box _ x => match ev e x with | some v => some (.ptr nm 0, v.cells) | none => none
  | .buildSlice t len parts => match telem P t with
    | some el => (match tsize P el, tzero P el, partsD P e t parts.toList with
      | some es, some z, some ps => if 0 < es ∧ z.cells.length = es ∧ len * es ≤ 2 ^ 24 then (match fillD (zeros z.cells len) ps with
        | some cs => some (.slc nm 0 len es (some len), cs)
        | none => none) else none
      | _, _, _ => none)
    | none => none
  | .makeSlice t l c => match ev e l, ev e c, telem P t with
    | some (.int _ l), some (.int _ c), some el => (match P.info? el, tzero P el with
      | some i, some z => if 0 < i.size ∧ z.cells.length = i.size ∧ 0 ≤ l ∧ l ≤ c ∧ c ≤ 2 ^ 20 ∧ i.bytes ≤ 2 ^ 20 then
          some (.slc nm 0 l.toNat i.size (some c.toNat), zeros z.cells c.toNat) else none
      | _, _ => none)
    | _, _, _ => none
  | .convert s d x => match ev e x, telem P d with
    | some (.str b), some el => if isU8 P el = true ∧ b.length ≤ 2 ^ 40 then (match P.underlying s with
      | some .string => some (.slc nm 0 b.length 1 none, ofBytes b)
      | _ => none) else none
    | _, _ => none
  | _ => none

/-- What an operand's first n elements' cells are. -/
def elems (h : Heap) (size n : Nat) : SV → Option (List SV)
  | .slc nm off _ _ _ => loadN h nm off (n * size)
  | .nils => if n = 0 then some [] else none
  | .str s => if size = 1 ∧ n ≤ s.length then some (ofBytes (s.take n)) else none
  | _ => none
/-- Where a slice's elements go when it is grown: the cells that it has, and a new name. -/
def movedD (h : Heap) (nm off len n es : Nat) (new : List SV) : Option (SV × Heap) :=
  match loadN h nm off (len * es) with
  | some old => some (.slc h.next 0 (len + n) es none, h.new (old ++ new))
  | none => none
def appendD (P : Program) (h : Heap) (elem : TypeId) (s x : SV) : Option (SV × Heap) :=
  match P.info? elem, tzero P elem, lenD x with
  | some i, some z, some n =>
    let es := i.size
    if ¬ (0 < es ∧ z.cells.length = es ∧ 0 < i.bytes ∧ i.bytes ≤ 2 ^ 16) then none else
    match elems h es n x with
    | none => none
    | some new =>
      if new.all SV.one = false then none else
      match s with
      | .nils => if n = 0 then some (.nils, h) else if n ≤ 2 ^ 24 then some (.slc h.next 0 n es none, h.new new) else none
      | .slc nm off len es' cp =>
        if es' ≠ es ∨ 2 ^ 24 < len + n then none else
        match h.get nm with
        | none => none
        | some cs =>
          if off + (len + n) * es ≤ cs.length ∧ (∀ c, cp = some c → len + n ≤ c) then
            some (.slc nm off (len + n) es cp, h.put nm (splice cs (off + len * es) new))
          else match cp with
          | some c => if len + n ≤ c then none else movedD h nm off len n es new
          | none => match movedD h nm off len n es new with | some (v, h) => some (v, h.drop nm) | none => none
      | _ => none
  | _, _, _ => none
def copyD (P : Program) (h : Heap) (elem : TypeId) (d x : SV) : Option (SV × Heap) :=
  match tsize P elem, lenD d, lenD x with
  | some (es' + 1), some dl, some xl =>
    let es := es' + 1
    match elems h es (min xl dl) x with
    | none => none
    | some new =>
      match d with
      | .nils => some (.int .i64 (min xl dl : Nat), h)
      | .slc nm off _ es2 _ => if es2 = es then match storeN h nm off new with | some h => some (.int .i64 (min xl dl : Nat), h) | none => none else none
      | _ => none
  | _, _, _ => none
def clearD (P : Program) (h : Heap) (elem : TypeId) (x : SV) : Option Heap :=
  match x with
  | .nils => some h
  | .slc nm off len es _ => match tsize P elem, tzero P elem with
    | some s, some z => if s = es ∧ z.cells.length = es ∧ 0 < es then storeN h nm off (zeros z.cells len) else none
    | _, _ => none
  | _ => none

/-- The names that an operation of 'actD' may turn. -/
def SV.names : SV → List Nat
  | .ptr nm _ => [nm]
  | .slc nm _ _ _ _ => [nm]
  | _ => []
/-- An operation that turns what lies in memory: what it yields, the heap, the names that it turned. -/
def actD (P : Program) (e : Env) (h : Heap) (o : Op) : Option (SV × Heap × List Nat) :=
  match o with
  | .store t x y => match ev e x, ev e y with
    | some (.ptr nm off), some v => (match storeT P h t nm off v with | some h => some (und, h, [nm]) | none => none)
    | _, _ => none
  | .call c => match c.callee with
    | .builtin .append => (match evs e c.args.toList, (c.argTypes[0]?).bind (telem P) with
      | some [s, x], some el => (match (c.argTypes[1]?).bind P.underlying with
        | some (.int _) => none
        | some _ => (match appendD P h el s x with | some (v, h) => some (v, h, s.names) | none => none)
        | none => none)
      | _, _ => none)
    | .builtin .copy => (match evs e c.args.toList, (c.argTypes[0]?).bind (telem P) with
      | some [d, x], some el => (match copyD P h el d x with | some (v, h) => some (v, h, d.names) | none => none)
      | _, _ => none)
    | .builtin .clear => (match evs e c.args.toList, (c.argTypes[0]?).bind (telem P) with
      | some [x], some el => (match clearD P h el x with | some h => some (.tup [], h, x.names) | none => none)
      | _, _ => none)
    | _ => none
  | _ => none
end Go.D
