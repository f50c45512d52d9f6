/- The deterministic reading of the model's programs: values with places of their own, a heap of rows, and what each operation comes to. Nothing here is a statement about the machine. -/
import GoSem.Dispatch
import GoSem.Machine.Frame
namespace Go.Det
set_option linter.unusedVariables false
/-- A value: as the model's, but a pointer or a slice leads to a place (a number), a row there and a cell in it. -/
inductive DV where
  | bool (b : Bool)
  | int (k : IntKind) (n : Int)
  | str (s : List UInt8)
  | ptr (p : Option (Nat × Nat × Nat))
  | sl (p : Option (Nat × Nat × Nat)) (len cap : Nat) (ex : Bool)
  | map (r : Option Nat)
  | func (fn : Fn) (first captured : List DV)
  | nilFunc
  | iface (t : TypeId) (v : DV)
  | nilIface
  | agg (cs : List DV)
  | tuple (vs : List DV)
  deriving Inhabited
def undefD : DV := .tuple []
/-- The cells of a value. -/
def DV.cells : DV → List DV
  | .agg cs => cs
  | v => [v]
def DV.one : DV → Bool
  | .agg _ | .tuple _ => false
  | _ => true
/-- A constant of one cell. -/
def ofScalar : Value → Option DV
  | .bool b => some (.bool b)
  | .int k n => some (.int k n)
  | .string s => some (.str s.data.toList)
  | .pointer none => some (.ptr none)
  | .slice none 0 0 => some (.sl none 0 0 true)
  | .map none => some (.map none)
  | .nilFunc => some .nilFunc
  | .nilIface => some .nilIface
  | _ => none
def ofScalars : List Value → Option (List DV)
  | [] => some []
  | v :: r => match ofScalar v, ofScalars r with
    | some d, some ds => some (d :: ds)
    | _, _ => none
def ofValue : Value → Option DV
  | .agg cs => (ofScalars cs.toList).map .agg
  | .tuple cs => (ofScalars cs.toList).map .tuple
  | v => ofScalar v
/-- Things of the library that the reading does not look into: a strings.Builder (used or not, where its bytes lie, how many), a row of bytes that a builder owns. -/
inductive LibObj where
  | bld (used : Bool) (g : Option Nat) (n : Nat)
  | hid (bs : List UInt8)
  deriving Inhabited
/-- The type of strings.Builder in this program, and of bytes. -/
def bldT : TypeId := 70
def byteT : TypeId := 5
/-- What lies at a place. -/
inductive DObj where
  | rows (ro : Bool) (sz : Nat) (rs : List (List DV))
  | map (es : List (DV × DV))
  | iter (s : List UInt8) (pos : Nat)
  | pin (g : Nat) (o : Obj)
  | lib (k : LibObj)
  deriving Inhabited
def DObj.ro : DObj → Bool
  | .rows ro _ _ => ro
  | .pin _ _ => true
  | _ => false
structure DH where
  next : Nat
  obj : Nat → Option DObj
instance : Inhabited DH := ⟨⟨0, fun _ => none⟩⟩
def DH.set (H : DH) (l : Nat) (o : Option DObj) : DH := { H with obj := fun m => if m = l then o else H.obj m }
def DH.new (H : DH) (o : DObj) : DH := { next := H.next + 1, obj := fun m => if m = H.next then some o else H.obj m }
/-! ### types -/
def sizeT (P : Program) (t : TypeId) : Option Nat := (P.info? t).map (·.size)
def aggT (P : Program) (t : TypeId) : Option Bool := (P.underlying t).map fun
  | .struct _ | .array _ _ => true
  | _ => false
def zeroT (P : Program) (t : TypeId) : Option DV := ((P.info? t).bind (·.zero)).bind ofValue
def bytesT (P : Program) (t : TypeId) : Option Nat := (P.info? t).map (·.bytes)
/-! ### parts of values -/
def partD (P : Program) (t : TypeId) (cs : List DV) (off : Nat) : Option DV :=
  match aggT P t, sizeT P t with
  | some true, some n => if off + n ≤ cs.length then some (.agg ((cs.drop off).take n)) else none
  | some false, some 1 => cs[off]?
  | _, _ => none
/-- Cells laid over others, from a place on. -/
def splice (cs : List DV) (off : Nat) (vs : List DV) : List DV := cs.take off ++ (vs ++ cs.drop (off + vs.length))
def fillD (place : Nat → Option (Nat × Nat)) : List DV → List (Nat × DV) → Option (List DV)
  | cs, [] => some cs
  | cs, (i, v) :: rest => match place i with
    | none => none
    | some (off, size) => if v.cells.length = size ∧ off + size ≤ cs.length ∧ v.cells.all DV.one = true then fillD place (splice cs off v.cells) rest else none
/-! ### rows -/
def setRow (rs : List (List DV)) (i off : Nat) (vs : List DV) : Option (List (List DV)) :=
  match rs[i]? with
  | some r => if off + vs.length ≤ r.length ∧ vs.all DV.one = true then some (rs.set i (splice r off vs)) else none
  | none => none
def loadD (P : Program) (t : TypeId) (H : DH) : DV → Option DV
  | .ptr (some (l, i, o)) => match H.obj l with
    | some (.rows _ _ rs) => match rs[i]? with
      | some r => partD P t r o
      | none => none
    | _ => none
  | _ => none
def storeD (P : Program) (t : TypeId) (H : DH) (a v : DV) : Option DH :=
  match a, sizeT P t with
  | .ptr (some (l, i, o)), some n => match H.obj l with
    | some (.rows false sz rs) => if v.cells.length = n then (setRow rs i o v.cells).map fun rs' => H.set l (some (.rows false sz rs')) else none
    | _ => none
  | _, _ => none
/-- The rows that a slice holds. -/
def rowsOf (H : DH) : DV → Option (List (List DV))
  | .sl none 0 _ _ => some []
  | .sl (some (l, i, _)) n _ _ => match H.obj l with
    | some (.rows _ _ rs) => if i + n ≤ rs.length then some ((rs.drop i).take n) else none
    | _ => none
  | _ => none
/-! ### equality -/
mutual
def DV.beq : DV → DV → Bool
  | .bool a, .bool b => a == b
  | .int j a, .int k b => j == k && a == b
  | .str a, .str b => a == b
  | .ptr a, .ptr b => a == b
  | .sl a l c x, .sl b m d y => a == b && l == m && c == d && x == y
  | .map a, .map b => a == b
  | .nilFunc, .nilFunc => true
  | .nilIface, .nilIface => true
  | .iface t v, .iface u w => t == u && DV.beq v w
  | .agg a, .agg b => DV.beqs a b
  | .tuple a, .tuple b => DV.beqs a b
  | .func f a c, .func g b d => decide (f = g) && DV.beqs a b && DV.beqs c d
  | _, _ => false
def DV.beqs : List DV → List DV → Bool
  | [], [] => true
  | a :: r, b :: s => DV.beq a b && DV.beqs r s
  | _, _ => false
end
/-- '==' of structs, field by field. -/
def eqFs (P : Program) (g : TypeId → DV → DV → Option Bool) (xs ys : List DV) : List Field → Option Bool
  | [] => some true
  | f :: fs => if f.name = "_" then eqFs P g xs ys fs else
    match partD P f.type xs f.offset, partD P f.type ys f.offset with
    | some a, some b => match g f.type a b with
      | some true => eqFs P g xs ys fs
      | some false => some false
      | none => none
    | _, _ => none
/-- '==', as far as it is told here. -/
def eqT (P : Program) : Nat → TypeId → DV → DV → Option Bool
  | 0, _, _, _ => none
  | d + 1, t, x, y => match P.underlying t, x, y with
    | some .bool, .bool a, .bool b => some (a == b)
    | some (.int _), .int j a, .int k b => if j = k then some (a == b) else none
    | some .string, .str a, .str b => some (a == b)
    | some (.struct fs), .agg a, .agg b => if P.stoodInHeld t = true ∨ a.all DV.one = false ∨ b.all DV.one = false then none else eqFs P (eqT P d) a b fs.toList
    | some (.pointer _), .ptr none, .ptr b => some b.isNone
    | some (.pointer _), .ptr _, .ptr none => some false
    | some (.slice _), .sl none _ _ _, .sl b _ _ _ => some b.isNone
    | some (.slice _), .sl _ _ _ _, .sl none _ _ _ => some false
    | some (.map _ _), .map none, .map b => some b.isNone
    | some (.map _ _), .map _, .map none => some false
    | some (.func _ _ _), .nilFunc, .nilFunc => some true
    | some (.func _ _ _), .nilFunc, .func _ _ _ => some false
    | some (.func _ _ _), .func _ _ _, .nilFunc => some false
    | some (.interface _), .nilIface, .iface _ _ => some false
    | some (.interface _), .iface _ _, .nilIface => some false
    | _, _, _ => none
def eqD (P : Program) (t : TypeId) (x y : DV) : Option Bool :=
  match x, y with
  | .agg _, .agg _ => if P.eqGuardType P.depth t = true then none else eqT P 20 t x y
  | _, _ => eqT P 20 t x y
/-! ### whole numbers -/
def arithD (op : BinOp) (k : IntKind) (a b : Int) : Option DV :=
  match op with
  | .add => some (.int k (k.wrap (a + b)))
  | .sub => some (.int k (k.wrap (a - b)))
  | .mul => some (.int k (k.wrap (a * b)))
  | .quo => if b = 0 then none else some (.int k (k.wrap (a.tdiv b)))
  | .rem => if b = 0 then none else some (.int k (a.tmod b))
  | .and => some (.int k (k.wrap (BitVec.ofInt k.bits a &&& BitVec.ofInt k.bits b).toNat))
  | .or => some (.int k (k.wrap (BitVec.ofInt k.bits a ||| BitVec.ofInt k.bits b).toNat))
  | .xor => some (.int k (k.wrap (BitVec.ofInt k.bits a ^^^ BitVec.ofInt k.bits b).toNat))
  | .andNot => some (.int k (k.wrap (BitVec.ofInt k.bits a &&& ~~~(BitVec.ofInt k.bits b)).toNat))
  | .eql => some (.bool (a == b))
  | .neq => some (.bool (a != b))
  | .lss => some (.bool (decide (a < b)))
  | .leq => some (.bool (decide (a ≤ b)))
  | .gtr => some (.bool (decide (a > b)))
  | .geq => some (.bool (decide (a ≥ b)))
  | _ => none
def shiftD (op : BinOp) (k : IntKind) (a b : Int) : Option DV :=
  if b < 0 then none else
  match op with
  | .shl => some (.int k (k.wrap (a * 2 ^ (min b.toNat k.bits))))
  | .shr => some (.int k (a.fdiv (2 ^ (min b.toNat k.bits))))
  | _ => none
def strOpD (op : BinOp) (a b : List UInt8) : Option DV :=
  match op with
  | .add => if a.length + b.length ≤ 4294967296 then some (.str (a ++ b)) else none
  | .eql => some (.bool (a == b))
  | .neq => some (.bool (!(a == b)))
  | .lss => some (.bool (Op.bytesLess a b))
  | .leq => some (.bool (Op.bytesLess a b || a == b))
  | .gtr => some (.bool (!(Op.bytesLess a b || a == b)))
  | .geq => some (.bool (!(Op.bytesLess a b)))
  | _ => none
def binD (P : Program) (op : BinOp) (t : TypeId) (x y : DV) : Option DV :=
  match x, y with
  | .int j a, .int k b => match op with
    | .shl | .shr => shiftD op j a b
    | _ => if j = k then arithD op j a b else none
  | .str a, .str b => strOpD op a b
  | x, y => match op with
    | .eql => (eqD P t x y).map .bool
    | .neq => (eqD P t x y).map fun b => .bool (!b)
    | _ => none
def unD (op : UnOp) (x : DV) : Option DV :=
  match op, x with
  | .neg, .int k n => some (.int k (k.wrap (0 - n)))
  | .xor, .int k n => some (.int k (k.wrap (BitVec.ofInt k.bits (if k.signed then -1 else k.max) ^^^ BitVec.ofInt k.bits n).toNat))
  | .not, .bool b => some (.bool (!b))
  | _, _ => none
/-! ### slices -/
/-- A bound of a slice expression, at most y. -/
def boundD (y : Nat) (x : DV) : Option Nat :=
  match x with
  | .int _ i => if 0 ≤ i ∧ i ≤ (y : Int) then some i.toNat else none
  | _ => none
def boundsD (len cap : Nat) (lo hi mx : Option DV) : Option (Nat × Nat × Nat) :=
  match (match mx with | some v => boundD cap v | none => some cap) with
  | none => none
  | some m => match (match hi, mx with | some v, some _ => boundD m v | some v, none => boundD m v | none, none => some len | none, some _ => none) with
    | none => none
    | some h => match (match lo with | some v => boundD h v | none => some 0) with
      | none => none
      | some l => some (l, h, m)
/-- Are a slice's rows of so many cells? -/
def rowSz (P : Program) (e : TypeId) (p : Option (Nat × Nat × Nat)) : Bool :=
  match p, sizeT P e with
  | none, some _ => true
  | some (_, _, z), some n => n == z
  | _, _ => false
def sliceD (P : Program) (t : TypeId) (x : DV) (lo hi mx : Option DV) : Option DV :=
  match P.underlying t, x with
  | some .string, .str s => match mx with
    | some _ => none
    | none => match boundsD s.length s.length lo hi none with
      | some (l, h, _) => some (.str ((s.drop l).take (h - l)))
      | none => none
  | some (.slice e), .sl p len cap ex => if rowSz P e p then match boundsD len cap lo hi mx with
    | some (l, h, m) => (match mx, ex with
      | none, ex => some (.sl (p.map fun (a, i, z) => (a, i + l, z)) (h - l) (m - l) ex)
      | some _, _ => some (.sl (p.map fun (a, i, z) => (a, i + l, z)) (h - l) (m - l) true))
    | none => none
    else none
  | _, _ => none
/-- The most that a row may come to. -/
def mostD : Nat := 2147483648
/-! ### operations that neither read nor write -/
abbrev Ev := Operand → Option DV
def evs (ev : Ev) : List Operand → Option (List DV)
  | [] => some []
  | x :: r => match ev x, evs ev r with
    | some d, some ds => some (d :: ds)
    | _, _ => none
def evParts (ev : Ev) : List (Nat × Operand) → Option (List (Nat × DV))
  | [] => some []
  | (i, x) :: r => match ev x, evParts ev r with
    | some d, some ds => some ((i, d) :: ds)
    | _, _ => none
def evOpt (ev : Ev) : Option Operand → Option (Option DV)
  | none => some none
  | some x => (ev x).map some
def fieldsPlace (P : Program) (fs : Array Field) (i : Nat) : Option (Nat × Nat) :=
  match fs[i]? with
  | some f => (sizeT P f.type).map fun s => (f.offset, s)
  | none => none
def buildD (P : Program) (t : TypeId) (parts : List (Nat × DV)) : Option DV :=
  match zeroT P t, P.underlying t with
  | some (.agg z), some (.struct fs) => if fs.toList.all (fun f => (sizeT P f.type).isSome) then (fillD (fieldsPlace P fs) z parts).map .agg else none
  | some (.agg z), some (.array _ e) => match sizeT P e with
    | some s => (fillD (fun i => some (i * s, s)) z parts).map .agg
    | none => none
  | _, _ => none
def fieldAddrD (P : Program) (s : TypeId) (x : DV) (f : Nat) : Option DV :=
  match P.underlying s, x with
  | some (.struct fs), .ptr (some (l, i, o)) => match fs[f]? with
    | some f => match sizeT P f.type with
      | some (n + 1) => some (.ptr (some (l, i, o + f.offset)))
      | _ => none
    | none => none
  | _, _ => none
def fieldD (P : Program) (s : TypeId) (x : DV) (f : Nat) : Option DV :=
  match P.underlying s, x with
  | some (.struct fs), .agg cs => match fs[f]? with
    | some f => partD P f.type cs f.offset
    | none => none
  | _, _ => none
def indexAddrD (P : Program) (t : TypeId) (x ix : DV) : Option DV :=
  match P.underlying t, x, ix with
  | some (.slice e), .sl (some (l, i, z)) len _ _, .int _ n => if sizeT P e = some z ∧ 0 ≤ n ∧ n < (len : Int) then some (.ptr (some (l, i + n.toNat, 0))) else none
  | some (.array len e), .ptr (some (l, i, o)), .int _ n => match sizeT P e with
    | some s => if 0 ≤ n ∧ n < (len : Int) then some (.ptr (some (l, i, o + n.toNat * s))) else none
    | none => none
  | _, _, _ => none
def indexD (P : Program) (t : TypeId) (x ix : DV) : Option DV :=
  match P.underlying t, x, ix with
  | some (.array len e), .agg cs, .int _ n => match sizeT P e with
    | some s => if 0 ≤ n ∧ n < (len : Int) then partD P e cs (n.toNat * s) else none
    | none => none
  | some .string, .str s, .int _ n => if 0 ≤ n then (s[n.toNat]?).map fun b => .int .u8 b.toNat else none
  | _, _, _ => none
def convPure (P : Program) (src dst : TypeId) (x : DV) : Option DV :=
  match P.underlying src, P.underlying dst, x with
  | some _, some (.int k), .int _ n => some (.int k (k.wrap n))
  | some _, some .string, .int _ n => some (.str (Utf8.encode n).data.toList)
  | some _, some .string, .str s => some (.str s)
  | _, _, _ => none
def assertD (P : Program) (x : DV) (xType asserted : TypeId) (commaOk : Bool) : Option DV :=
  match P.underlying asserted, x with
  | some (.interface _), _ => none
  | some _, .nilIface => if commaOk then (zeroT P asserted).map fun z => .tuple [z, .bool false] else none
  | some _, .iface t v => if t = asserted then some (if commaOk then .tuple [v, .bool true] else v)
      else if commaOk then (zeroT P asserted).map fun z => .tuple [z, .bool false] else none
  | _, _ => none
def lenD (P : Program) (t : TypeId) (x : DV) : Option DV :=
  match P.underlying t, x with
  | some .string, .str s => some (.int .i64 s.length)
  | some (.array n _), _ => some (.int .i64 n)
  | some (.slice _), .sl _ n _ _ => some (.int .i64 n)
  | _, _ => none
def max2D : DV → DV → Option DV
  | .int k x, .int _ y => some (.int k (if y > x then y else x))
  | _, _ => none
def min2D : DV → DV → Option DV
  | .int k x, .int _ y => some (.int k (if y < x then y else x))
  | _, _ => none
def foldD (f : DV → DV → Option DV) : DV → List DV → Option DV
  | x, [] => some x
  | x, y :: r => match f x y with
    | some z => foldD f z r
    | none => none
def pureD (P : Program) (o : Oper) (ev : Ev) : Option DV :=
  match o.op with
  | .move x | .assign x => ev x
  | .pick c a b => match ev c with
    | some (.bool t) => if t then ev a else ev b
    | _ => none
  | .build t parts => match evParts ev parts.toList with
    | some ps => buildD P t ps
    | none => none
  | .nilCheck x => match ev x with
    | some (.ptr (some p)) => some (.ptr (some p))
    | some (.iface t v) => some (.iface t v)
    | some (.func (.func f) a c) => some (.func (.func f) a c)
    | _ => none
  | .binOp op t x y _ => match ev x, ev y with
    | some a, some b => binD P op t a b
    | _, _ => none
  | .unOp op _ x => match ev x with
    | some a => unD op a
    | none => none
  | .convert s d x => match ev x with
    | some a => convPure P s d a
    | none => none
  | .makeInterface t x => match P.underlying t, ev x with
    | some (.interface _), _ => none
    | some _, some a => some (.iface t a)
    | _, _ => none
  | .makeFunc fn first captured => match evs ev first.toList, evs ev captured.toList with
    | some a, some c => some (.func fn a c)
    | _, _ => none
  | .slice t x lo hi mx => match ev x, evOpt ev lo, evOpt ev hi, evOpt ev mx with
    | some a, some l, some h, some m => sliceD P t a l h m
    | _, _, _, _ => none
  | .fieldAddr s x f => match ev x with
    | some a => fieldAddrD P s a f
    | none => none
  | .field s x f => match ev x with
    | some a => fieldD P s a f
    | none => none
  | .indexAddr t x ix => match ev x, ev ix with
    | some a, some i => indexAddrD P t a i
    | _, _ => none
  | .index t x ix => match ev x, ev ix with
    | some a, some i => indexD P t a i
    | _, _ => none
  | .typeAssert x xt at_ ok => match ev x with
    | some a => assertD P a xt at_ ok
    | none => none
  | .extract t i => match ev t with
    | some (.tuple vs) => vs[i]?
    | _ => none
  | .call { callee := .builtin .len, args, argTypes } => match args.toList, argTypes.toList with
    | [x], [t] => match ev x with
      | some a => lenD P t a
      | none => none
    | _, _ => none
  | .call { callee := .builtin .max, args, argTypes } => match evs ev args.toList with
    | some (x :: r) => foldD max2D x r
    | _ => none
  | .call { callee := .builtin .min, args, argTypes } => match evs ev args.toList with
    | some (x :: r) => foldD min2D x r
    | _ => none
  | _ => none
/-! ### operations that read -/
def bytesOf : List (List DV) → Option (List UInt8)
  | [] => some []
  | [.int .u8 n] :: r => match bytesOf r with
    | some l => some (UInt8.ofNat n.toNat :: l)
    | none => none
  | _ => none
/-- A key that is compared cell by cell. -/
def plainKey : DV → Bool
  | .bool _ | .int _ _ | .str _ => true
  | .agg cs => cs.all fun
    | .bool _ | .int _ _ | .str _ => true
    | _ => false
  | _ => false
def keq (P : Program) (t : TypeId) (k k' : DV) : Option Bool :=
  match eqT P 20 t k k' with
  | some true => if DV.beq k k' && plainKey k then some true else none
  | some false => some false
  | none => none
/-- The entry of a key: its place and value. -/
def findD (P : Program) (t : TypeId) (k : DV) : List (DV × DV) → Option (Option (Nat × DV))
  | [] => some none
  | (k', v) :: r => match keq P t k k' with
    | some true => some (some (0, v))
    | some false => (findD P t k r).map fun x => x.map fun y => (y.1 + 1, y.2)
    | none => none
/-- May a key be asked for? -/
def keyOk (P : Program) (t : TypeId) (k : DV) : Bool :=
  match P.underlying t with
  | some (.int _) | some .string | some .bool => keq P t k k == some true
  | some (.struct _) => keq P t k k == some true
  | _ => false
def mapEs (H : DH) (r : Option Nat) : Option (List (DV × DV)) :=
  match r with
  | none => some []
  | some l => match H.obj l with
    | some (.map es) => some es
    | _ => none
def lookupD (P : Program) (t : TypeId) (H : DH) (x k : DV) (commaOk : Bool) : Option DV :=
  match P.underlying t, x with
  | some (.map kt e), .map r => if keyOk P kt k then
      match mapEs H r with
      | some es => match findD P kt k es with
        | some (some (_, v)) => some (if commaOk then .tuple [v, .bool true] else v)
        | some none => (zeroT P e).map fun z => if commaOk then .tuple [z, .bool false] else z
        | none => none
      | none => none
      else none
  | _, _ => none
def readD (P : Program) (o : Oper) (ev : Ev) (H : DH) : Option DV :=
  match o.op with
  | .load t a => match ev a with
    | some p => loadD P t H p
    | none => none
  | .lookup t x k ok => match ev x, ev k with
    | some m, some k => lookupD P t H m k ok
    | _, _ => none
  | .convert s d x => match P.underlying s, P.underlying d, ev x with
    | some (.slice e), some .string, some a => match P.underlying e with
      | some (.int .u8) => match rowsOf H a with
        | some rs => (bytesOf rs).map .str
        | none => none
      | _ => none
    | _, _, _ => none
  | .call { callee := .builtin .len, args, argTypes } => match args.toList, argTypes.toList with
    | [x], [t] => match P.underlying t, ev x with
      | some (.map _ _), some (.map none) => some (.int .i64 0)
      | some (.map _ _), some (.map (some l)) => match H.obj l with
        | some (.map es) => some (.int .i64 es.length)
        | _ => none
      | _, _ => none
    | _, _ => none
  | _ => none
/-! ### operations that write, or make memory -/
def zerosD (z : List DV) (n : Nat) : List (List DV) := List.replicate n z
/-- What is appended: rows, of so many cells each. -/
def appendedD (P : Program) (e : TypeId) (H : DH) (xt : Option TypeDesc) (x : DV) : Option (List (List DV)) :=
  match xt, x with
  | some (.int _), .int _ n => if 0 ≤ n ∧ n ≤ (mostD : Int) then (match zeroT P e with
      | some z => if sizeT P e = some z.cells.length then some (zerosD z.cells n.toNat) else none
      | none => none) else none
  | some (.int _), _ => none
  | some .string, .str s => some (s.map fun b => [.int .u8 b.toNat])
  | some _, .sl p n c ex => rowsOf H (.sl p n c ex)
  | _, _ => none
def setRows (rs : List (List DV)) (i : Nat) (new : List (List DV)) : List (List DV) := rs.take i ++ (new ++ rs.drop (i + new.length))
def appendD (P : Program) (st : TypeId) (xt : Option TypeDesc) (H : DH) (s x : DV) : Option (DV × DH) :=
  match P.underlying st with
  | some (.slice e) => match sizeT P e, bytesT P e, zeroT P e, appendedD P e H xt x with
    | some (sz + 1), some by_, some z0, some new =>
      if by_ ≤ 4096 ∧ z0.cells.length = sz + 1 ∧ new.all (fun r => r.length == sz + 1 && r.all DV.one) then
      match s with
      | .sl none 0 0 _ => if new = [] then some (.sl none 0 0 true, H) else
          if new.length ≤ mostD then some (.sl (some (H.next, 0, sz + 1)) new.length new.length false, H.new (.rows false (sz + 1) new)) else none
      | .sl (some (l, i, z)) n c ex =>
        if z ≠ sz + 1 then none else if new = [] then some (.sl (some (l, i, z)) n c ex, H) else
        match H.obj l with
        | some (.rows ro sz' rs) =>
          if sz' ≠ sz + 1 ∨ rs.length < i + n ∨ mostD < n + new.length then none else
          if n + new.length ≤ c then
            (if ro = false ∧ i + n + new.length ≤ rs.length then some (.sl (some (l, i, z)) (n + new.length) c ex, H.set l (some (.rows false (sz + 1) (setRows rs (i + n) new)))) else none)
          else if ex then some (.sl (some (H.next, 0, z)) (n + new.length) (n + new.length) false, H.new (.rows false (sz + 1) ((rs.drop i).take n ++ new)))
          else if ro = false then some (.sl (some (H.next, 0, z)) (n + new.length) (n + new.length) false, (H.set l none).new (.rows false (sz + 1) ((rs.drop i).take n ++ new)))
          else none
        | _ => none
      | _ => none
      else none
    | _, _, _, _ => none
  | _ => none
def makeSliceD (P : Program) (t : TypeId) (H : DH) (len cap : DV) : Option (DV × DH) :=
  match P.underlying t, len, cap with
  | some (.slice e), .int _ l, .int _ c => match zeroT P e, sizeT P e, bytesT P e with
    | some z, some (sz + 1), some by_ => if 0 ≤ l ∧ l ≤ c ∧ c ≤ (mostD : Int) ∧ by_ ≤ 4096 ∧ z.cells.length = sz + 1 ∧ z.cells.all DV.one = true then
        some (.sl (some (H.next, 0, sz + 1)) l.toNat c.toNat true, H.new (.rows false (sz + 1) (zerosD z.cells c.toNat))) else none
    | _, _, _ => none
  | _, _, _ => none
def buildRows (sz : Nat) : List (List DV) → List (Nat × DV) → Option (List (List DV))
  | rs, [] => some rs
  | rs, (i, v) :: rest => if i < rs.length ∧ v.cells.length = sz ∧ v.cells.all DV.one = true then buildRows sz (rs.set i v.cells) rest else none
def buildSliceD (P : Program) (t : TypeId) (len : Nat) (H : DH) (parts : List (Nat × DV)) : Option (DV × DH) :=
  match P.underlying t with
  | some (.slice e) => match zeroT P e, sizeT P e with
    | some z, some (sz + 1) => if z.cells.length = sz + 1 ∧ z.cells.all DV.one = true ∧ len * (sz + 1) ≤ 16777216 then
        (buildRows (sz + 1) (zerosD z.cells len) parts).map fun rs => (.sl (some (H.next, 0, sz + 1)) len len true, H.new (.rows false (sz + 1) rs)) else none
    | _, _ => none
  | _ => none
def newVarD (H : DH) (v : DV) : Option (DV × DH) :=
  if v.cells.all DV.one = true then some (.ptr (some (H.next, 0, 0)), H.new (.rows false v.cells.length [v.cells])) else none
/-- A strings.Builder made. -/
def newBldD (H : DH) : DV → Option (DV × DH)
  | .agg [.ptr none, .sl none 0 0 _] => some (.ptr (some (H.next, 0, 0)), H.new (.lib (.bld false none 0)))
  | _ => none
def allocD (e : TypeId) (H : DH) (z : DV) : Option (DV × DH) := if (e == bldT) = true then newBldD H z else newVarD H z
def setEntry (P : Program) (t : TypeId) (k v : DV) (es : List (DV × DV)) : Option (List (DV × DV)) :=
  match findD P t k es with
  | some (some (i, _)) => some (es.set i (k, v))
  | some none => some (es ++ [(k, v)])
  | none => none
/-- May a map's entries go? Where they may not, an entry's stamp is its place. -/
def eraseOk : Bool := false
def dropEntry (P : Program) (t : TypeId) (k : DV) (es : List (DV × DV)) : Option (List (DV × DV)) :=
  match findD P t k es with
  | some (some (i, _)) => some (es.eraseIdx i)
  | some none => some es
  | none => none
def updateD (P : Program) (t : TypeId) (H : DH) (m k v : DV) : Option DH :=
  match P.underlying t, m with
  | some (.map kt _), .map (some l) => match H.obj l with
    | some (.map es) => if keyOk P kt k then (setEntry P kt k v es).map fun es' => H.set l (some (.map es')) else none
    | _ => none
  | _, _ => none
def deleteD (P : Program) (t : TypeId) (H : DH) (m k : DV) : Option DH :=
  match P.underlying t, m with
  | some (.map kt _), .map (some l) => match H.obj l with
    | some (.map es) => if (keyOk P kt k && eraseOk) = true then (dropEntry P kt k es).map fun es' => H.set l (some (.map es')) else none
    | _ => none
  | _, _ => none
/-- An entry is looked up, to be stored into. -/
def entryD (P : Program) (t : TypeId) (H : DH) (m k : DV) : Option (DV × DH) :=
  if eraseOk = true then none else match P.underlying t, m with
  | some (.map kt e), .map (some l) => match H.obj l, zeroT P e with
    | some (.map es), some z => if keyOk P kt k then (match findD P kt k es with
      | some (some (i, v)) => some (.tuple [v, .int .i64 (i : Int)], H.set l (some (.map (es.set i (k, v)))))
      | some none => some (.tuple [z, .int .i64 (es.length : Int)], H.set l (some (.map (es ++ [(k, z)]))))
      | none => none) else none
    | _, _ => none
  | _, _ => none
def entryStoreD (H : DH) (m s v : DV) : Option DH :=
  if eraseOk = true then none else match m, s with
  | .map (some l), .int .i64 i => match H.obj l with
    | some (.map es) => if 0 ≤ i then (match es[i.toNat]? with
      | some (k, _) => some (H.set l (some (.map (es.set i.toNat (k, v)))))
      | none => none) else none
    | _ => none
  | _, _ => none
def clearD (P : Program) (t : TypeId) (H : DH) (x : DV) : Option DH :=
  match P.underlying t, x with
  | some (.slice _), .sl none _ _ _ => some H
  | some (.slice _), .sl _ 0 _ _ => some H
  | some (.slice e), .sl (some (l, i, _)) n _ _ => match H.obj l, zeroT P e with
    | some (.rows false (sz + 1) rs), some z => if z.cells.length = sz + 1 ∧ z.cells.all DV.one = true ∧ i + n ≤ rs.length ∧ sizeT P e = some (sz + 1) then some (H.set l (some (.rows false (sz + 1) (setRows rs i (zerosD z.cells n))))) else none
    | _, _ => none
  | _, _ => none
def nextD (H : DH) (it : DV) : Option (DV × DH) :=
  match it with
  | .ptr (some (l, 0, 0)) => match H.obj l with
    | some (.iter s pos) => if pos < s.length then
        (match Utf8.decode ⟨s.toArray⟩ pos with
         | (c, width) => some (.tuple [.bool true, .int .i64 pos, .int .i32 c], H.set l (some (.iter s (pos + width)))))
      else some (.tuple [.bool false], H)
    | _ => none
  | _ => none
def moveD (P : Program) (o : Oper) (ev : Ev) (H : DH) : Option (DV × DH) :=
  match o.op with
  | .alloc e => match zeroT P e with
    | some z => allocD e H z
    | none => none
  | .box _ x => match ev x with
    | some v => newVarD H v
    | none => none
  | .buildSlice t n parts => match evParts ev parts.toList with
    | some ps => buildSliceD P t n H ps
    | none => none
  | .store t a x => match ev a, ev x with
    | some p, some v => (storeD P t H p v).map fun H' => (undefD, H')
    | _, _ => none
  | .makeSlice t l c => match ev l, ev c with
    | some a, some b => makeSliceD P t H a b
    | _, _ => none
  | .makeMap t r => match P.underlying t, r with
    | some (.map _ _), none => some (.map (some H.next), H.new (.map []))
    | some (.map _ _), some x => match ev x with
      | some (.int _ _) => some (.map (some H.next), H.new (.map []))
      | _ => none
    | _, _ => none
  | .mapUpdate t m k x => match ev m, ev k, ev x with
    | some a, some b, some c => (updateD P t H a b c).map fun H' => (undefD, H')
    | _, _, _ => none
  | .insert t m k x => match ev m, ev k, ev x with
    | some a, some b, some c => (updateD P t H a b c).map fun H' => (undefD, H')
    | _, _, _ => none
  | .mapEntry t m k => match ev m, ev k with
    | some a, some b => entryD P t H a b
    | _, _ => none
  | .entryStore _ m s x => match ev m, ev s, ev x with
    | some a, some b, some c => (entryStoreD H a b c).map fun H' => (undefD, H')
    | _, _, _ => none
  | .range t x => match P.underlying t, ev x with
    | some .string, some (.str s) => some (.ptr (some (H.next, 0, 0)), H.new (.iter s 0))
    | _, _ => none
  | .next it true => match ev it with
    | some a => nextD H a
    | none => none
  | .convert s d x => match P.underlying s, P.underlying d, ev x with
    | some _, some (.slice e), some (.str s) => match P.underlying e with
      | some (.int .u8) => some (.sl (some (H.next, 0, 1)) s.length s.length false, H.new (.rows false 1 (s.map fun b => [.int .u8 b.toNat])))
      | _ => none
    | _, _, _ => none
  | .call { callee := .builtin .append, args, argTypes } => match args.toList, argTypes.toList with
    | [s, x], [st, xt] => match ev s, ev x with
      | some a, some b => appendD P st (P.underlying xt) H a b
      | _, _ => none
    | _, _ => none
  | .call { callee := .builtin .delete, args, argTypes } => match args.toList, argTypes.toList with
    | [m, k], [t, _] => match ev m, ev k with
      | some a, some b => (deleteD P t H a b).map fun H' => (undefD, H')
      | _, _ => none
    | _, _ => none
  | .call { callee := .builtin .clear, args, argTypes } => match args.toList, argTypes.toList with
    | [x], [t] => match ev x with
      | some a => (clearD P t H a).map fun H' => (undefD, H')
      | none => none
    | _, _ => none
  | _ => none
end Go.Det

/- The deterministic reading of code: regions in the text's order, loops, calls; each with a number of rounds that it may take. -/
namespace Go.Det
set_option linter.unusedVariables false
structure DSt where
  env : List DV
  H : DH
inductive DExit where
  | normal
  | exit (id : Nat)
  | ret
  deriving DecidableEq
abbrev CallF := FuncId → List DV → DH → Option (DV × DH)
def evalO (env : List DV) : Ev
  | .tmp t => some (env.getD t undefD)
  | .const v => ofValue v
  | .global _ => none
  | .func f => some (.func (.func f) [] [])
def putD (env : List DV) (dst : Option Tmp) (v : DV) : List DV :=
  match dst with
  | some d => env.set d v
  | none => env
def dyield (ops : Array Oper) (env : List DV) (j : Nat) : Option Bool :=
  match ((ops[j]?).bind (·.dst)).bind (env[·]?) with
  | some (.bool b) => some b
  | _ => none
/-- Does an operation change the heap, or make something in it? -/
def mover (P : Program) : Op → Bool
  | .alloc _ | .box .. | .buildSlice .. | .store .. | .makeSlice .. | .makeMap .. | .mapUpdate .. | .insert .. | .mapEntry .. | .entryStore .. | .range .. | .next .. => true
  | .convert _ d _ => match P.underlying d with
    | some (.slice _) => true
    | _ => false
  | .call { callee := .builtin .len, .. } | .call { callee := .builtin .max, .. } | .call { callee := .builtin .min, .. } => false
  | .call _ => true
  | _ => false
/-- Does an operation read the heap? -/
def reader (P : Program) : Op → Bool
  | .load .. | .lookup .. => true
  | .convert s d _ => match P.underlying s, P.underlying d with
    | some (.slice _), some .string => true
    | _, _ => false
  | .call { callee := .builtin .len, argTypes, .. } => match argTypes.toList with
    | [t] => match P.underlying t with
      | some (.map _ _) => true
      | _ => false
    | _ => false
  | _ => false
/-- A method's function, of a type behind an interface, where the receiver is handed on as it is. -/
def methodD (P : Program) (t : TypeId) (name : String) : Option FuncId :=
  match P.info? t, P.underlying t with
  | some i, some (.pointer _) => match i.methods.find? (·.name == name) with
    | some m => match m.func with
      | some (f, true) => if m.path.isEmpty then some f else none
      | _ => none
    | none => none
  | _, _ => none
/-- A call: whom, and with what. -/
def calleeD (P : Program) (ev : Ev) (c : Call) : Option (FuncId × List DV) :=
  match c.callee, evs ev c.args.toList with
  | .value f, some args => match ev f with
    | some (.func (.func f) first captured) => some (f, first ++ args ++ captured)
    | _ => none
  | .invoke r name, some args => match ev r with
    | some (.iface t v) => (methodD P t name).map fun f => (f, v :: args)
    | _ => none
  | _, _ => none
def isCall : Op → Bool
  | .call { callee := .builtin _, .. } => false
  | .call _ => true
  | _ => false
/-- What an operation comes to. -/
def opD (P : Program) (cf : CallF) (o : Oper) (env : List DV) (H : DH) : Option (DV × DH) :=
  match o.op with
  | .call ⟨.value f, as, ts⟩ => match calleeD P (evalO env) ⟨.value f, as, ts⟩ with
    | some (f, args) => cf f args H
    | none => none
  | .call ⟨.invoke r n, as, ts⟩ => match calleeD P (evalO env) ⟨.invoke r n, as, ts⟩ with
    | some (f, args) => cf f args H
    | none => none
  | _ => if mover P o.op then moveD P o (evalO env) H
    else if reader P o.op then (readD P o (evalO env) H).map fun v => (v, H)
    else (pureD P o (evalO env)).map fun v => (v, H)
/-- Operations one behind the other. -/
def runOps (P : Program) (cf : CallF) (all : Array Oper) : List Oper → DSt → Option DSt
  | [], st => some st
  | o :: r, st =>
    if Region.wanted o (dyield all st.env) then
      match opD P cf o st.env st.H with
      | some (v, H) => runOps P cf all r ⟨putD st.env o.dst v, H⟩
      | none => none
    else runOps P cf all r ⟨putD st.env o.dst undefD, st.H⟩
/-! ### a region that draws its order -/
/-- What was read ahead: by which operation, with what in the slots, and what it came to. -/
structure Seen where
  i : Nat
  o : Oper
  env : List DV
  v : DV
/-- Does what was read read the same in another heap? -/
def Seen.still (P : Program) (s : Seen) (H : DH) : Bool :=
  match readD P s.o (evalO s.env) H with
  | some v => DV.beq v s.v
  | none => false
/-- What was read ahead of operation i, of open order with it, reads the same behind it. -/
def stillAll (P : Program) (bi : Nat) (seen : List Seen) (H : DH) : Bool :=
  seen.all fun s => bi.testBit s.i || s.still P H
/-- A heap that an operation of a number changed: ahead of it. -/
structure Was where
  i : Nat
  H : DH
/-- What is read behind operations that changed the heap, of open order with them, read the same ahead of them. -/
def stillWas (P : Program) (bi : Nat) (was : List Was) (s : Seen) : Bool :=
  was.all fun w => bi.testBit w.i || s.still P w.H
def runDraw (P : Program) (cf : CallF) (all : Array Oper) (bef : Array Nat) : List Oper → Nat → List Seen → List Was → DSt → Option DSt
  | [], _, _, _, st => some st
  | o :: r, i, seen, was, st =>
    if Region.wanted o (dyield all st.env) then
      match opD P cf o st.env st.H with
      | some (v, H) =>
        if mover P o.op then
          if stillAll P (bef.getD i 0) seen H then runDraw P cf all bef r (i + 1) seen (⟨i, st.H⟩ :: was) ⟨putD st.env o.dst v, H⟩ else none
        else if reader P o.op then
          if stillWas P (bef.getD i 0) was ⟨i, o, st.env, v⟩ then runDraw P cf all bef r (i + 1) (⟨i, o, st.env, v⟩ :: seen) was ⟨putD st.env o.dst v, H⟩ else none
        else runDraw P cf all bef r (i + 1) seen was ⟨putD st.env o.dst v, H⟩
      | none => none
    else runDraw P cf all bef r (i + 1) seen was ⟨putD st.env o.dst undefD, st.H⟩
def execD (P : Program) (cf : CallF) : Nat → Code → DSt → Option (DExit × DSt)
  | 0, _, _ => none
  | k + 1, c, st => match c with
    | .skip => some (.normal, st)
    | .label _ => some (.normal, st)
    | .ret => some (.ret, st)
    | .exit id => some (.exit id, st)
    | .seq a b => match execD P cf k a st with
      | some (.normal, st') => execD P cf k b st'
      | r => r
    | .cond c x y => match evalO st.env c with
      | some (.bool t) => execD P cf k (if t then x else y) st
      | _ => none
    | .block id c => match execD P cf k c st with
      | some (.exit id', st') => if id' = id then some (.normal, st') else some (.exit id', st')
      | r => r
    | .loop c => match execD P cf k c st with
      | some (.normal, st') => execD P cf k (.loop c) st'
      | r => r
    | .region _ ops false => (runOps P cf ops ops.toList st).map fun st' => (.normal, st')
    | .region _ ops true => (runDraw P cf ops (Region.before ops) ops.toList 0 [] [] st).map fun st' => (.normal, st')
    | _ => none
def resultsD (P : Program) (fn : Func) (st : DSt) : Option DV :=
  match (fn.results.toList.map fun r => match r with
    | .tmp t => some (st.env.getD t undefD)
    | .cell a t => loadD P t st.H (st.env.getD a undefD)) with
  | [v] => v
  | vs => if vs.all Option.isSome then some (.tuple (vs.map fun v => v.getD undefD)) else none
/-- The calls that are told by a table of their own, and all others by their text. -/
abbrev Ext := FuncId → Option (List DV → DH → Option (DV × DH))
def callD (P : Program) (X : Ext) : Nat → CallF
  | 0, _, _, _ => none
  | k + 1, f, args, H => match X f with
    | some g => g args H
    | none => match P.funcs[f]? with
      | some fn => match fn.body with
        | some c => match execD P (callD P X k) (k + 1) c ⟨args ++ List.replicate (fn.ntmps - args.length) undefD, H⟩ with
          | some (.normal, st) | some (.ret, st) => (resultsD P fn st).map fun v => (v, st.H)
          | _ => none
        | none => none
      | none => none
end Go.Det
