/-
  Part 1 of 43 of the proof of SubcorpusSetsSaid, by an abstract machine that stands in for the Go program: lemmas without conditions of their own.
-/
import GoSem.Claims
set_option linter.unusedSimpArgs false
set_option linter.unusedVariables false
namespace Go.VS

/-- Values of the abstract machine. 'sl c g off xs': a slice that nobody writes to, with its elements; c and g name the chain and its generation (who may append in place). 'row r k off len': a slice of a row that is written to; 'k' cells an element. 'ptr': into a variable; 'eptr': into an element of a row; 'cptr': into memory that nobody writes to, with the cells from there on. -/
inductive V where
  | int (k : IntKind) (n : Int)
  | bool (b : Bool)
  | str (l : List Nat)
  | nilsl
  | sl (c g off : Nat) (xs : List V)
  | row (r k off len : Nat)
  | nilptr
  | ptr (o off : Nat)
  | eptr (r k i off : Nat)
  | cptr (c g i off : Nat) (cells : List V)
  | agg (cells : List V)
  | nilmap
  | map (m : Nat)
  | iter (m : Nat)
  | fn (f : Nat) (first caps : List V)
  | nilfn
  | iface (t : Nat) (v : V)
  | niliface
  | tup (vs : List V)

instance : Inhabited V := ⟨.tup []⟩

@[reducible] def V.undef : V := .tup []

def V.cells : V → List V
  | .agg cs => cs
  | v => [v]

/-- May stand in one cell. -/
def V.isCell : V → Bool
  | .agg _ => false
  | .tup _ => false
  | _ => true

def V.isStr : V → Bool
  | .str _ => true
  | _ => false

/-- A value that can be stored. -/
def V.notTup : V → Bool
  | .tup _ => false
  | _ => true

/-- The elements have k cells (asked of the first one; all are alike). -/
def wOk (k : Nat) : List V → Bool
  | [] => true
  | x :: _ => Nat.beq x.cells.length k

inductive Ent where
  | obj (cells : List V)
  | row (xs : List V)
  | tip (g n k : Nat)
  | map (es : List (V × V))
  | siter (l : List Nat) (pos : Nat)
  | miter (m : Option Nat) (seen : List V)

structure St where
  next : Nat
  mem : Nat → Option Ent

def St.set (s : St) (i : Nat) (e : Ent) : St := ⟨s.next, fun j => bif Nat.beq j i then some e else s.mem j⟩
def St.kill (s : St) (i : Nat) : St := ⟨s.next, fun j => bif Nat.beq j i then none else s.mem j⟩
def St.new (s : St) (e : Ent) : St := ⟨s.next + 1, fun j => bif Nat.beq j s.next then some e else s.mem j⟩

abbrev Frame := Nat → V
def Frame.put (F : Frame) (d : Nat) (v : V) : Frame := fun i => bif Nat.beq i d then v else F i
def Frame.putO (F : Frame) (d : Option Nat) (v : V) : Frame := match d with | some d => F.put d v | none => F
def frame (args : List V) : Frame := fun i => args.getD i V.undef

inductive Opd where
  | t (n : Nat)
  | c (v : V)
def Opd.ev (F : Frame) : Opd → V
  | .t n => F n
  | .c v => v

inductive ConvK where
  | ii (k : IntKind)      -- to an integer kind
  | ss                        -- string to string
  | i2s                       -- a code point to a string
  | b2s | r2s                -- bytes, runes to a string
  | s2b (mt : Bool)       -- a string to bytes
  | s2r (mt : Bool)       -- a string to runes

/-- Kinds of plain cells. -/
inductive EK where
  | i | s | b

inductive EqK where
  | bool | sl | ptr | map | fn | ifc
  | agg (ks : List EK)

inductive VOp where
  | mv (x : Opd)
  | pick (c a b : Opd)
  | alloc (z : List V)
  | box (x : Opd)
  | build (z : List V) (parts : List (Nat × Nat × Opd))
  | mksl (mt : Bool) (k : Nat) (z : V) (n : Nat) (parts : List (Nat × Opd))
  | mkrow (mt : Bool) (k by_ : Nat) (z : V) (len cap : Opd)
  | load (k : Nat) (ag : Bool) (a : Opd)
  | store (k : Nat) (a x : Opd)
  | nilck (x : Opd)
  | bin (op : BinOp) (x y : Opd)
  | eq (q : EqK) (neg : Bool) (x y : Opd)
  | un (op : UnOp) (x : Opd)
  | conv (c : ConvK) (x : Opd)
  | mkfn (f : Nat) (first caps : List Opd)
  | mkifc (t : Nat) (x : Opd)
  | slice (st : Bool) (k : Nat) (x : Opd) (lo hi mx : Option Opd)
  | fld (off : Nat) (a : Opd)
  | getf (off k : Nat) (ag : Bool) (x : Opd)
  | idx (k : Nat) (a i : Opd)
  | idxa (n k : Nat) (a i : Opd)
  | idxs (x i : Opd)
  | idxv (n k : Nat) (ag : Bool) (x i : Opd)
  | ext (x : Opd) (i : Nat)
  | len (st : Bool) (x : Opd)
  | append (mt : Bool) (k by_ : Nat) (x y : Opd)
  | copy (k : Nat) (x y : Opd)
  | clear (k : Nat) (z : V) (x : Opd)
  | mm (mx : Bool) (x y : Opd)
  | frz (t : Nat)
  | frzc (a : Opd) (off : Nat)
  | cap (x : Opd)
  | appn (k by_ : Nat) (x n : Opd)
  | rng (x : Opd)
  | nxt (x : Opd)
  | fail
  | call (f : Opd) (args : List Opd)

/-! ### what single operations do -/

def lessN : List Nat → List Nat → Bool
  | _, [] => false
  | [], _ :: _ => true
  | a :: x, b :: y => Nat.blt a b || (Nat.beq a b && lessN x y)

def binInt (op : BinOp) (k : IntKind) (a b : Int) : Option V :=
  match op with
  | .add => some (.int k (k.wrap (a + b)))
  | .sub => some (.int k (k.wrap (a - b)))
  | .mul => some (.int k (k.wrap (a * b)))
  | .quo => if b = 0 then none else some (.int k (k.wrap (a.tdiv b)))
  | .rem => if b = 0 then none else some (.int k (a.tmod b))
  | .and => some (.int k (k.wrap (BitVec.ofInt k.bits a &&& BitVec.ofInt k.bits b).toNat))
  | .or => some (.int k (k.wrap (BitVec.ofInt k.bits a ||| BitVec.ofInt k.bits b).toNat))
  | .xor => some (.int k (k.wrap (BitVec.ofInt k.bits a ^^^ BitVec.ofInt k.bits b).toNat))
  | .andNot => some (.int k (k.wrap (BitVec.ofInt k.bits a &&& ~~~ (BitVec.ofInt k.bits b)).toNat))
  | .eql => some (.bool (a == b))
  | .neq => some (.bool (a != b))
  | .lss => some (.bool (a < b))
  | .leq => some (.bool (a ≤ b))
  | .gtr => some (.bool (a > b))
  | .geq => some (.bool (a ≥ b))
  | _ => none

/-- The greatest length that a string or slice may grow to. -/
def most : Nat := 1073741824

def binStr (op : BinOp) (a b : List Nat) : Option V :=
  match op with
  | .add => if a.length + b.length ≤ most then some (.str (a ++ b)) else none
  | .eql => some (.bool (a == b))
  | .neq => some (.bool (!(a == b)))
  | .lss => some (.bool (lessN a b))
  | .leq => some (.bool (lessN a b || a == b))
  | .gtr => some (.bool (!(lessN a b || a == b)))
  | .geq => some (.bool (!lessN a b))
  | _ => none

def shiftV (op : BinOp) (k : IntKind) (a b : Int) : Option V :=
  if b < 0 then none else
  match op with
  | .shl => some (.int k (k.wrap (a * 2 ^ (min b.toNat k.bits))))
  | .shr => some (.int k (a.fdiv (2 ^ (min b.toNat k.bits))))
  | _ => none

def binV (op : BinOp) (x y : V) : Option V :=
  match op, x, y with
  | .shl, .int k a, .int _ b => shiftV .shl k a b
  | .shr, .int k a, .int _ b => shiftV .shr k a b
  | op, .int k a, .int k' b => if k = k' then binInt op k a b else none
  | op, .str a, .str b => binStr op a b
  | _, _, _ => none

def scalarEq : EK → V → V → Option Bool
  | .i, .int k a, .int k' b => if k = k' then some (a == b) else none
  | .s, .str a, .str b => some (a == b)
  | .b, .bool a, .bool b => some (a == b)
  | _, _, _ => none

def cellsEq : List EK → List V → List V → Option Bool
  | [], [], [] => some true
  | k :: ks, x :: xs, y :: ys =>
    match scalarEq k x y with
    | some true => cellsEq ks xs ys
    | some false => some false
    | none => none
  | _, _, _ => none

def isNil (q : EqK) : V → Option Bool
  | .nilsl => match q with | .sl => some true | _ => none
  | .sl _ _ _ _ => match q with | .sl => some false | _ => none
  | .row _ _ _ _ => match q with | .sl => some false | _ => none
  | .nilptr => match q with | .ptr => some true | _ => none
  | .ptr _ _ => match q with | .ptr => some false | _ => none
  | .eptr _ _ _ _ => match q with | .ptr => some false | _ => none
  | .cptr _ _ _ _ _ => match q with | .ptr => some false | _ => none
  | .nilmap => match q with | .map => some true | _ => none
  | .map _ => match q with | .map => some false | _ => none
  | .nilfn => match q with | .fn => some true | _ => none
  | .fn _ _ _ => match q with | .fn => some false | _ => none
  | .niliface => match q with | .ifc => some true | _ => none
  | .iface _ _ => match q with | .ifc => some false | _ => none
  | _ => none

/-- '==' other than on numbers and strings: bools, structs of plain cells, and anything against nil. -/
def eqV (q : EqK) (x y : V) : Option Bool :=
  match q with
  | .bool => match x, y with | .bool a, .bool b => some (a == b) | _, _ => none
  | .agg ks => match x, y with | .agg a, .agg b => cellsEq ks a b | _, _ => none
  | q =>
    match isNil q x, isNil q y with
    | some true, some b => some b
    | some false, some true => some false
    | _, _ => none

def unV (op : UnOp) (x : V) : Option V :=
  match op, x with
  | .neg, .int k n => some (.int k (k.wrap (0 - n)))
  | .xor, .int k n => binInt .xor k (if k.signed then -1 else k.max) n
  | .not, .bool b => some (.bool (!b))
  | _, _ => none

/-- Cells 'off' to 'off + k' of a variable, as one value. -/
def getCells (cs : List V) (off k : Nat) (ag : Bool) : Option V :=
  if ag then (if off + k ≤ cs.length then some (.agg ((cs.drop off).take k)) else none)
  else cs[off]?

def setCells (cs : List V) (off : Nat) : List V → List V
  | [] => cs
  | x :: xs => setCells (cs.set off x) (off + 1) xs

def loadV (k : Nat) (ag : Bool) (a : V) (s : St) : Option V :=
  match a with
  | .ptr o off => match s.mem o with | some (.obj cs) => getCells cs off k ag | _ => none
  | .eptr r kk i off =>
    match s.mem r with
    | some (.row xs) =>
      match xs[i]? with
      | some x => if x.cells.length = kk then getCells x.cells off k ag else none
      | none => none
    | _ => none
  | .cptr _ _ _ _ cs => getCells cs 0 k ag
  | _ => none

/-- An element with some of its cells set. -/
def putElem (z : V) (off : Nat) (x : V) : Option V :=
  match z with
  | .agg cs => some (.agg (setCells cs off x.cells))
  | _ => if Nat.beq off 0 && x.isCell then some x else none

def storeV (k : Nat) (a x : V) (s : St) : Option St :=
  if Nat.beq x.cells.length k && x.notTup then
    match a with
    | .ptr o off =>
      match s.mem o with
      | some (.obj cs) => if off + k ≤ cs.length then some (s.set o (.obj (setCells cs off x.cells))) else none
      | _ => none
    | .eptr r kk i off =>
      match s.mem r with
      | some (.row xs) =>
        match xs[i]? with
        | some y =>
          if Nat.beq y.cells.length kk && off + k ≤ kk then
            match putElem y off x with
            | some z => some (s.set r (.row (xs.set i z)))
            | none => none
          else none
        | none => none
      | _ => none
    | _ => none
  else none

def asIdx : V → Option Nat
  | .int _ n => if 0 ≤ n then some n.toNat else none
  | _ => none

def idxV (k : Nat) (a i : V) : Option V :=
  match asIdx i with
  | none => none
  | some i =>
    match a with
    | .sl c g off xs =>
      match xs[i]? with
      | some x => if x.cells.length = k then some (.cptr c g (off + i) 0 x.cells) else none
      | none => none
    | .row r kk off len => if i < len && Nat.beq kk k then some (.eptr r k (off + i) 0) else none
    | _ => none

def idxaV (n k : Nat) (a i : V) : Option V :=
  match asIdx i with
  | none => none
  | some i =>
    if i < n then
      match a with
      | .ptr o off => some (.ptr o (off + i * k))
      | .eptr r kk j off => some (.eptr r kk j (off + i * k))
      | .cptr c g j off cs => some (.cptr c g j (off + i * k) (cs.drop (i * k)))
      | _ => none
    else none

def fldV (off : Nat) : V → Option V
  | .ptr o k => some (.ptr o (k + off))
  | .eptr r kk i k => some (.eptr r kk i (k + off))
  | .cptr c g i k cs => some (.cptr c g i (k + off) (cs.drop off))
  | _ => none

def bv (b : Nat) : V := .int .u8 b

/-- The elements of a slice, or the bytes of a string. -/
def elems (x : V) (s : St) : Option (List V) :=
  match x with
  | .nilsl => some []
  | .sl _ _ _ xs => some xs
  | .row r _ off len =>
    match s.mem r with
    | some (.row xs) => if off + len ≤ xs.length then some ((xs.drop off).take len) else none
    | _ => none
  | .str l => some (l.map bv)
  | _ => none

def lenV (x : V) : Option Nat :=
  match x with
  | .nilsl => some 0
  | .sl _ _ _ xs => some xs.length
  | .row _ _ _ n => some n
  | .str l => some l.length
  | _ => none

/-- The row under a slice, if it is one of 'k' cells an element. -/
def rowOk (x : V) (k : Nat) : Bool :=
  match x with
  | .row _ kk _ _ => Nat.beq kk k
  | _ => true

def appendV (mt : Bool) (k by_ : Nat) (x y : V) (s : St) : Option (V × St) :=
  match elems y s with
  | none => none
  | some ys =>
    if wOk k ys && rowOk x k && rowOk y k then
      match x with
      | .nilsl =>
        if ys.isEmpty then some (.nilsl, s)
        else if ys.length ≤ most && by_ ≤ 4096 then
          if mt then some (.row s.next k 0 ys.length, s.new (.row ys))
          else some (.sl s.next 0 0 ys, s.new (.tip 0 ys.length k))
        else none
      | .sl c g off xs =>
        if ys.isEmpty then some (x, s)
        else if xs.length + ys.length ≤ most && by_ ≤ 4096 then
          match s.mem c with
          | some (.tip g' n kk) =>
            if Nat.beq g g' && Nat.beq n xs.length && Nat.beq off 0 && Nat.beq kk k && wOk k xs then
              if mt then
                (if xs.isEmpty then some (.row s.next k 0 ys.length, (s.kill c).new (.row ys)) else none)
              else some (.sl c (g + 1) 0 (xs ++ ys), s.set c (.tip (g + 1) (xs.length + ys.length) k))
            else none
          | _ => none
        else none
      | .row r _ _ len =>
        if ys.isEmpty then some (x, s)
        else
          match elems x s with
          | some xs =>
            if len + ys.length ≤ most && by_ ≤ 4096 then
              some (.row s.next k 0 (len + ys.length), (s.kill r).new (.row (xs ++ ys)))
            else none
          | none => none
      | _ => none
    else none

def sliceV (k : Nat) (x : V) (lo hi mx : Option V) (s : St) : Option (V × St) :=
  match lenV x with
  | none => none
  | some n =>
    match (match hi with | some v => asIdx v | none => some n), (match lo with | some v => asIdx v | none => some 0) with
    | some h, some l =>
      if l ≤ h && h ≤ n then
        match mx with
        | none =>
          match x with
          | .str b => some (.str ((b.take h).drop l), s)
          | .nilsl => some (.nilsl, s)
          | .sl c g off xs => if wOk k xs then some (.sl c g (off + l) ((xs.take h).drop l), s) else none
          | .row r kk off _ => if Nat.beq kk k then some (.row r kk (off + l) (h - l), s) else none
          | _ => none
        | some m =>
          match asIdx m, x with
          | some 0, .nilsl => some (.nilsl, s)
          | some 0, .sl _ _ _ _ => if Nat.beq h 0 then some (.sl s.next 0 0 [], s.new (.tip 0 0 k)) else none
          | some 0, .row _ _ _ _ => if Nat.beq h 0 then some (.sl s.next 0 0 [], s.new (.tip 0 0 k)) else none
          | _, _ => none
      else none
    | _, _ => none

/-- 'make([]T, len, cap)'. -/
def mkrowV (mt : Bool) (k by_ : Nat) (z : V) (len cap : V) (s : St) : Option (V × St) :=
  match asIdx len, asIdx cap with
  | some l, some c =>
    if l ≤ c && c ≤ most && by_ ≤ 4096 then
      if mt then some (.row s.next k 0 l, s.new (.row (List.replicate l z)))
      else some (.sl s.next 0 0 (List.replicate l z), s.new (.tip 0 l k))
    else none
  | _, _ => none

def fillL : List V → List (Nat × V) → Option (List V)
  | xs, [] => some xs
  | xs, (i, v) :: r => if i < xs.length then fillL (xs.set i v) r else none

/-- '[]T{..}'. -/
def mkslV (mt : Bool) (k : Nat) (z : V) (n : Nat) (parts : List (Nat × V)) (s : St) : Option (V × St) :=
  if parts.all (fun p => Nat.beq p.2.cells.length k && p.2.notTup) then
    match fillL (List.replicate n z) parts with
    | some xs =>
      if mt then some (.row s.next k 0 n, s.new (.row xs))
      else some (.sl s.next 0 0 xs, s.new (.tip 0 n k))
    | none => none
  else none

/-- 'T{..}': parts (offset, size, value) laid into zero cells. -/
def buildV (z : List V) : List (Nat × Nat × V) → Option (List V)
  | [] => some z
  | (off, k, v) :: r => if Nat.beq v.cells.length k && v.notTup && off + k ≤ z.length then buildV (setCells z off v.cells) r else none

def copyV (k : Nat) (x y : V) (s : St) : Option (V × St) :=
  match elems y s, x with
  | some _, .nilsl => some (.int .i64 0, s)
  | some ys, .row r kk off len =>
    match s.mem r with
    | some (.row xs) =>
      if Nat.beq kk k && off + len ≤ xs.length && wOk k ys && rowOk y k then
        some (.int .i64 (min ys.length len : Nat), s.set r (.row (xs.take off ++ ys.take len ++ xs.drop (off + min ys.length len))))
      else none
    | _ => none
  | _, _ => none

def clearV (k : Nat) (z : V) (x : V) (s : St) : Option (V × St) :=
  match x with
  | .nilsl => some (V.undef, s)
  | .row r kk off len =>
    match s.mem r with
    | some (.row xs) =>
      if Nat.beq kk k && off + len ≤ xs.length then
        some (V.undef, s.set r (.row (xs.take off ++ List.replicate len z ++ xs.drop (off + len))))
      else none
    | _ => none
  | _ => none

def mmV (mx : Bool) (x y : V) : Option V :=
  match x, y with
  | .int k a, .int k' b => if k = k' then some (.int k (if mx then (if b > a then b else a) else (if b < a then b else a))) else none
  | _, _ => none

def byteAt : V → Option Nat
  | .int .u8 n => some (n.toNat % 256)
  | _ => none

def bytesV : List V → Option (List Nat)
  | [] => some []
  | x :: xs => match byteAt x, bytesV xs with | some b, some l => some (b :: l) | _, _ => none

def convV (c : ConvK) (x : V) (s : St) : Option (V × St) :=
  match c, x with
  | .ii k, .int _ n => some (.int k (k.wrap n), s)
  | .ss, .str l => some (.str l, s)
  | .b2s, x => match elems x s with | some xs => (match bytesV xs with | some l => some (.str l, s) | none => none) | none => none
  | .s2b mt, .str l =>
    if l.length ≤ most then
      if mt then some (.row s.next 1 0 l.length, s.new (.row (l.map bv)))
      else some (.sl s.next 0 0 (l.map bv), s.new (.tip 0 l.length 1))
    else none
  | _, _ => none

def freezeV (x : V) (s : St) : Option (V × St) :=
  match x with
  | .row r k _ _ =>
    match elems x s with
    | some xs => some (.sl s.next 0 0 xs, (s.kill r).new (.tip 0 xs.length k))
    | none => none
  | x => some (x, s)

/-- The row in a cell becomes a slice that nobody writes to. -/
def frzcV (a : V) (d : Nat) (s : St) : Option St :=
  match a with
  | .ptr o p =>
    match s.mem o with
    | some (.obj cells) =>
      match cells[p + d]? with
      | some x =>
        match freezeV x s with
        | some (v, s1) =>
          match s1.mem o with
          | some (.obj cells') => if v.isCell && Nat.blt o s1.next then some (s1.set o (.obj (cells'.set (p + d) v))) else none
          | _ => none
        | none => none
      | none => none
    | _ => none
  | _ => none

def idxsV (x i : V) : Option V :=
  match x, asIdx i with
  | .str l, some i => match l[i]? with | some b => some (.int .u8 b) | none => none
  | _, _ => none

def idxvV (n k : Nat) (ag : Bool) (x i : V) : Option V :=
  match x, asIdx i with
  | .agg cs, some i => if i < n then getCells cs (i * k) k ag else none
  | _, _ => none

/-- The bytes of a string, as the model keeps them. -/
def toB (l : List Nat) : ByteArray := ⟨(l.map UInt8.ofNat).toArray⟩

/-- The next unit of a string that is ranged over. -/
def nxtV (x : V) (s : St) : Option (V × St) :=
  match x with
  | .iter m =>
    match s.mem m with
    | some (.siter l pos) =>
      if pos < l.length then some (.tup [.bool true, .int .i64 pos, .int .i32 (Utf8.decode (toB l) pos).1], s.set m (.siter l (pos + (Utf8.decode (toB l) pos).2)))
      else some (.tup [.bool false], s)
    | _ => none
  | _ => none

/-- The operations that are no call. -/
def opS (o : VOp) (F : Frame) (s : St) : Option (V × St) :=
  match o with
  | .mv x => some (x.ev F, s)
  | .pick c a b => match c.ev F with | .bool true => some (a.ev F, s) | .bool false => some (b.ev F, s) | _ => none
  | .alloc z => some (.ptr s.next 0, s.new (.obj z))
  | .box x => if (x.ev F).notTup then some (.ptr s.next 0, s.new (.obj (x.ev F).cells)) else none
  | .build z ps => match buildV z (ps.map fun p => (p.1, p.2.1, p.2.2.ev F)) with | some cs => some (.agg cs, s) | none => none
  | .mksl mt k z n ps => mkslV mt k z n (ps.map fun p => (p.1, p.2.ev F)) s
  | .mkrow mt k by_ z l c => mkrowV mt k by_ z (l.ev F) (c.ev F) s
  | .load k ag a => match loadV k ag (a.ev F) s with | some v => some (v, s) | none => none
  | .store k a x => match storeV k (a.ev F) (x.ev F) s with | some s => some (V.undef, s) | none => none
  | .nilck x => match isNil .ptr (x.ev F) with | some false => some (x.ev F, s) | _ => none
  | .bin op x y => match binV op (x.ev F) (y.ev F) with | some v => some (v, s) | none => none
  | .eq q ng x y => match eqV q (x.ev F) (y.ev F) with | some b => some (.bool (bif ng then !b else b), s) | none => none
  | .un op x => match unV op (x.ev F) with | some v => some (v, s) | none => none
  | .conv c x => convV c (x.ev F) s
  | .mkfn f a b => some (.fn f (a.map (Opd.ev F)) (b.map (Opd.ev F)), s)
  | .mkifc t x => some (.iface t (x.ev F), s)
  | .slice st k x lo hi mx => if (x.ev F).isStr == st then sliceV k (x.ev F) (lo.map (Opd.ev F)) (hi.map (Opd.ev F)) (mx.map (Opd.ev F)) s else none
  | .fld off a => match fldV off (a.ev F) with | some v => some (v, s) | none => none
  | .getf off k ag x => match x.ev F with | .agg cs => (match getCells cs off k ag with | some v => some (v, s) | none => none) | _ => none
  | .idx k a i => match idxV k (a.ev F) (i.ev F) with | some v => some (v, s) | none => none
  | .idxa n k a i => match idxaV n k (a.ev F) (i.ev F) with | some v => some (v, s) | none => none
  | .idxs x i => match idxsV (x.ev F) (i.ev F) with | some v => some (v, s) | none => none
  | .idxv n k ag x i => match idxvV n k ag (x.ev F) (i.ev F) with | some v => some (v, s) | none => none
  | .ext x i => match x.ev F with | .tup vs => (match vs[i]? with | some v => some (v, s) | none => none) | _ => none
  | .len st x => if (x.ev F).isStr == st then (match lenV (x.ev F) with | some n => some (.int .i64 n, s) | none => none) else none
  | .append mt k by_ x y => appendV mt k by_ (x.ev F) (y.ev F) s
  | .copy k x y => copyV k (x.ev F) (y.ev F) s
  | .clear k z x => clearV k z (x.ev F) s
  | .mm mx x y => match mmV mx (x.ev F) (y.ev F) with | some v => some (v, s) | none => none
  | .cap x => match x.ev F with | .nilsl => some (.int .i64 0, s) | _ => none
  | .appn k by_ x n =>
    match x.ev F, n.ev F with
    | .nilsl, .int .i64 m => if decide (0 < m) && decide (m ≤ (most : Int)) && decide (by_ ≤ 4096) then some (.row s.next k 0 m.toNat, s.new (.row [])) else none
    | _, _ => none
  | .rng x => match x.ev F with | .str l => some (.iter s.next, s.new (.siter l 0)) | _ => none
  | .nxt x => nxtV (x.ev F) s
  | .frz _ | .frzc _ _ | .call _ _ | .fail => none

/-! ### code -/

/-- What must stand behind an operation as before it: a load's value, an entity. -/
inductive Chk where
  | ld (k : Nat) (ag : Bool) (a : Opd)
  | ent (a : Opd)

def V.ent : V → Option Nat
  | .sl c _ _ _ => some c
  | .row r _ _ _ => some r
  | .ptr o _ => some o
  | _ => none

def Chk.ok (F : Frame) (s s' : St) : Chk → Prop
  | .ld k ag a => loadV k ag (a.ev F) s' = loadV k ag (a.ev F) s
  | .ent a => match (a.ev F).ent with | some i => s'.mem i = s.mem i | none => True

structure Lo where
  d : Option Nat
  op : VOp
  gd : Option (Nat × Bool)
  chk : List Chk

@[reducible] def o (d : Nat) (op : VOp) : Lo := ⟨some d, op, none, []⟩
@[reducible] def og (d : Nat) (g : Nat) (w : Bool) (op : VOp) : Lo := ⟨some d, op, some (g, w), []⟩
@[reducible] def o_ (op : VOp) : Lo := ⟨none, op, none, []⟩
@[reducible] def og_ (g : Nat) (w : Bool) (op : VOp) : Lo := ⟨none, op, some (g, w), []⟩

def Lo.wanted (l : Lo) (F : Frame) : Bool :=
  match l.gd with
  | none => true
  | some (g, w) => match F g with | .bool b => b == w | _ => false

/-- The operations of a region whose order is drawn, where more than one that counts may come up. -/
inductive Tree where
  | nil
  | cons (l : Lo) (r : Tree)
  | fork (a b : Tree)

def Tree.app : List Lo → Tree → Tree
  | [], t => t
  | l :: r, t => .cons l (Tree.app r t)

inductive Code where
  | skip
  | ret
  | exit (n : Nat)
  | ops (l : List Lo)
  | tree (t : Tree)
  | seq (a b : Code)
  | cond (c : Opd) (a b : Code)
  | block (n : Nat) (a : Code)
  | loop (a : Code)

inductive Exit where
  | normal
  | ret
  | exit (n : Nat)

abbrev Post := Exit → Frame → St → Prop

inductive ResV where
  | t (n : Nat)
  | cell (a k : Nat) (ag : Bool)

structure VFn where
  nargs : Nat
  ntmps : Nat
  res : List ResV
  code : Code

inductive FnDef where
  | body (fn : VFn)
  | prim (g : List V → St → Option (V × St))

def ResV.get (F : Frame) (s : St) : ResV → Option V
  | .t n => some (F n)
  | .cell a k ag => loadV k ag (F a) s

def resAll (F : Frame) (s : St) : List ResV → Option (List V)
  | [] => some []
  | r :: rs => match r.get F s, resAll F s rs with | some v, some l => some (v :: l) | _, _ => none

def resV (l : List V) : V := match l with | [v] => v | l => .tup l

def retK (fn : VFn) (K : V → St → Prop) : Post := fun e F s =>
  match e with
  | .exit _ => False
  | _ => match resAll F s fn.res with | some l => K (resV l) s | none => False

def seqK (d : Frame → St → Prop) (Q : Post) : Post := fun e F s =>
  match e with
  | .normal => d F s
  | e => Q e F s

def blockK (n : Nat) (Q : Post) : Post := fun e F s =>
  match e with
  | .exit m => bif Nat.beq m n then Q .normal F s else Q (.exit m) F s
  | e => Q e F s

inductive J where
  | call (f : Nat) (args : List V) (s : St) (K : V → St → Prop)
  | code (c : Code) (F : Frame) (s : St) (Q : Post)
  | ops (l : List Lo) (F : Frame) (s : St) (K : Frame → St → Prop)
  | tree (t : Tree) (F : Frame) (s : St) (K : Frame → St → Prop)

/-- The judgement: the run ends, and however it goes, the post holds of its end. -/
inductive D (T : Nat → Option FnDef) : J → Prop where
  | body {f fn args s K} (h : T f = some (.body fn)) (hn : args.length = fn.nargs) (hb : D T (.code fn.code (frame args) s (retK fn K))) : D T (.call f args s K)
  | prim {f g args s K v s'} (h : T f = some (.prim g)) (he : g args s = some (v, s')) (hK : K v s') : D T (.call f args s K)
  | skip {F s Q} (h : Q .normal F s) : D T (.code .skip F s Q)
  | ret {F s Q} (h : Q .ret F s) : D T (.code .ret F s Q)
  | exit {n F s Q} (h : Q (.exit n) F s) : D T (.code (.exit n) F s Q)
  | opsc {l F s Q K} (h : D T (.ops l F s K)) (hK : ∀ F s, K F s → Q .normal F s) : D T (.code (.ops l) F s Q)
  | seq {a b F s Q R} (h : D T (.code a F s R)) (hn : ∀ F s, R .normal F s → D T (.code b F s Q)) (he : ∀ e F s, e ≠ .normal → R e F s → Q e F s) : D T (.code (.seq a b) F s Q)
  | condT {c a b F s Q} (hc : c.ev F = .bool true) (h : D T (.code a F s Q)) : D T (.code (.cond c a b) F s Q)
  | condF {c a b F s Q} (hc : c.ev F = .bool false) (h : D T (.code b F s Q)) : D T (.code (.cond c a b) F s Q)
  | block {n a F s Q} (h : D T (.code a F s (blockK n Q))) : D T (.code (.block n a) F s Q)
  | loop {a F s Q R} (h : D T (.code a F s R)) (hn : ∀ F s, R .normal F s → D T (.code (.loop a) F s Q)) (he : ∀ e F s, e ≠ .normal → R e F s → Q e F s) : D T (.code (.loop a) F s Q)
  | nil {F s K} (h : K F s) : D T (.ops [] F s K)
  | treec {t F s Q K} (h : D T (.tree t F s K)) (hK : ∀ F s, K F s → Q .normal F s) : D T (.code (.tree t) F s Q)
  | tnil {F s K} (h : K F s) : D T (.tree .nil F s K)
  | tcons {l r F s K R} (h : D T (.ops [l] F s R)) (hr : ∀ F s, R F s → D T (.tree r F s K)) : D T (.tree (.cons l r) F s K)
  | fork {a b F s K} (ha : D T (.tree a F s K)) (hb : D T (.tree b F s K)) : D T (.tree (.fork a b) F s K)
  | skipped {l r F s K} (hw : l.wanted F = false) (h : D T (.ops r (F.putO l.d V.undef) s K)) : D T (.ops (l :: r) F s K)
  | step {l r F s K v s'} (hw : l.wanted F = true) (h : opS l.op F s = some (v, s')) (hc : ∀ k ∈ l.chk, k.ok F s s') (hr : D T (.ops r (F.putO l.d v) s' K)) : D T (.ops (l :: r) F s K)
  | frz {l r F s K t v s'} (hw : l.wanted F = true) (h : l.op = .frz t) (hf : freezeV (F t) s = some (v, s')) (hc : l.chk = []) (hd : l.d = none) (hr : D T (.ops r (F.put t v) s' K)) : D T (.ops (l :: r) F s K)
  | frzc {l r F s K a d s'} (hw : l.wanted F = true) (h : l.op = .frzc a d) (hf : frzcV (a.ev F) d s = some s') (hc : l.chk = []) (hd : l.d = none) (hr : D T (.ops r F s' K)) : D T (.ops (l :: r) F s K)
  | call {l r F s K f args id fi ca R} (hw : l.wanted F = true) (h : l.op = .call f args) (hf : f.ev F = .fn id fi ca) (hcall : D T (.call id (fi ++ args.map (Opd.ev F) ++ ca) s R))
      (hc : ∀ v s', R v s' → ∀ k ∈ l.chk, k.ok F s s')
      (hr : ∀ v s', R v s' → D T (.ops r (F.putO l.d v) s' K)) : D T (.ops (l :: r) F s K)

end Go.VS
