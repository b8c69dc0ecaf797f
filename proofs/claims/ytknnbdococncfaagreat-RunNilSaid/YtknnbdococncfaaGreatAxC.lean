/- Part C: the small code is resolved out of the program's; what the operations do, abstractly. -/
import Derived.Test.YtknnbdococncfaaGreatAxB
namespace Go.Ax
open Go
noncomputable section

def c24 : Nat := 16777216
/-! ### Resolving -/
def constV : Value → Option V
  | .bool b => some (.bool b)
  | .int k n => some (.int k n)
  | .float k b => some (.float k b)
  | .string s => some (.str s.data.toList)
  | .pointer none => some .nilp
  | .slice none 0 0 => some .nils
  | .map none => some .nilm
  | .nilFunc => some .nilf
  | .nilIface => some .nili
  | .agg cs => match cs.toList.mapM fun
      | .bool b => some (.bool b)
      | .int k n => some (.int k n)
      | .float k b => some (.float k b)
      | .string s => some (.str s.data.toList)
      | .pointer none => some .nilp
      | .slice none 0 0 => some .nils
      | .map none => some .nilm
      | .nilFunc => some .nilf
      | .nilIface => some .nili
      | _ => (none : Option V) with
    | some l => some (.agg l)
    | none => none
  | _ => none
def rsArg : Operand → Option IArg
  | .tmp t => some (.t t)
  | .const v => (constV v).map .c
  | .global g => some (.g g)
  | .func f => some (.c (.func f []))
section
variable (P : Program)
def szOf (t : TypeId) : Option Nat := (P.info? t).map (·.size)
def bytesOf' (t : TypeId) : Option Nat := (P.info? t).map (·.bytes)
def aggD : TypeDesc → Bool
  | .struct _ | .array _ _ => true
  | _ => false
def aggOf (t : TypeId) : Option Bool := (P.underlying t).map aggD
def zeroV (t : TypeId) : Option V := ((P.info? t).bind (·.zero)).bind constV
def zeroCells' (t : TypeId) : Option (List V) := match zeroV P t with
  | some z => if z.cells.all V.one then some z.cells else none
  | none => none
def scalarK (t : TypeId) : Option Nat := match P.underlying t with
  | some .bool => some 0
  | some (.int _) => some 1
  | some .string => some 2
  | _ => none
/-- A struct whose fields are bools, numbers, strings, one behind the other: of which kinds. -/
def flatS (t : TypeId) : Option (List Nat) := match P.underlying t with
  | some (.struct fs) =>
    if fs.toList.zipIdx.all (fun p => p.1.name != "_" && p.1.offset == p.2) && P.eqGuardType P.depth t == false && P.stoodInHeld t == false then fs.toList.mapM (fun f => scalarK P f.type) else none
  | _ => none
def kmOf (t : TypeId) : Option KM := match P.underlying t with
  | some (.int _) => some .num
  | some .string => some .text
  | _ => (flatS P t).map .flat
def rsArgs (xs : Array Operand) : Option (List IArg) := xs.toList.mapM rsArg
def rsOpt : Option Operand → Option (Option IArg)
  | none => some none
  | some x => (rsArg x).map some
def constP : List (Nat × IArg) → Bool
  | [] => true
  | (_, .c _) :: l => constP l
  | _ => false
/-- A row of constants, of two or more: it is looked at alone. -/
def bslOp (sz len : Nat) (z : List V) (ps : List (Nat × IArg)) : IOp := bif Nat.beq sz 1 && (Nat.ble 2 len && constP ps) then .fslc sz len z ps else .bslice sz len z ps
def rsOp (o : Op) : Option IOp :=
  match o with
  | .move x | .assign x => do pure (.mv (← rsArg x))
  | .pick c x y => do pure (.pick (← rsArg c) (← rsArg x) (← rsArg y))
  | .alloc t => do pure (.alloc (← zeroCells' P t))
  | .box _ x => do pure (.box (← rsArg x))
  | .build t parts => do
    let z ← zeroCells' P t
    match P.underlying t with
    | some (.struct fs) =>
      let pl ← fs.toList.mapM fun f => do pure (f.offset, ← szOf P f.type)
      let ps ← parts.toList.mapM fun p => do
        let (off, n) ← pl[p.1]?
        pure (off, n, ← rsArg p.2)
      pure (.build z ps)
    | _ => none
  | .buildSlice t len parts => do
    match P.underlying t with
    | some (.slice e) =>
      let n ← szOf P e
      if n = 0 || !Nat.ble (len * n) c24 then none else
      let z ← zeroCells' P e
      if z.length ≠ n then none else
      let ps ← parts.toList.mapM fun p => do pure (p.1, ← rsArg p.2)
      pure (bslOp n len z ps)
    | _ => none
  | .load t a => do pure (.load (← aggOf P t) (← szOf P t) (← rsArg a))
  | .store t a x => do pure (.store (← szOf P t) (← rsArg a) (← rsArg x))
  | .nilCheck x => do pure (.nilck (← rsArg x))
  | .binOp op t x y _ =>
    match P.underlying t with
    | some (.int _) | some .string | some (.float _) => do pure (.bin op (← rsArg x) (← rsArg y))
    | some .bool => match op with
      | .eql => do pure (.eqk 0 false (← rsArg x) (← rsArg y))
      | .neq => do pure (.eqk 0 true (← rsArg x) (← rsArg y))
      | _ => none
    | some (.pointer _) => match op with
      | .eql => do pure (.eqk 1 false (← rsArg x) (← rsArg y))
      | .neq => do pure (.eqk 1 true (← rsArg x) (← rsArg y))
      | _ => none
    | some (.slice _) => match op with
      | .eql => do pure (.eqk 2 false (← rsArg x) (← rsArg y))
      | .neq => do pure (.eqk 2 true (← rsArg x) (← rsArg y))
      | _ => none
    | some (.struct _) => match op with
      | .eql => do pure (.eqs false (← flatS P t) (← rsArg x) (← rsArg y))
      | .neq => do pure (.eqs true (← flatS P t) (← rsArg x) (← rsArg y))
      | _ => none
    | _ => none
  | .unOp op _ x => do pure (.un op (← rsArg x))
  | .convert src dst x =>
    match P.underlying src, P.underlying dst with
    | some (.int _), some (.int k) => do pure (.cint k (← rsArg x))
    | some .string, some .string => do pure (.cid (← rsArg x))
    | some (.slice e), some .string => match P.underlying e with
      | some (.int .u8) => do pure (.b2s (← rsArg x))
      | _ => none
    | _, _ => none
  | .field t x i =>
    match P.underlying t with
    | some (.struct fs) => do
      let f ← fs[i]?
      pure (.fld (← aggOf P f.type) f.offset (← szOf P f.type) (← rsArg x))
    | _ => none
  | .fieldAddr t a i =>
    match P.underlying t with
    | some (.struct fs) => do
      let f ← fs[i]?
      let n ← szOf P f.type
      if n = 0 then none else
      pure (.fadr (← aggOf P f.type) f.offset n (← rsArg a))
    | _ => none
  | .indexAddr t x i =>
    match P.underlying t with
    | some (.slice e) => do
      let n ← szOf P e
      if n = 0 then none else
      pure (.iadr n (← rsArg x) (← rsArg i))
    | some (.array len e) => do
      let n ← szOf P e
      if n = 0 then none else
      pure (.iadrA (← aggOf P e) len n (← rsArg x) (← rsArg i))
    | _ => none
  | .index t x i =>
    match P.underlying t with
    | some .string => do pure (.idxS (← rsArg x) (← rsArg i))
    | some (.array len e) => do pure (.idxA (← aggOf P e) len (← szOf P e) (← rsArg x) (← rsArg i))
    | _ => none
  | .slice t x lo hi none =>
    match P.underlying t with
    | some .string => do pure (.slcS (← rsArg x) (← rsOpt lo) (← rsOpt hi))
    | some (.slice e) => do
      let n ← szOf P e
      if n = 0 then none else
      pure (.slc n (← rsArg x) (← rsOpt lo) (← rsOpt hi))
    | _ => none
  | .extract x i => do pure (.ext (← rsArg x) i)
  | .call c =>
    match c.callee with
    | .value (.func f) =>
      match P.funcs[f]? with
      | some fn => if fn.name == "runtime.NumGoroutine" || fn.body.isNone then none else do pure (.call f (← rsArgs c.args))
      | none => none
    | .value x => do pure (.callv (← rsArg x) (← rsArgs c.args))
    | .builtin .len =>
      match (c.argTypes[0]?).bind P.underlying with
      | some .string => match c.args.toList with
        | [x] => do pure (.len true (← rsArg x))
        | _ => none
      | some (.slice _) => match c.args.toList with
        | [x] => do pure (.len false (← rsArg x))
        | _ => none
      | some (.map _ _) => match c.args.toList with
        | [x] => do pure (.mlen (← rsArg x))
        | _ => none
      | _ => none
    | .builtin .append =>
      match (c.argTypes[0]?).bind P.underlying, (c.argTypes[1]?).bind P.underlying with
      | some (.slice _), some (.int _) => none
      | some (.slice e), some _ => do
        let n ← szOf P e
        let b ← bytesOf' P e
        let z ← zeroCells' P e
        if n = 0 || b = 0 || b > 1048576 || z.length ≠ n then none else
        match c.args.toList with
        | [x, y] => do pure (.app n b (← rsArg x) (← rsArg y))
        | _ => none
      | _, _ => none
    | .builtin .max => do pure (.mx false (← rsArgs c.args))
    | .builtin .min => do pure (.mx true (← rsArgs c.args))
    | _ => none
  | .makeFunc (.func f) first cap => if first.isEmpty then do pure (.mkf f (← rsArgs cap)) else none
  | .makeMap _ none => some .mkmap
  | .lookup t x k ok =>
    match P.underlying t with
    | some (.map kt e) => do pure (.lookup (← kmOf P kt) (← zeroV P e) (← rsArg x) (← rsArg k) ok)
    | _ => none
  | .mapUpdate t x k v =>
    match P.underlying t with
    | some (.map kt _) => do pure (.mapset (← kmOf P kt) (← rsArg x) (← rsArg k) (← rsArg v))
    | _ => none
  | .makeSlice t l c =>
    match P.underlying t with
    | some (.slice e) => do
      let n ← szOf P e
      let b ← bytesOf' P e
      let z ← zeroCells' P e
      if n = 0 || b = 0 || b > 1048576 || z.length ≠ n then none else
      pure (.mksl n b z (← rsArg l) (← rsArg c))
    | _ => none
  | _ => none
def isCallO : Op → Bool
  | .call { callee := .value _, .. } => true
  | _ => false
def isCallI : IOp → Bool
  | .call .. | .callv .. => true
  | _ => false
/-- What cannot be resolved is 'bad': it stops a run that comes to it, and no other. -/
def rsOper (ops : Array Oper) (o : Oper) : Option IOper :=
  let op := match rsOp P o.op with
    | some op => if isCallI op != isCallO o.op then .bad else op
    | none => .bad
  match o.guard with
  | none => some ⟨o.dst, op, none⟩
  | some (j, want) => some ⟨o.dst, op, some ((ops[j]?).bind (·.dst), want)⟩
end

/-! ### Doing -/
abbrev Ev := IArg → V
def evalA (G E : T V) : Ev
  | .t n => (E.get n).getD .any
  | .c v => v
  | .g n => (G.get n).getD .any

def c63 : Nat := 9223372036854775808
def c64 : Nat := 18446744073709551616
/-- 'wrap', the everyday case first. -/
def inR : IntKind → Int → Bool
  | .i64, .ofNat m => Nat.blt m c63
  | .i64, .negSucc m => Nat.blt m c63
  | .u64, .ofNat m => Nat.blt m c64
  | .u8, .ofNat m => Nat.blt m 256
  | _, _ => false
def wrapF (k : IntKind) (n : Int) : Int := bif inR k n then n else k.wrap n
def bytesLt : List UInt8 → List UInt8 → Bool
  | _, [] => false
  | [], _ :: _ => true
  | a :: x, b :: y => a < b || (a == b && bytesLt x y)
def binI (op : BinOp) (k : IntKind) (a b : Int) : Option V :=
  match op with
  | .add => some (.int k (wrapF k (a + b)))
  | .sub => some (.int k (wrapF k (a - b)))
  | .mul => some (.int k (wrapF k (a * b)))
  | .quo => bif b == 0 then none else some (.int k (wrapF k (a.tdiv b)))
  | .rem => bif b == 0 then none else some (.int k (a.tmod b))
  | .and => some (.int k (k.wrap (BitVec.ofInt k.bits a &&& BitVec.ofInt k.bits b).toNat))
  | .or => some (.int k (k.wrap (BitVec.ofInt k.bits a ||| BitVec.ofInt k.bits b).toNat))
  | .xor => some (.int k (k.wrap (BitVec.ofInt k.bits a ^^^ BitVec.ofInt k.bits b).toNat))
  | .andNot => some (.int k (k.wrap (BitVec.ofInt k.bits a &&& ~~~ BitVec.ofInt k.bits b).toNat))
  | .eql => some (.bool (a == b))
  | .neq => some (.bool (a != b))
  | .lss => some (.bool (a < b))
  | .leq => some (.bool (a ≤ b))
  | .gtr => some (.bool (a > b))
  | .geq => some (.bool (a ≥ b))
  | _ => none
def binV (op : BinOp) (x y : V) : Option V :=
  match x, y with
  | .int k a, .int k' b =>
    match op with
    | .shl => bif b < 0 then none else some (.int k (wrapF k (a * 2 ^ (min b.toNat k.bits))))
    | .shr => bif b < 0 then none else some (.int k (a.fdiv (2 ^ (min b.toNat k.bits))))
    | _ => if k = k' then binI op k a b else none
  | .str a, .str b =>
    match op with
    | .add => bif Nat.blt (a.length + b.length) c63 then some (.str (a ++ b)) else none
    | .eql => some (.bool (a == b))
    | .neq => some (.bool !(a == b))
    | .lss => some (.bool (bytesLt a b))
    | .leq => some (.bool (bytesLt a b || a == b))
    | .gtr => some (.bool !(bytesLt a b || a == b))
    | .geq => some (.bool !(bytesLt a b))
    | _ => none
  | _, _ => none
def isNilk (kind : Nat) (x y : V) : Option Bool :=
  match kind, x, y with
  | 0, .bool a, .bool b => some (a == b)
  | 1, .nilp, .nilp => some true
  | 1, .nilp, .ptr _ _ | 1, .nilp, .fptr _ | 1, .ptr _ _, .nilp | 1, .fptr _, .nilp => some false
  | 2, .nils, .nils => some true
  | 2, .nils, .sref .. | 2, .nils, .fsl _ | 2, .sref .., .nils | 2, .fsl _, .nils => some false
  | _, _, _ => none
def sEq (k : Nat) (x y : V) : Option Bool := match k, x, y with
  | 1, .int k a, .int k' b => if k = k' then some (a == b) else none
  | 0, .bool a, .bool b => some (a == b)
  | 2, .str a, .str b => some (a == b)
  | _, _, _ => none
def sEqs : List Nat → List V → List V → Option Bool
  | [], [], [] => some true
  | k :: ks, x :: xs, y :: ys => match sEq k x y with
    | some true => sEqs ks xs ys
    | some false => some false
    | none => none
  | _, _, _ => none
def subV (agg : Bool) (cs : List V) (off n : Nat) : Option V :=
  bif agg then (bif Nat.ble (off + n) cs.length then some (.agg ((cs.drop off).take n)) else none) else cs[off]?
def evInt (v : V) : Option Int := match v with | .int _ n => some n | _ => none
def cutOne (ev : Ev) (dflt most : Nat) : Option IArg → Option Nat
  | none => some dflt
  | some x => match ev x with | .int _ n => if 0 ≤ n ∧ n ≤ most then some n.toNat else none | _ => none
/-- The bounds of a cut. -/
def cutB (ev : Ev) (len : Nat) (lo hi : Option IArg) : Option (Nat × Nat) :=
  match cutOne ev len len hi with
  | none => none
  | some h => match cutOne ev 0 h lo with
    | none => none
    | some l => some (l, h)
def evs (ev : Ev) (xs : List IArg) : List V := xs.map ev
def mx2 (mn : Bool) (x y : V) : Option V := match x, y with
  | .int k a, .int _ b => some (.int k (if (if mn then b < a else b > a) then b else a))
  | _, _ => none
def mxs (mn : Bool) : List V → V → Option V
  | [], x => some x
  | y :: ys, x => match mx2 mn x y with | some z => mxs mn ys z | none => none
def putAt (cs : List V) (off : Nat) : List V → List V
  | [] => cs
  | x :: xs => putAt (cs.set off x) (off + 1) xs
def fillV (ev : Ev) : List V → List (Nat × Nat × IArg) → Option (List V)
  | cs, [] => some cs
  | cs, (off, n, x) :: r =>
    bif Nat.beq (ev x).cells.length n && Nat.ble (off + n) cs.length && (ev x).cells.all V.one then fillV ev (putAt cs off (ev x).cells) r else none
def repV (z : List V) : Nat → List V
  | 0 => []
  | n + 1 => z ++ repV z n

/-- The operations that look at no memory. -/
def pureOp (ev : Ev) : IOp → Option V
  | .mv x => some (ev x)
  | .pick c x y => match ev c with | .bool b => some (bif b then ev x else ev y) | _ => none
  | .build z ps => match fillV ev z ps with | some cs => some (.agg cs) | none => none
  | .nilck x => match ev x with
    | .ptr b o => some (.ptr b o) | .fptr v => some (.fptr v)
    | .func f c => some (.func f c) | .yld l => some (.yld l)
    | _ => none
  | .bin op x y => binV op (ev x) (ev y)
  | .eqk k neg x y => match isNilk k (ev x) (ev y) with | some b => some (.bool (neg ^^ b)) | none => none
  | .eqs neg ks x y => match ev x, ev y with
    | .agg xs, .agg ys => match sEqs ks xs ys with | some b => some (.bool (neg ^^ b)) | none => none
    | _, _ => none
  | .un op x => match op, ev x with
    | .not, .bool b => some (.bool !b)
    | .neg, .int k n => some (.int k (wrapF k (0 - n)))
    | _, _ => none
  | .cint k x => match ev x with | .int _ n => some (.int k (wrapF k n)) | _ => none
  | .cid x => match ev x with | .str s => some (.str s) | _ => none
  | .fld g off n x => match ev x with | .agg cs => subV g cs off n | _ => none
  | .fadr g off n a => match ev a with
    | .ptr b o => some (.ptr b (o + off))
    | .fptr (.agg cs) => match subV g cs off n with | some v => bif g || v.one then some (.fptr v) else none | none => none
    | _ => none
  | .iadr sz x i => match ev x, ev i with
    | .sref b off len s, .int _ i => if 0 ≤ i ∧ i < len ∧ s = sz then some (.ptr b (off + i.toNat * sz)) else none
    | .fsl es, .int _ i => if 0 ≤ i then (match es[i.toNat]? with | some d => (bif Nat.beq d.cells.length sz then some (.fptr d) else none) | none => none) else none
    | _, _ => none
  | .iadrA g len sz x i => match ev x, ev i with
    | .ptr b off, .int _ i => if 0 ≤ i ∧ i < len then some (.ptr b (off + i.toNat * sz)) else none
    | .fptr (.agg cs), .int _ i => if 0 ≤ i ∧ i < len then (match subV g cs (i.toNat * sz) sz with | some v => (bif g || v.one then some (.fptr v) else none) | none => none) else none
    | _, _ => none
  | .idxS x i => match ev x, ev i with
    | .str s, .int _ i => if 0 ≤ i then (match s[i.toNat]? with | some b => some (.int .u8 b.toNat) | none => none) else none
    | _, _ => none
  | .idxA g len sz x i => match ev x, ev i with
    | .agg cs, .int _ i => if 0 ≤ i ∧ i < len then subV g cs (i.toNat * sz) sz else none
    | _, _ => none
  | .slcS x lo hi => match ev x with
    | .str s => match cutB ev s.length lo hi with | some (l, h) => some (.str ((s.take h).drop l)) | none => none
    | _ => none
  | .slc sz x lo hi => match ev x with
    | .sref b off len s => if s = sz then (match cutB ev len lo hi with | some (l, h) => some (.sref b (off + l * sz) (h - l) sz) | none => none) else none
    | .fsl es => match cutB ev es.length lo hi with
      | some (l, h) => if es.all (fun d => Nat.beq d.cells.length sz) then some (.fsl ((es.take h).drop l)) else none
      | none => none
    | .nils => match cutB ev 0 lo hi with | some _ => some .nils | none => none
    | _ => none
  | .ext x i => match ev x with | .tuple vs => vs[i]? | _ => none
  | .len str x => match str, ev x with
    | true, .str s => some (.int .i64 s.length)
    | false, .nils => some (.int .i64 0)
    | false, .sref _ _ len _ => some (.int .i64 len)
    | false, .fsl es => some (.int .i64 es.length)
    | _, _ => none
  | .mx mn args => match evs ev args with | [] => none | x :: r => mxs mn r x
  | .mkf f cap => some (.func f (evs ev cap))
  | _ => none

/-! ### Doing: the operations on memory -/
def c46 : Nat := 70368744177664
/-- The cells of a row's elements, if they are known. -/
def rowCells (M : Mem) (sz : Nat) : V → Option (List V × Nat)
  | .nils => some ([], 0)
  | .sref b off len s => if s = sz then (match M.get b with
    | some (.arr _ cells) => bif Nat.ble (off + len * sz) cells.length then some ((cells.drop off).take (len * sz), len) else none
    | _ => none) else none
  | .fsl es => bif es.all (fun d => Nat.beq d.cells.length sz && d.cells.all V.one) then some (es.flatMap V.cells, es.length) else none
  | .str s => if sz = 1 then some (s.map (fun b => .int .u8 b.toNat), s.length) else none
  | _ => none
def appV (M : Mem) (sz bytes : Nat) (x : V) (yc : List V) (m : Nat) : Option (V × Mem) :=
  match x with
  | .nils => bif Nat.beq m 0 then some (.nils, M) else
      bif Nat.ble (m * bytes) c46 then some (.sref M.next 0 m sz, M.alloc (.arr false yc)) else none
  | .sref b off len s =>
    if s = sz then (match M.get b with
    | some (.arr ex cells) =>
      bif Nat.beq m 0 then some (.sref b off len sz, M) else
      bif Nat.ble (off + (len + m) * sz) cells.length then some (.sref b off (len + m) sz, M.set b (.arr ex (putAt cells (off + len * sz) yc))) else
      bif Nat.ble ((len + m) * bytes) c46 && Nat.ble (off + len * sz) cells.length then
        (bif ex then some (.sref M.next 0 (len + m) sz, M.alloc (.arr false ((cells.drop off).take (len * sz) ++ yc)))
        else bif Nat.beq off 0 then some (.sref M.next 0 (len + m) sz, (M.drop b).alloc (.arr false (cells.take (len * sz) ++ yc))) else none)
      else none
    | _ => none) else none
  | .fsl es => bif Nat.beq m 0 then some (.fsl es, M) else none
  | _ => none
def keyEq (km : KM) (x y : V) : Option Bool := match km, x, y with
  | .num, .int k a, .int k' b => if k = k' then some (a == b) else none
  | .text, .str a, .str b => some (a == b)
  | .flat ks, .agg xs, .agg ys => sEqs ks xs ys
  | _, _, _ => none
def keyOK (km : KM) (k : V) : Bool := match km, k with
  | .flat ks, .agg xs => Nat.beq xs.length ks.length
  | .flat _, _ => false
  | _, _ => true
def findM (km : KM) (k : V) : List (V × V) → Nat → Option (Option (Nat × V))
  | [], _ => some none
  | (k', v) :: es, i => match keyEq km k k' with
    | some true => some (some (i, v))
    | some false => findM km k es (i + 1)
    | none => none
def findK (km : KM) (k : V) (es : List (V × V)) : Option (Option (Nat × V)) := bif keyOK km k then findM km k es 0 else none
/-- The bytes of a row, if they are known. -/
def byteOf : V → Option UInt8
  | .int .u8 n => some (UInt8.ofNat n.toNat)
  | _ => none
def bytesAll : List V → Option (List UInt8)
  | [] => some []
  | v :: vs => match byteOf v with
    | some b => match bytesAll vs with | some l => some (b :: l) | none => none
    | none => none
def bytesOfV (M : Mem) (d : V) : Option (List UInt8) :=
  match d with
  | .str _ => none
  | d => match rowCells M 1 d with
    | some (yc, _) => bytesAll yc
    | none => none
def mapOf (M : Mem) : V → Option (List (V × V))
  | .nilm => some []
  | .mref b => match M.get b with | some (.map es) => some es | _ => none
  | _ => none
def memOp (ev : Ev) (M : Mem) : IOp → Option (V × Mem)
  | .alloc z => some (.ptr M.next 0, M.alloc (.arr true z))
  | .box x => bif (ev x).cells.all V.one then some (.ptr M.next 0, M.alloc (.arr true (ev x).cells)) else none
  | .bslice sz len z ps => match fillV ev (repV z len) (ps.map fun p => (p.1 * sz, sz, p.2)) with
    | some cells => some (.sref M.next 0 len sz, M.alloc (.arr true cells))
    | none => none
  | .load agg n a => match ev a with
    | .ptr b off => match M.get b with
      | some (.arr _ cells) => match subV agg cells off n with
        | some v => some (v, M)
        | none => none
      | _ => none
    | .fptr d => match agg, d with
      | true, .agg cs => bif Nat.beq cs.length n then some (.agg cs, M) else none
      | true, _ => none
      | false, d => bif d.one then some (d, M) else none
    | _ => none
  | .store n a x => match ev a with
    | .ptr b off => match M.get b with
      | some (.arr ex cells) =>
        let xs := (ev x).cells
        bif Nat.beq xs.length n && xs.all V.one && Nat.ble (off + n) cells.length then some (.any, M.set b (.arr ex (putAt cells off xs))) else none
      | _ => none
    | _ => none
  | .app sz bytes x y => match rowCells M sz (ev y) with
    | some (yc, m) => appV M sz bytes (ev x) yc m
    | none => none
  | .mkmap => some (.mref M.next, M.alloc (.map []))
  | .lookup str z x k ok => match mapOf M (ev x) with
    | some es => match findK str (ev k) es with
      | some (some (_, v)) => some (bif ok then .tuple [v, .bool true] else v, M)
      | some none => some (bif ok then .tuple [z, .bool false] else z, M)
      | none => none
    | none => none
  | .mapset str x k v => match ev x with
    | .mref b => match M.get b with
      | some (.map es) => match findK str (ev k) es with
        | some (some (i, _)) => some (.any, M.set b (.map (es.set i (ev k, ev v))))
        | some none => some (.any, M.set b (.map (es ++ [(ev k, ev v)])))
        | none => none
      | _ => none
    | _ => none
  | .b2s x => match bytesOfV M (ev x) with | some l => some (.str l, M) | none => none
  | .mlen x => match mapOf M (ev x) with | some es => some (.int .i64 es.length, M) | none => none
  | .fslc sz len z ps => match fillV ev (repV z len) (ps.map fun p => (p.1 * sz, sz, p.2)) with
    | some cells => bif Nat.beq sz 1 then some (.fsl cells, M) else none
    | none => none
  | .mksl sz bytes z l c => match ev l, ev c with
    | .int _ n, .int _ c => if 0 ≤ n ∧ n ≤ c ∧ c.toNat * bytes ≤ c46 then some (.sref M.next 0 n.toNat sz, M.alloc (.arr true (repV z c.toNat))) else none
    | _, _ => none
  | _ => none
end
end Go.Ax
