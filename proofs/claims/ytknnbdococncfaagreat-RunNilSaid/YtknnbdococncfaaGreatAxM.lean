/- Part M: the executor, made for the kernel: small arms, tries. -/
import Derived.Test.YtknnbdococncfaaGreatAxLp
namespace Go.Ax
open Go
noncomputable section
set_option linter.unusedVariables false

/-! ### Code, resolved -/
section
variable (P : Program)
def rsOps (ops : Array Oper) : Option (List IOper) := ops.toList.mapM (rsOper P ops)
def rsCode : Code → IC
  | .skip => .skip
  | .label _ => .skip
  | .region _ ops false => match rsOps P ops with | some l => .reg l | none => .bad
  | .region _ ops true => match rsOps P ops with | some l => drawOf ops.toList l | none => .bad
  | .seq a b => .seq (rsCode a) (rsCode b)
  | .cond c a b => match rsArg c with | some x => .cond x (rsCode a) (rsCode b) | none => .bad
  | .block id c => .block id (rsCode c)
  | .loop c => .loop (rsCode c)
  | .exit id => .exit id
  | .ret => .ret
  | .rangeFunc g ps a b => match rsArg g with | some x => .rangeF x ps.toList a b (rsCode a) (rsCode b) | none => .bad
  | _ => .bad
end
inductive IRes where
  | tmp (t : Nat)
  | cell (agg : Bool) (n t : Nat)
  deriving Inhabited
structure IFn where
  ntmps : Nat
  results : List IRes
  body : IC
  deriving Inhabited
structure Cx where
  fns : Nat → Option IFn
  glob : T V

/-! ### An operation -/
abbrev OpR := Option (V × Mem)
def okV (M : Mem) (o : Option V) : OpR := match o with | some r => some (r, M) | none => none
def p_mv (x : IArg) (G E : T V) : Option V := some ((evalA G E) x)
def f_mv (x : IArg) (G E : T V) (M : Mem) : OpR := okV M (p_mv x G E)
def p_pick (c x y : IArg) (G E : T V) : Option V := match (evalA G E) c with | .bool b => some (bif b then (evalA G E) x else (evalA G E) y) | _ => none
def f_pick (c x y : IArg) (G E : T V) (M : Mem) : OpR := okV M (p_pick c x y G E)
def f_alloc (z : List V) (G E : T V) (M : Mem) : OpR := some (.ptr M.next 0, M.alloc (.arr true z))
def f_box (x : IArg) (G E : T V) (M : Mem) : OpR := bif ((evalA G E) x).cells.all V.one then some (.ptr M.next 0, M.alloc (.arr true ((evalA G E) x).cells)) else none
def p_build (z : List V) (ps : List (Nat × Nat × IArg)) (G E : T V) : Option V := match fillV (evalA G E) z ps with | some cs => some (.agg cs) | none => none
def f_build (z : List V) (ps : List (Nat × Nat × IArg)) (G E : T V) (M : Mem) : OpR := okV M (p_build z ps G E)
def f_bslice (sz len : Nat) (z : List V) (ps : List (Nat × IArg)) (G E : T V) (M : Mem) : OpR := match fillV (evalA G E) (repV z len) (ps.map fun p => (p.1 * sz, sz, p.2)) with
    | some cells => some (.sref M.next 0 len sz, M.alloc (.arr true cells))
    | none => none
def f_load (agg : Bool) (n : Nat) (a : IArg) (G E : T V) (M : Mem) : OpR := match (evalA G E) a with
    | .ptr b off => match M.get b with
      | some (.arr _ cells) => match subV agg cells off n with
        | some v => some (v, M)
        | none => none
      | _ => none
    | .fptr d => match agg, d with
      | true, .agg cs => bif Nat.beq cs.length n then some (.agg cs, M) else none
      | true, _ => none
      | false, d => bif d.one then some (d, M) else none
    | _ => none
def f_store (n : Nat) (a x : IArg) (G E : T V) (M : Mem) : OpR := match (evalA G E) a with
    | .ptr b off => match M.get b with
      | some (.arr ex cells) =>
        let xs := ((evalA G E) x).cells
        bif Nat.beq xs.length n && xs.all V.one && Nat.ble (off + n) cells.length then some (.any, M.set b (.arr ex (putAt cells off xs))) else none
      | _ => none
    | _ => none
def p_nilck (x : IArg) (G E : T V) : Option V := match (evalA G E) x with
    | .ptr b o => some (.ptr b o) | .fptr v => some (.fptr v)
    | .func f c => some (.func f c) | .yld l => some (.yld l)
    | _ => none
def f_nilck (x : IArg) (G E : T V) (M : Mem) : OpR := okV M (p_nilck x G E)
def p_bin (op : BinOp) (x y : IArg) (G E : T V) : Option V := binV op ((evalA G E) x) ((evalA G E) y)
def f_bin (op : BinOp) (x y : IArg) (G E : T V) (M : Mem) : OpR := okV M (p_bin op x y G E)
def p_eqk (k : Nat) (neg : Bool) (x y : IArg) (G E : T V) : Option V := match isNilk k ((evalA G E) x) ((evalA G E) y) with | some b => some (.bool (neg ^^ b)) | none => none
def f_eqk (k : Nat) (neg : Bool) (x y : IArg) (G E : T V) (M : Mem) : OpR := okV M (p_eqk k neg x y G E)
def p_eqs (neg : Bool) (ks : List Nat) (x y : IArg) (G E : T V) : Option V := match (evalA G E) x, (evalA G E) y with
    | .agg xs, .agg ys => match sEqs ks xs ys with | some b => some (.bool (neg ^^ b)) | none => none
    | _, _ => none
def f_eqs (neg : Bool) (ks : List Nat) (x y : IArg) (G E : T V) (M : Mem) : OpR := okV M (p_eqs neg ks x y G E)
def p_un (op : UnOp) (x : IArg) (G E : T V) : Option V := match op, (evalA G E) x with
    | .not, .bool b => some (.bool !b)
    | .neg, .int k n => some (.int k (wrapF k (0 - n)))
    | _, _ => none
def f_un (op : UnOp) (x : IArg) (G E : T V) (M : Mem) : OpR := okV M (p_un op x G E)
def p_cint (k : IntKind) (x : IArg) (G E : T V) : Option V := match (evalA G E) x with | .int _ n => some (.int k (wrapF k n)) | _ => none
def f_cint (k : IntKind) (x : IArg) (G E : T V) (M : Mem) : OpR := okV M (p_cint k x G E)
def p_cid (x : IArg) (G E : T V) : Option V := match (evalA G E) x with | .str s => some (.str s) | _ => none
def f_cid (x : IArg) (G E : T V) (M : Mem) : OpR := okV M (p_cid x G E)
def p_fld (g : Bool) (off n : Nat) (x : IArg) (G E : T V) : Option V := match (evalA G E) x with | .agg cs => subV g cs off n | _ => none
def f_fld (g : Bool) (off n : Nat) (x : IArg) (G E : T V) (M : Mem) : OpR := okV M (p_fld g off n x G E)
def p_fadr (g : Bool) (off n : Nat) (a : IArg) (G E : T V) : Option V := match (evalA G E) a with
    | .ptr b o => some (.ptr b (o + off))
    | .fptr (.agg cs) => match subV g cs off n with | some v => bif g || v.one then some (.fptr v) else none | none => none
    | _ => none
def f_fadr (g : Bool) (off n : Nat) (a : IArg) (G E : T V) (M : Mem) : OpR := okV M (p_fadr g off n a G E)
def p_iadr (sz : Nat) (x i : IArg) (G E : T V) : Option V := match (evalA G E) x, (evalA G E) i with
    | .sref b off len s, .int _ i => if 0 ≤ i ∧ i < len ∧ s = sz then some (.ptr b (off + i.toNat * sz)) else none
    | .fsl es, .int _ i => if 0 ≤ i then (match es[i.toNat]? with | some d => (bif Nat.beq d.cells.length sz then some (.fptr d) else none) | none => none) else none
    | _, _ => none
def f_iadr (sz : Nat) (x i : IArg) (G E : T V) (M : Mem) : OpR := okV M (p_iadr sz x i G E)
def p_iadrA (g : Bool) (len sz : Nat) (x i : IArg) (G E : T V) : Option V := match (evalA G E) x, (evalA G E) i with
    | .ptr b off, .int _ i => if 0 ≤ i ∧ i < len then some (.ptr b (off + i.toNat * sz)) else none
    | .fptr (.agg cs), .int _ i => if 0 ≤ i ∧ i < len then (match subV g cs (i.toNat * sz) sz with | some v => (bif g || v.one then some (.fptr v) else none) | none => none) else none
    | _, _ => none
def f_iadrA (g : Bool) (len sz : Nat) (x i : IArg) (G E : T V) (M : Mem) : OpR := okV M (p_iadrA g len sz x i G E)
def p_idxS (x i : IArg) (G E : T V) : Option V := match (evalA G E) x, (evalA G E) i with
    | .str s, .int _ i => if 0 ≤ i then (match s[i.toNat]? with | some b => some (.int .u8 b.toNat) | none => none) else none
    | _, _ => none
def f_idxS (x i : IArg) (G E : T V) (M : Mem) : OpR := okV M (p_idxS x i G E)
def p_idxA (g : Bool) (len sz : Nat) (x i : IArg) (G E : T V) : Option V := match (evalA G E) x, (evalA G E) i with
    | .agg cs, .int _ i => if 0 ≤ i ∧ i < len then subV g cs (i.toNat * sz) sz else none
    | _, _ => none
def f_idxA (g : Bool) (len sz : Nat) (x i : IArg) (G E : T V) (M : Mem) : OpR := okV M (p_idxA g len sz x i G E)
def p_slcS (x : IArg) (lo hi : Option IArg) (G E : T V) : Option V := match (evalA G E) x with
    | .str s => match cutB (evalA G E) s.length lo hi with | some (l, h) => some (.str ((s.take h).drop l)) | none => none
    | _ => none
def f_slcS (x : IArg) (lo hi : Option IArg) (G E : T V) (M : Mem) : OpR := okV M (p_slcS x lo hi G E)
def p_slc (sz : Nat) (x : IArg) (lo hi : Option IArg) (G E : T V) : Option V := match (evalA G E) x with
    | .sref b off len s => if s = sz then (match cutB (evalA G E) len lo hi with | some (l, h) => some (.sref b (off + l * sz) (h - l) sz) | none => none) else none
    | .fsl es => match cutB (evalA G E) es.length lo hi with
      | some (l, h) => if es.all (fun d => Nat.beq d.cells.length sz) then some (.fsl ((es.take h).drop l)) else none
      | none => none
    | .nils => match cutB (evalA G E) 0 lo hi with | some _ => some .nils | none => none
    | _ => none
def f_slc (sz : Nat) (x : IArg) (lo hi : Option IArg) (G E : T V) (M : Mem) : OpR := okV M (p_slc sz x lo hi G E)
def p_ext (x : IArg) (i : Nat) (G E : T V) : Option V := match (evalA G E) x with | .tuple vs => vs[i]? | _ => none
def f_ext (x : IArg) (i : Nat) (G E : T V) (M : Mem) : OpR := okV M (p_ext x i G E)
def f_app (sz bytes : Nat) (x y : IArg) (G E : T V) (M : Mem) : OpR := match rowCells M sz ((evalA G E) y) with
    | some (yc, m) => appV M sz bytes ((evalA G E) x) yc m
    | none => none
def p_len (str : Bool) (x : IArg) (G E : T V) : Option V := match str, (evalA G E) x with
    | true, .str s => some (.int .i64 s.length)
    | false, .nils => some (.int .i64 0)
    | false, .sref _ _ len _ => some (.int .i64 len)
    | false, .fsl es => some (.int .i64 es.length)
    | _, _ => none
def f_len (str : Bool) (x : IArg) (G E : T V) (M : Mem) : OpR := okV M (p_len str x G E)
def p_mx (mn : Bool) (args : List IArg) (G E : T V) : Option V := match evs (evalA G E) args with | [] => none | x :: r => mxs mn r x
def f_mx (mn : Bool) (args : List IArg) (G E : T V) (M : Mem) : OpR := okV M (p_mx mn args G E)
def p_mkf (f : Nat) (cap : List IArg) (G E : T V) : Option V := some (.func f (evs (evalA G E) cap))
def f_mkf (f : Nat) (cap : List IArg) (G E : T V) (M : Mem) : OpR := okV M (p_mkf f cap G E)
def f_mkmap  (G E : T V) (M : Mem) : OpR := some (.mref M.next, M.alloc (.map []))
def f_lookup (str : KM) (z : V) (x k : IArg) (ok : Bool) (G E : T V) (M : Mem) : OpR := match mapOf M ((evalA G E) x) with
    | some es => match findK str ((evalA G E) k) es with
      | some (some (_, v)) => some (bif ok then .tuple [v, .bool true] else v, M)
      | some none => some (bif ok then .tuple [z, .bool false] else z, M)
      | none => none
    | none => none
def f_mapset (str : KM) (x k v : IArg) (G E : T V) (M : Mem) : OpR := match (evalA G E) x with
    | .mref b => match M.get b with
      | some (.map es) => match findK str ((evalA G E) k) es with
        | some (some (i, _)) => some (.any, M.set b (.map (es.set i ((evalA G E) k, (evalA G E) v))))
        | some none => some (.any, M.set b (.map (es ++ [((evalA G E) k, (evalA G E) v)])))
        | none => none
      | _ => none
    | _ => none
def f_mksl (sz bytes : Nat) (z : List V) (l c : IArg) (G E : T V) (M : Mem) : OpR := match (evalA G E) l, (evalA G E) c with
    | .int _ n, .int _ c => if 0 ≤ n ∧ n ≤ c ∧ c.toNat * bytes ≤ c46 then some (.sref M.next 0 n.toNat sz, M.alloc (.arr true (repV z c.toNat))) else none
    | _, _ => none
def f_b2s (x : IArg) (G E : T V) (M : Mem) : OpR := match bytesOfV M ((evalA G E) x) with | some l => some (.str l, M) | none => none
def f_mlen (x : IArg) (G E : T V) (M : Mem) : OpR := match mapOf M ((evalA G E) x) with | some es => some (.int .i64 es.length, M) | none => none
def f_fslc (sz len : Nat) (z : List V) (ps : List (Nat × IArg)) (G E : T V) (M : Mem) : OpR := match fillV (evalA G E) (repV z len) (ps.map fun p => (p.1 * sz, sz, p.2)) with
    | some cells => bif Nat.beq sz 1 then some (.fsl cells, M) else none
    | none => none
/-- An operation that calls nothing, done. -/
def fOp (op : IOp) : T V → T V → Mem → OpR :=
  IOp.casesOn (motive := fun _ => T V → T V → Mem → OpR) op
    (fun _ _ _ => none)
    f_mv
    f_pick
    f_alloc
    f_box
    f_build
    f_bslice
    f_load
    f_store
    f_nilck
    f_bin
    f_eqk
    f_eqs
    f_un
    f_cint
    f_cid
    f_fld
    f_fadr
    f_iadr
    f_iadrA
    f_idxS
    f_idxA
    f_slcS
    f_slc
    f_ext
    (fun _ _ _ _ _ => none)
    (fun _ _ _ _ _ => none)
    f_app
    f_len
    f_mx
    f_mkf
    f_mkmap
    f_lookup
    f_mapset
    f_mksl
    f_b2s
    f_mlen
    f_fslc


/-! ### The run -/
inductive X where
  | nrm | exit (id : Nat) | ret
inductive Task where
  | code (rd : Bool) (c : IC) (E : T V) (ds : List Nat) (M : Mem)
  | call (f : Nat) (args : List V) (M : Mem)
inductive Res where
  | code (x : X) (E : T V) (ds : List Nat) (M : Mem)
  | call (v : V) (M : Mem)
/-- Set where something stands. -/
def putP (p : Pth) (x : V) : T V → T V := Pth.rec (motive := fun _ => T V → T V)
  (fun t => T.casesOn (motive := fun _ => T V) t .leaf (fun v l r => Option.casesOn (motive := fun _ => T V) v (.node none l r) (fun _ => .node (some x) l r)))
  (fun _ ih t => T.casesOn (motive := fun _ => T V) t .leaf (fun v l r => .node v (ih l) r))
  (fun _ ih t => T.casesOn (motive := fun _ => T V) t .leaf (fun v l r => .node v l (ih r))) p
def putE (dst : Option Nat) (r : V) (E : T V) : T V := match dst with | none => E | some d => putP (path d) r E
def blank (n : Nat) : T V := T.fillN .any n
def putArgs : List V → Nat → T V → T V
  | [], _, E => E
  | a :: l, i, E => putArgs l (i + 1) (putP (path i) a E)
def guardV (g : Option (Option Nat × Bool)) (E : T V) : Option Bool := match g with
  | none => some true
  | some (none, _) => some false
  | some (some t, want) => match E.get t with | some (.bool b) => some (bif want then b else !b) | some (.tuple _) => some false | _ => none
def setPs : T V → List Nat → List V → T V
  | E, p :: ps, v :: vs => setPs (putP (path p) v E) ps vs
  | E, _, _ => E
def X.jump : X → Option Code
  | .nrm => none | .ret => some .ret | .exit id => some (.exit id)
def yieldEnd (l : Nat) (x : X) (M2 : Mem) : OpR := match M2.get l with
  | some (.loop r2) => some (.bool x.jump.isNone, M2.set l (.loop { r2 with state := if x.jump.isNone then .ready else .done, pending := x.jump }))
  | _ => none
def yieldBody (rec : Task → Option Res) (l : Nat) (b : IC) (E1 : T V) (M1 : Mem) : OpR := match M1.get l with
  | some (.loop r1) => match r1.state with
    | .ready => match rec (.code true b E1 [] (M1.set l (.loop { r1 with state := .busy }))) with
      | some (.code x _ [] M2) => yieldEnd l x M2
      | _ => none
    | _ => none
  | _ => none
def doYield (rec : Task → Option Res) (l : Nat) (args : List V) (M : Mem) : OpR :=
  match M.get l with
  | some (.loop r) =>
    bif Nat.beq args.length r.params.length then
      match rec (.code true r.a (setPs r.env r.params args) [] M) with
      | some (.code .nrm E1 [] M1) => yieldBody rec l r.b E1 M1
      | _ => none
    else none
  | _ => none
def doCall (rec : Task → Option Res) (f : Nat) (args : List V) (M : Mem) : OpR :=
  match rec (.call f args M) with
  | some (.call v M') => some (v, M')
  | _ => none
def doCallv (rec : Task → Option Res) (x : V) (args : List V) (M : Mem) : OpR := match x with
  | .func f cap => doCall rec f (args ++ cap) M
  | .yld l => doYield rec l args M
  | _ => none
def doOp (rec : Task → Option Res) (G : T V) (op : IOp) (E : T V) (M : Mem) : OpR :=
  match op with
  | .call f args => doCall rec f (evs (evalA G E) args) M
  | .callv x args => doCallv rec (evalA G E x) (evs (evalA G E) args) M
  | op => fOp op G E M
def stepO (rec : Task → Option Res) (G : T V) (o : IOper) (k : T V → Mem → Option (T V × Mem)) (E : T V) (M : Mem) : Option (T V × Mem) :=
  match guardV o.guard E with
  | none => none
  | some false => k (putE o.dst (.tuple []) E) M
  | some true => match doOp rec G o.op E M with
    | some (r, M') => k (putE o.dst r E) M'
    | none => none
def stepOps (rec : Task → Option Res) (G : T V) (l : List IOper) : T V → Mem → Option (T V × Mem) :=
  List.rec (motive := fun _ => T V → Mem → Option (T V × Mem)) (fun E M => some (E, M)) (fun o _ ih => stepO rec G o ih) l
/-! ### A region that draws its order -/
def exec1 (rec : Task → Option Res) (G : T V) (o : IOper) (E : T V) (M : Mem) : OpR :=
  match guardV o.guard E with
  | none => none
  | some false => some (.tuple [], M)
  | some true => doOp rec G o.op E M
/-- The environment of one operation: what it reads, and what no operation of the region writes. -/
def envF (Ef : T V) (ts : List Nat) (Em : T V) : T V := List.rec (motive := fun _ => T V) Em (fun t _ ih => putP (path t) ((Ef.get t).getD .any) ih) ts
def maskE (ds : List Nat) (E : T V) : T V := List.rec (motive := fun _ => T V) E (fun t _ ih => putP (path t) .any ih) ds
/-- The same cell again: numbers, truths, addresses. -/
def sameV : V → V → Bool
  | .any, .any => true
  | .bool a, .bool b => bif a then b else !b
  | .int k a, .int k' b => (match decEq k k' with | .isTrue _ => true | .isFalse _ => false) && decide (a = b)
  | .float k a, .float k' b => (match decEq k k' with | .isTrue _ => true | .isFalse _ => false) && Nat.beq a b
  | .str a, .str b => decide (a = b)
  | .nilp, .nilp => true
  | .ptr a b, .ptr c d => Nat.beq a c && Nat.beq b d
  | .nils, .nils => true
  | .sref a b c d, .sref e f g h => Nat.beq a e && (Nat.beq b f && (Nat.beq c g && Nat.beq d h))
  | .nilm, .nilm => true
  | .mref a, .mref b => Nat.beq a b
  | .nilf, .nilf => true
  | .func f [], .func g [] => Nat.beq f g
  | .nili, .nili => true
  | _, _ => false
def sameVs : List V → List V → Bool
  | [], [] => true
  | x :: xs, y :: ys => sameV x y && sameVs xs ys
  | _, _ => false
def sameA (x y : V) : Bool := match x, y with
  | .agg xs, .agg ys => sameVs xs ys
  | .tuple xs, .tuple ys => sameVs xs ys
  | x, y => sameV x y
def eqD (r : V) (dst : Option Nat) (E : T V) : Bool := match dst with
  | some t => match E.get t with | some d => sameA r d | none => false
  | none => false
def stepD (rec : Task → Option Res) (G Em : T V) (s : DStep) (k : T V → Mem → Option (T V × Mem)) (Ef : T V) (M : Mem) : Option (T V × Mem) :=
  match exec1 rec G s.io (envF Ef s.ts Em) M with
  | some (r, M') => bif s.ag then (bif eqD r s.io.dst Ef then k Ef M else none) else k (putE s.io.dst r Ef) M'
  | none => none
def runD (rec : Task → Option Res) (G Em : T V) (l : List DStep) : T V → Mem → Option (T V × Mem) :=
  List.rec (motive := fun _ => T V → Mem → Option (T V × Mem)) (fun E M => some (E, M)) (fun s _ ih => stepD rec G Em s ih) l
def resV (G : T V) (E : T V) (M : Mem) : List IRes → Option (List V)
  | [] => some []
  | .tmp t :: rs => match resV G E M rs with | some l => some ((E.get t).getD .any :: l) | none => none
  | .cell g n t :: rs => match f_load g n (.t t) G E M with
    | some (v, _) => match resV G E M rs with | some l => some (v :: l) | none => none
    | none => none
def oneV : List V → V
  | [v] => v
  | l => .tuple l
def takeDs : List Nat → Mem → Option Mem
  | [], M => some M
  | n :: ns, M => match M.get n with
    | some .dfr => takeDs ns (M.drop n)
    | _ => none
section
variable (cx : Cx) (rec : Task → Option Res) (rd : Bool)
def sReg (ops : List IOper) (E : T V) (ds : List Nat) (M : Mem) : Option Res := match stepOps rec cx.glob ops E M with
  | some (E', M') => some (.code .nrm E' ds M')
  | none => none
def sDraw (l : List DStep) (dsts : List Nat) (E : T V) (ds : List Nat) (M : Mem) : Option Res := match runD rec cx.glob (maskE dsts E) l E M with
  | some (E', M') => some (.code .nrm E' ds M')
  | none => none
def sSeq (a b : IC) (E : T V) (ds : List Nat) (M : Mem) : Option Res := match rec (.code rd a E ds M) with
  | some (.code .nrm E' ds' M') => rec (.code rd b E' ds' M')
  | r => r
def sCond (x : IArg) (a b : IC) (E : T V) (ds : List Nat) (M : Mem) : Option Res := match evalA cx.glob E x with
  | .bool t => rec (.code rd (bif t then a else b) E ds M)
  | _ => none
def sBlock (id : Nat) (c : IC) (E : T V) (ds : List Nat) (M : Mem) : Option Res := match rec (.code rd c E ds M) with
  | some (.code (.exit i) E' ds' M') => some (.code (bif Nat.beq i id then .nrm else .exit i) E' ds' M')
  | r => r
def sLoop (c : IC) (E : T V) (ds : List Nat) (M : Mem) : Option Res := match rec (.code rd c E ds M) with
  | some (.code .nrm E' ds' M') => rec (.code rd (.loop c) E' ds' M')
  | r => r
def rangeEnd (n : Nat) (E : T V) (ds : List Nat) (M3 : Mem) : Option Res := match M3.get (n + 1) with
  | some (.loop r) => match r.state with
    | .busy => none
    | _ => match r.pending with
      | none => some (.code .nrm E (n :: ds) (M3.set (n + 1) (.loop { r with state := .exhausted })))
      | some .ret => some (.code .ret E (n :: ds) (M3.set (n + 1) (.loop { r with state := .exhausted })))
      | some (.exit id) => some (.code (.exit id) E (n :: ds) (M3.set (n + 1) (.loop { r with state := .exhausted })))
      | _ => none
  | _ => none
def sRange (g : IArg) (ps : List Nat) (ca cb : Code) (a b : IC) (E : T V) (ds : List Nat) (M : Mem) : Option Res := match rd with
  | true => none
  | false => match evalA cx.glob E g with
    | .func gf cap => match rec (.call gf (.yld (M.next + 1) :: cap) ((M.alloc .dfr).alloc (.loop ⟨.ready, none, E, ps, ca, cb, a, b⟩))) with
      | some (.call _ M3) => rangeEnd M.next E ds M3
      | _ => none
    | _ => none
def sCode (c : IC) : T V → List Nat → Mem → Option Res :=
  IC.casesOn (motive := fun _ => T V → List Nat → Mem → Option Res) c
    (fun E ds M => some (.code .nrm E ds M))
    (fun _ _ _ => none)
    (sReg cx rec)
    (sDraw cx rec)
    (sSeq rec rd)
    (sCond cx rec rd)
    (sBlock rec rd)
    (sLoop rec rd)
    (fun id E ds M => some (.code (.exit id) E ds M))
    (fun E ds M => some (.code .ret E ds M))
    (sRange cx rec rd)
end
def callEnd (cx : Cx) (rs : List IRes) (x : X) (E : T V) (ds : List Nat) (M' : Mem) : Option Res := match x with
  | .exit _ => none
  | _ => match takeDs ds M' with
    | some M2 => match resV cx.glob E M2 rs with
      | some l => some (.call (oneV l) M2)
      | none => none
    | none => none
def sFn (cx : Cx) (rec : Task → Option Res) (fn : IFn) (args : List V) (M : Mem) : Option Res := match rec (.code false fn.body (putArgs args 0 (blank fn.ntmps)) [] M) with
  | some (.code x E ds M') => callEnd cx fn.results x E ds M'
  | _ => none
def sCall (cx : Cx) (rec : Task → Option Res) (f : Nat) (args : List V) (M : Mem) : Option Res := match cx.fns f with
  | some fn => sFn cx rec fn args M
  | none => none
def step (cx : Cx) (rec : Task → Option Res) (t : Task) : Option Res :=
  Task.casesOn (motive := fun _ => Option Res) t (fun rd c E ds M => sCode cx rec rd c E ds M) (fun f args M => sCall cx rec f args M)
def run (cx : Cx) (k : Nat) : Task → Option Res := Nat.rec (fun _ => none) (fun _ ih => step cx ih) k

/-! ### The same, plainly -/
theorem fOp_eq {op : IOp} (h : isCallI op = false) (G E : T V) (M : Mem) : fOp op G E M = (match pureOp (evalA G E) op with | some r => some (r, M) | none => memOp (evalA G E) M op) := by
  cases op <;> first | rfl | (simp [isCallI] at h)

end
end Go.Ax
