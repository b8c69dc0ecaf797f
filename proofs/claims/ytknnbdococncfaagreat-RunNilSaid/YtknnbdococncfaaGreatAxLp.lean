/- Part Lp: a plan for a region that draws its order: which operations may come up at which stage of memory, and the check that a plan is good. -/
import Derived.Test.YtknnbdococncfaaGreatAxL
namespace Go.Ax
open Go
noncomputable section
set_option linter.unusedVariables false

inductive Kd where | pure | read | mov | flt
def Kd.isMv : Kd → Bool | .mov => true | .flt => true | _ => false
def Kd.isMov : Kd → Bool | .mov => true | _ => false
def Kd.isFlt : Kd → Bool | .flt => true | _ => false
def Kd.isRead : Kd → Bool | .read => true | _ => false
/-- What an operation does to memory: nothing, it reads, it changes what there is, or it makes a block that nobody knows yet. -/
def kdOf : IOp → Kd
  | .load .. | .lookup .. | .b2s .. | .mlen .. => .read
  | .alloc .. | .bslice .. => .flt
  | .store .. | .call .. | .callv .. | .app .. | .mapset .. | .mkmap | .mksl .. | .box .. => .mov
  | _ => .pure
def aT : IArg → List Nat
  | .t n => [n] | _ => []
def aTs (l : List IArg) : List Nat := l.flatMap aT
def oT : Option IArg → List Nat
  | some x => aT x | none => []
def ioTs : IOp → List Nat
  | .bad => [] | .mv x => aT x | .pick c x y => aT c ++ (aT x ++ aT y) | .alloc _ => [] | .box x => aT x
  | .build _ ps => ps.flatMap fun p => aT p.2.2
  | .bslice _ _ _ ps => ps.flatMap fun p => aT p.2 | .fslc _ _ _ ps => ps.flatMap fun p => aT p.2
  | .load _ _ a => aT a | .store _ a x => aT a ++ aT x | .nilck x => aT x | .bin _ x y => aT x ++ aT y
  | .eqk _ _ x y => aT x ++ aT y | .eqs _ _ x y => aT x ++ aT y | .un _ x => aT x | .cint _ x => aT x | .cid x => aT x
  | .fld _ _ _ x => aT x | .fadr _ _ _ a => aT a | .iadr _ x i => aT x ++ aT i | .iadrA _ _ _ x i => aT x ++ aT i
  | .idxS x i => aT x ++ aT i | .idxA _ _ _ x i => aT x ++ aT i | .slcS x lo hi => aT x ++ (oT lo ++ oT hi) | .slc _ x lo hi => aT x ++ (oT lo ++ oT hi)
  | .ext x _ => aT x | .call _ args => aTs args | .callv x args => aT x ++ aTs args | .app _ _ x y => aT x ++ aT y | .len _ x => aT x
  | .mx _ args => aTs args | .mkf _ cap => aTs cap | .mkmap => [] | .lookup _ _ x k _ => aT x ++ aT k | .mapset _ x k v => aT x ++ (aT k ++ aT v)
  | .mksl _ _ _ l c => aT l ++ aT c | .b2s x => aT x | .mlen x => aT x
def gT : Option (Option Nat × Bool) → List Nat
  | some (some t, _) => [t] | _ => []

/-- An operation of such a region: what it reads, its kind, its ancestors as bits. -/
structure DI where
  io : IOper
  ts : List Nat
  kd : Kd
  anc : Nat
def edgeM (acc : List Nat) : List Edge → Nat
  | [] => 0
  | e :: l => match Region.binds .any e with
    | true => Nat.lor (Nat.pow 2 e.on) (Nat.lor (acc.getD e.on 0) (edgeM acc l))
    | false => edgeM acc l
def mkDI (o : Oper) (io : IOper) (acc : List Nat) : DI := ⟨io, gT io.guard ++ ioTs io.op, kdOf io.op, edgeM acc o.after.toList⟩
def mkDIs : List Oper → List IOper → List Nat → List DI
  | o :: os, io :: ios, acc => mkDI o io acc :: mkDIs os ios (acc ++ [edgeM acc o.after.toList])
  | _, _, _ => []

def sub (a b : Nat) : Bool := Nat.beq (Nat.land a b) a
def bit (i : Nat) : Nat := Nat.pow 2 i

/-! ### The check -/
section
variable (dis : List DI)
def eqO : Option Nat → Nat → Bool
  | some a, t => Nat.beq a t | none, _ => false
/-- The writers of what is read are settled by edges. -/
def tsOk1 (i : Nat) (d : DI) (t : Nat) : List DI → Nat → Bool
  | [], _ => true
  | e :: l, j => (!eqO e.io.dst t || (Nat.testBit d.anc j || Nat.testBit e.anc i)) && tsOk1 i d t l (j + 1)
def tsOk (i : Nat) (d : DI) : Bool := d.ts.all fun t => tsOk1 i d t dis 0
/-- The writers of what is read are done before. -/
def tsBefore1 (d : DI) (t : Nat) : List DI → Nat → Bool
  | [], _ => true
  | e :: l, j => (!eqO e.io.dst t || Nat.testBit d.anc j) && tsBefore1 d t l (j + 1)
def tsBefore (d : DI) : Bool := d.ts.all fun t => tsBefore1 d t dis 0
/-- The blocks that are read are known. -/
def fuOk1 (dn t : Nat) : List DI → Nat → Bool
  | [], _ => true
  | e :: l, j => (!(e.kd.isFlt && eqO e.io.dst t) || Nat.testBit dn j) && fuOk1 dn t l (j + 1)
def fuOk (dn : Nat) (d : DI) : Bool := d.ts.all fun t => fuOk1 dn t dis 0
def movM : List DI → Nat → Nat
  | [], _ => 0
  | d :: l, i => bif d.kd.isMov then Nat.lor (bit i) (movM l (i + 1)) else movM l (i + 1)
/-- May an operation come up at a stage? -/
def possible (i : Nat) (d : DI) (dn ancU : Nat) (nx : Option Nat) : Bool :=
  sub (Nat.land d.anc (movM dis 0)) dn && (!Nat.testBit dn i && (!Nat.testBit ancU i && (match nx with | some g => !Nat.testBit d.anc g | none => true)))
def stage1 (dn ancU : Nat) (nx : Option Nat) (cov : Nat) : List DI → Nat → Bool
  | [], _ => true
  | d :: l, i => (!possible dis i d dn ancU nx || ((match d.kd with | .mov => eqO nx i | .read => Nat.testBit cov i | _ => true) && fuOk dis dn d)) && stage1 dn ancU nx cov l (i + 1)
def stageOk (dn ancU : Nat) (nx : Option Nat) (cov : Nat) : Bool := stage1 dis dn ancU nx cov dis 0
def walk : List (Bool × Nat) → Nat → Nat → Nat → Nat → Bool
  | [], done, dn, ancU, cov => stageOk dis dn ancU none cov && Nat.beq done (Nat.sub (bit dis.length) 1)
  | (false, i) :: l, done, dn, ancU, cov => match dis[i]? with
    | some d => !Nat.testBit done i && (sub d.anc done && (bif d.kd.isMv then stageOk dis dn ancU (some i) cov && walk l (Nat.lor (bit i) done) (Nat.lor (bit i) dn) (Nat.lor d.anc ancU) 0
        else walk l (Nat.lor (bit i) done) dn ancU (Nat.lor (bit i) cov)))
    | none => false
  | (true, i) :: l, done, dn, ancU, cov => match dis[i]? with
    | some d => d.kd.isRead && (d.io.dst.isSome && (Nat.testBit done i && (tsBefore dis d && walk l done dn ancU (Nat.lor (bit i) cov))))
    | none => false
def dstIn (t : Nat) : List DI → Bool
  | [] => false
  | d :: l => eqO d.io.dst t || dstIn t l
def dstsOk : List DI → Bool
  | [] => true
  | d :: l => (match d.io.dst with | some t => !dstIn t l | none => true) && dstsOk l
def all1 : List DI → Nat → Bool
  | [], _ => true
  | d :: l, i => tsOk dis i d && ((!d.kd.isFlt || (match d.io.guard with | none => d.io.dst.isSome | some _ => false)) && all1 l (i + 1))
def chk (l : List (Bool × Nat)) : Bool := dstsOk dis && (all1 dis dis 0 && walk dis l 0 0 0 0)
end

/-! ### A plan -/
def actsOf (dis : List DI) : List DI → Nat → Nat → List (Bool × Nat) → List (Bool × Nat) × Nat
  | [], _, done, out => (out, done)
  | d :: l, i, done, out => bif !d.kd.isMv && (!Nat.testBit done i && sub d.anc done) then actsOf dis l (i + 1) (Nat.lor (bit i) done) ((false, i) :: out) else actsOf dis l (i + 1) done out
def agnsOf (dis : List DI) (dn ancU : Nat) (nx : Option Nat) (was : Nat) : List DI → Nat → List (Bool × Nat) → List (Bool × Nat)
  | [], _, out => out
  | d :: l, i, out => agnsOf dis dn ancU nx was l (i + 1) (bif d.kd.isRead && (Nat.testBit was i && possible dis i d dn ancU nx) then (true, i) :: out else out)
def nextOf (flt : Bool) (done : Nat) : List DI → Nat → Option Nat
  | [], _ => none
  | d :: l, i => bif (bif flt then d.kd.isFlt else d.kd.isMov) && (!Nat.testBit done i && sub d.anc done) then some i else nextOf flt done l (i + 1)
def nextMv (dis : List DI) (done : Nat) : Option Nat := match nextOf false done dis 0 with
  | some i => some i
  | none => nextOf true done dis 0
/-- The steps, the last one first. -/
def planF (dis : List DI) : Nat → Nat → Nat → Nat → List (Bool × Nat) → List (Bool × Nat)
  | 0, _, _, _, out => out
  | k + 1, done, dn, ancU, out => match actsOf dis dis 0 done out with
    | (out1, done1) => match nextMv dis done1 with
      | some m => planF dis k (Nat.lor (bit m) done1) (Nat.lor (bit m) dn) (Nat.lor (match dis[m]? with | some d => d.anc | none => 0) ancU) ((false, m) :: agnsOf dis dn ancU (some m) done dis 0 out1)
      | none => agnsOf dis dn ancU none done dis 0 out1
def planOf (dis : List DI) : List (Bool × Nat) := (planF dis (dis.length + 1) 0 0 0 []).reverse
def toStep (dis : List DI) (p : Bool × Nat) : DStep := match dis[p.2]? with
  | some d => ⟨p.1, d.io, d.ts⟩
  | none => ⟨p.1, ⟨none, .bad, none⟩, []⟩
def drawWith (dis : List DI) (l : List (Bool × Nat)) : IC := match chk dis l with
  | true => .draw (l.map (toStep dis)) (dis.filterMap (·.io.dst))
  | false => .bad
def drawOf (ops : List Oper) (ios : List IOper) : IC := drawWith (mkDIs ops ios []) (planOf (mkDIs ops ios []))

end
end Go.Ax
