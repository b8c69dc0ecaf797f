/- The abstract executor, part A: abstract values, abstract memory (a trie), and how they stand to the machine's values and world. -/
import Derived.RangeFuncLeaves
import Derived.RangeFuncRecord
import Derived.Below
namespace Go.Ax
open Go
noncomputable section

/-! ### A trie -/
inductive T (α : Type) where
  | leaf
  | node (v : Option α) (l r : T α)
  deriving Inhabited
/-- A number as a path. -/
inductive Pth where
  | e | o (p : Pth) | i (p : Pth)
  deriving DecidableEq
def pathF (k : Nat) : Nat → Pth := Nat.rec (motive := fun _ => Nat → Pth) (fun _ => .e)
  (fun _ ih n => bif Nat.beq n 0 then .e else bif Nat.beq (n % 2) 1 then .o (ih (n / 2)) else .i (ih (n / 2 - 1))) k
def path (n : Nat) : Pth := pathF (n + 1) n
def Pth.idx : Pth → Nat
  | .e => 0 | .o p => 2 * p.idx + 1 | .i p => 2 * p.idx + 2
theorem idx_pathF (k : Nat) : ∀ n, n < k → (pathF k n).idx = n := by
  induction k with
  | zero => intro n h; omega
  | succ k ih =>
    intro n h
    show (bif Nat.beq n 0 then Pth.e else bif Nat.beq (n % 2) 1 then .o (pathF k (n / 2)) else .i (pathF k (n / 2 - 1))).idx = n
    by_cases h0 : n = 0
    · subst h0; rfl
    · rw [show Nat.beq n 0 = false by cases n with | zero => exact absurd rfl h0 | succ n => rfl, cond_false]
      by_cases h1 : n % 2 = 1
      · rw [h1, show Nat.beq 1 1 = true from rfl, cond_true, Pth.idx, ih _ (by omega)]; omega
      · rw [show n % 2 = 0 by omega, show Nat.beq 0 1 = false from rfl, cond_false, Pth.idx, ih _ (by omega)]; omega
theorem idx_path (n : Nat) : (path n).idx = n := idx_pathF _ _ (by omega)
theorem path_inj {n m : Nat} (h : path n = path m) : n = m := by rw [← idx_path n, h, idx_path]
namespace T
variable {α : Type}
def val (t : T α) : Option α := T.casesOn (motive := fun _ => Option α) t none (fun v _ _ => v)
def left (t : T α) : T α := T.casesOn (motive := fun _ => T α) t .leaf (fun _ l _ => l)
def right (t : T α) : T α := T.casesOn (motive := fun _ => T α) t .leaf (fun _ _ r => r)
def getP (p : Pth) : T α → Option α := Pth.rec (motive := fun _ => T α → Option α) (fun t => t.val) (fun _ ih t => ih t.left) (fun _ ih t => ih t.right) p
def setP (p : Pth) (x : Option α) : T α → T α := Pth.rec (motive := fun _ => T α → T α) (fun t => .node x t.left t.right) (fun _ ih t => .node t.val (ih t.left) t.right) (fun _ ih t => .node t.val t.left (ih t.right)) p
def get (t : T α) (n : Nat) : Option α := getP (path n) t
def set (t : T α) (n : Nat) (x : Option α) : T α := setP (path n) x t
theorem getP_leaf : ∀ p : Pth, getP p (.leaf : T α) = none
  | .e => rfl
  | .o p => getP_leaf p
  | .i p => getP_leaf p
theorem getP_setP (x : Option α) : ∀ (q p : Pth) (t : T α), getP p (setP q x t) = if p = q then x else getP p t
  | .e, .e, t => by cases t <;> rfl
  | .e, .o p, t => by cases t <;> rfl
  | .e, .i p, t => by cases t <;> rfl
  | .o q, .e, t => by cases t <;> rfl
  | .o q, .i p, t => by cases t <;> rfl
  | .i q, .e, t => by cases t <;> rfl
  | .i q, .o p, t => by cases t <;> rfl
  | .o q, .o p, t => by
    show getP p (setP q x t.left) = if Pth.o p = Pth.o q then x else getP p t.left
    rw [getP_setP x q p t.left]
    by_cases h : p = q
    · subst h; rw [if_pos rfl, if_pos rfl]
    · rw [if_neg h, if_neg (fun e => h (by injection e))]
  | .i q, .i p, t => by
    show getP p (setP q x t.right) = if Pth.i p = Pth.i q then x else getP p t.right
    rw [getP_setP x q p t.right]
    by_cases h : p = q
    · subst h; rw [if_pos rfl, if_pos rfl]
    · rw [if_neg h, if_neg (fun e => h (by injection e))]
theorem get_set (t : T α) (n : Nat) (x : Option α) (m : Nat) : (t.set n x).get m = if m = n then x else t.get m := by
  unfold get set
  rw [getP_setP]
  by_cases h : m = n
  · subst h; rw [if_pos rfl, if_pos rfl]
  · rw [if_neg h, if_neg (fun e => h (path_inj e))]
@[simp] theorem get_leaf (n : Nat) : (T.leaf : T α).get n = none := getP_leaf _
/-- Set where something stands. -/
def put (t : T α) (n : Nat) (x : α) : T α := match t.get n with | some _ => t.set n (some x) | none => t
def fillN (a : α) (k : Nat) : T α := Nat.rec .leaf (fun k t => t.set k (some a)) k
end T

/-! ### Abstract values -/
inductive V where
  | any
  | bool (b : Bool) | int (k : IntKind) (n : Int) | float (k : FloatKind) (bits : Nat) | str (s : List UInt8)
  | nilp | ptr (b off : Nat) | fptr (v : V)
  | nils | sref (b off len sz : Nat) | fsl (elems : List V)
  | nilm | mref (b : Nat)
  | nilf | func (f : Nat) (cap : List V) | yld (l : Nat)
  | nili | iface (t : Nat) (v : V)
  | agg (cells : List V) | tuple (vs : List V)
  deriving Inhabited

def V.cells : V → List V
  | .agg cs => cs
  | v => [v]
/-- The value of one cell, and a known one. -/
def V.one : V → Bool
  | .any | .agg _ | .tuple _ => false
  | _ => true

/-! ### The small code that is run -/
inductive IArg where
  | t (n : Nat) | c (v : V) | g (n : Nat)
  deriving Inhabited

/-- A map's keys: numbers, strings, flat structs. -/
inductive KM where
  | num | text | flat (ks : List Nat)
  deriving Inhabited
inductive IOp where
  | bad
  | mv (x : IArg)
  | pick (c x y : IArg)
  | alloc (zero : List V)
  | box (x : IArg)
  | build (zero : List V) (parts : List (Nat × Nat × IArg))
  | bslice (sz len : Nat) (zero : List V) (parts : List (Nat × IArg))
  | load (agg : Bool) (n : Nat) (a : IArg)
  | store (n : Nat) (a x : IArg)
  | nilck (x : IArg)
  | bin (op : BinOp) (x y : IArg)
  | eqk (kind : Nat) (neg : Bool) (x y : IArg)
  | eqs (neg : Bool) (ks : List Nat) (x y : IArg)
  | un (op : UnOp) (x : IArg)
  | cint (k : IntKind) (x : IArg)
  | cid (x : IArg)
  | fld (agg : Bool) (off n : Nat) (x : IArg)
  | fadr (agg : Bool) (off n : Nat) (a : IArg)
  | iadr (sz : Nat) (x i : IArg)
  | iadrA (agg : Bool) (len sz : Nat) (x i : IArg)
  | idxS (x i : IArg)
  | idxA (agg : Bool) (len sz : Nat) (x i : IArg)
  | slcS (x : IArg) (lo hi : Option IArg)
  | slc (sz : Nat) (x : IArg) (lo hi : Option IArg)
  | ext (x : IArg) (i : Nat)
  | call (f : Nat) (args : List IArg)
  | callv (x : IArg) (args : List IArg)
  | app (sz bytes : Nat) (x y : IArg)
  | len (str : Bool) (x : IArg)
  | mx (mn : Bool) (args : List IArg)
  | mkf (f : Nat) (cap : List IArg)
  | mkmap
  | lookup (km : KM) (zero : V) (x k : IArg) (ok : Bool)
  | mapset (km : KM) (x k v : IArg)
  | mksl (sz bytes : Nat) (zero : List V) (len cap : IArg)
  | b2s (x : IArg)
  | mlen (x : IArg)
  | fslc (sz len : Nat) (zero : List V) (parts : List (Nat × IArg))
  deriving Inhabited
structure IOper where
  dst : Option Nat
  op : IOp
  guard : Option (Option Nat × Bool)
  deriving Inhabited
/-- A step of a region that draws its order: an operation done, or done again and held against what it gave; the temporaries that it reads. -/
structure DStep where
  ag : Bool
  io : IOper
  ts : List Nat
  deriving Inhabited
inductive IC where
  | skip | bad
  | reg (ops : List IOper)
  | draw (l : List DStep) (dsts : List Nat)
  | seq (a b : IC)
  | cond (c : IArg) (thn els : IC)
  | block (id : Nat) (body : IC)
  | loop (body : IC)
  | exit (id : Nat)
  | ret
  | rangeF (g : IArg) (ps : List Nat) (ca cb : Code) (a b : IC)
  deriving Inhabited

/-! ### Abstract memory -/
structure LRec where
  state : LoopState
  pending : Option Code
  env : T V
  params : List Nat
  ca : Code
  cb : Code
  a : IC
  b : IC
inductive AObj where
  | arr (exact : Bool) (cells : List V)
  | map (es : List (V × V))
  | loop (r : LRec)
  | dfr
structure Mem where
  tree : T AObj
  next : Nat
namespace Mem
def get (M : Mem) (b : Nat) : Option AObj := M.tree.get b
def set (M : Mem) (b : Nat) (o : AObj) : Mem := ⟨M.tree.set b (some o), M.next⟩
def drop (M : Mem) (b : Nat) : Mem := ⟨M.tree.set b none, M.next⟩
def alloc (M : Mem) (o : AObj) : Mem := ⟨M.tree.set M.next (some o), M.next + 1⟩
def empty : Mem := ⟨.leaf, 0⟩
@[simp] theorem get_set (M : Mem) (b : Nat) (o : AObj) (c : Nat) : (M.set b o).get c = if c = b then some o else M.get c := T.get_set ..
@[simp] theorem get_drop (M : Mem) (b : Nat) (c : Nat) : (M.drop b).get c = if c = b then none else M.get c := T.get_set ..
@[simp] theorem get_alloc (M : Mem) (o : AObj) (c : Nat) : (M.alloc o).get c = if c = M.next then some o else M.get c := T.get_set ..
@[simp] theorem next_set (M : Mem) (b : Nat) (o : AObj) : (M.set b o).next = M.next := rfl
@[simp] theorem next_drop (M : Mem) (b : Nat) : (M.drop b).next = M.next := rfl
@[simp] theorem next_alloc (M : Mem) (o : AObj) : (M.alloc o).next = M.next + 1 := rfl
@[simp] theorem get_empty (b : Nat) : empty.get b = none := T.get_leaf b
end Mem

/-! ### How abstract values stand to the machine's -/
inductive VR (ρ : Nat → Nat) (F : Nat → Nat → Prop) (w : World) (M : Mem) : Value → V → Prop
  | any (v : Value) : VR ρ F w M v .any
  | bool (b : Bool) : VR ρ F w M (.bool b) (.bool b)
  | int (k : IntKind) (n : Int) : VR ρ F w M (.int k n) (.int k n)
  | float (k : FloatKind) (n : Nat) : VR ρ F w M (.float k n) (.float k n)
  | str (s : ByteArray) (l : List UInt8) : s.data.toList = l → VR ρ F w M (.string s) (.str l)
  | nilp : VR ρ F w M (.pointer none) .nilp
  | ptr (a : Addr) (b off : Nat) : b < M.next → (M.get b ≠ none → a = ⟨ρ b, off, none⟩) → VR ρ F w M (.pointer (some a)) (.ptr b off)
  | fptr (cb off : Nat) (d : V) (x : Nat → Value) :
      (∀ j c, d.cells[j]? = some c → F cb (off + j) ∧ w.cell? ⟨cb, off + j, none⟩ = some (x j)) →
      (∀ j c, d.cells[j]? = some c → VR ρ F w M (x j) c) → VR ρ F w M (.pointer (some ⟨cb, off, none⟩)) (.fptr d)
  | nils : VR ρ F w M (.slice none 0 0) .nils
  | sref (a : Addr) (cap b off len sz : Nat) : b < M.next → len ≤ cap →
      (M.get b ≠ none → (0 < cap → a = ⟨ρ b, off, none⟩) ∧ ∃ cs e fr, w.heap[ρ b]? = some (.cells cs e fr) ∧ off + cap * sz = cs.size) →
      VR ρ F w M (.slice (some a) len cap) (.sref b off len sz)
  | fsl (cb off cap sz : Nat) (es : List V) (x : Nat → Nat → Value) : es.length ≤ cap →
      (∀ i d, es[i]? = some d → d.cells.length = sz ∧ ∀ j c, d.cells[j]? = some c → F cb (off + i * sz + j) ∧ w.cell? ⟨cb, off + i * sz + j, none⟩ = some (x i j)) →
      (∀ i d j c, es[i]? = some d → d.cells[j]? = some c → VR ρ F w M (x i j) c) → VR ρ F w M (.slice (some ⟨cb, off, none⟩) es.length cap) (.fsl es)
  | nilm : VR ρ F w M (.map none) .nilm
  | mref (r b : Nat) : b < M.next → (M.get b ≠ none → r = ρ b) → VR ρ F w M (.map (some r)) (.mref b)
  | nilf : VR ρ F w M .nilFunc .nilf
  | func (f : Nat) (cs : Array Value) (ds : List V) : cs.size = ds.length →
      (∀ (i : Nat) (c : Value) (d : V), cs[i]? = some c → ds[i]? = some d → VR ρ F w M c d) → VR ρ F w M (.func (.func f) #[] cs) (.func f ds)
  | yld (r l : Nat) : l < M.next → (M.get l ≠ none → r = ρ l) → VR ρ F w M (.func (.yield r) #[] #[]) (.yld l)
  | nili : VR ρ F w M .nilIface .nili
  | iface (t : Nat) (v : Value) (d : V) : VR ρ F w M v d → VR ρ F w M (.iface t v) (.iface t d)
  | agg (cs : Array Value) (ds : List V) : cs.size = ds.length →
      (∀ (i : Nat) (c : Value) (d : V), cs[i]? = some c → ds[i]? = some d → VR ρ F w M c d) → VR ρ F w M (.agg cs) (.agg ds)
  | tuple (cs : Array Value) (ds : List V) : cs.size = ds.length →
      (∀ (i : Nat) (c : Value) (d : V), cs[i]? = some c → ds[i]? = some d → VR ρ F w M c d) → VR ρ F w M (.tuple cs) (.tuple ds)

/-- Rows of values, place by place. -/
def VRs (ρ : Nat → Nat) (F : Nat → Nat → Prop) (w : World) (M : Mem) (cs : Array Value) (ds : List V) : Prop :=
  cs.size = ds.length ∧ ∀ (i : Nat) (c : Value) (d : V), cs[i]? = some c → ds[i]? = some d → VR ρ F w M c d

/-- A frame's temporaries. -/
def ER (ρ : Nat → Nat) (F : Nat → Nat → Prop) (w : World) (M : Mem) (cs : Array Value) (E : T V) : Prop :=
  ∀ (n : Nat) (d : V), E.get n = some d → ∃ c, cs[n]? = some c ∧ VR ρ F w M c d

end
end Go.Ax
