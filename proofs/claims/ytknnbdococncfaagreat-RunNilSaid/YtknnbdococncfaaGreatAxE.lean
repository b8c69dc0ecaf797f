/- Part E: the operations that look at no memory are sound. -/
import Derived.Test.YtknnbdococncfaaGreatAxD
namespace Go.Ax
open Go
set_option linter.unusedSimpArgs false
set_option linter.unusedVariables false

variable {P : Program} {R : RsT} {B0 : Nat} {ρ ρ' : Nat → Nat} {F F' : Nat → Nat → Prop} {w w' : World} {M M' : Mem} {a : Act} {ev : Ev}

/-- An operation that yields a value in whatever world. -/
def Gives (P : Program) (ρ : Nat → Nat) (F : Nat → Nat → Prop) (w : World) (M : Mem) (a : Act) (o : Oper) (r : V) : Prop :=
  ∃ v, (∀ w, (execOp a.eval o).run P w = .ok (.value v) w) ∧ VR ρ F w M v r

theorem wrap_of_in (k : IntKind) (n : Int) (h : k.min ≤ n ∧ n ≤ k.max) : k.wrap n = n := by
  cases k <;> simp only [IntKind.min, IntKind.max, IntKind.signed, IntKind.bits] at h <;> simp only [IntKind.wrap, IntKind.bits, IntKind.signed] <;> simp at h ⊢ <;> omega
theorem blt_of {m k : Nat} (h : Nat.blt m k = true) : m < k := by simpa [Nat.blt_eq] using h
theorem c63_eq : (c63 : Int) = 9223372036854775808 := by decide
theorem c64_eq : (c64 : Int) = 18446744073709551616 := by decide
theorem min_i64 : IntKind.i64.min = -9223372036854775808 := by decide
theorem max_i64 : IntKind.i64.max = 9223372036854775807 := by decide
theorem min_u64 : IntKind.u64.min = 0 := by decide
theorem max_u64 : IntKind.u64.max = 18446744073709551615 := by decide
theorem min_u8 : IntKind.u8.min = 0 := by decide
theorem max_u8 : IntKind.u8.max = 255 := by decide
theorem inR_spec {k : IntKind} {n : Int} (h : inR k n = true) : k.min ≤ n ∧ n ≤ k.max := by
  have e1 := c63_eq
  have e2 := c64_eq
  unfold inR at h
  split at h
  · have := blt_of h
    rw [min_i64, max_i64, Int.ofNat_eq_natCast]; omega
  · have := blt_of h
    rw [min_i64, max_i64, Int.negSucc_eq]; omega
  · have := blt_of h
    rw [min_u64, max_u64, Int.ofNat_eq_natCast]; omega
  · have := blt_of h
    rw [min_u8, max_u8, Int.ofNat_eq_natCast]; omega
  · cases h
theorem wrapF_eq (k : IntKind) (n : Int) : wrapF k n = k.wrap n := by
  unfold wrapF
  cases h : inR k n with
  | false => rw [cond_false]
  | true => rw [cond_true, wrap_of_in k n (inR_spec h)]

theorem VR.int_inv {v : Value} {k n} (r : VR ρ F w M v (.int k n)) : v = .int k n := by cases r; rfl
theorem VR.bool_inv {v : Value} {b} (r : VR ρ F w M v (.bool b)) : v = .bool b := by cases r; rfl
theorem VR.str_inv {v : Value} {l} (r : VR ρ F w M v (.str l)) : ∃ s : ByteArray, v = .string s ∧ s.data.toList = l := by cases r; exact ⟨_, rfl, ‹_›⟩
theorem VR.agg_inv {v : Value} {l} (r : VR ρ F w M v (.agg l)) : ∃ cs, v = .agg cs ∧ VRs ρ F w M cs l := by cases r; exact ⟨_, rfl, ‹_›, ‹_›⟩
theorem VR.tuple_inv {v : Value} {l} (r : VR ρ F w M v (.tuple l)) : ∃ cs, v = .tuple cs ∧ VRs ρ F w M cs l := by cases r; exact ⟨_, rfl, ‹_›, ‹_›⟩

theorem toList_ba (s : ByteArray) : s.toList = s.data.toList := ByteArray.toList_eq s

/-! ### Numbers, strings -/
theorem bytesLt_eq : ∀ x y, bytesLt x y = Op.bytesLess x y
  | _, [] => by cases ‹List UInt8› <;> rfl
  | [], _ :: _ => rfl
  | a :: x, b :: y => by simp only [bytesLt, Op.bytesLess, bytesLt_eq x y]

theorem binI_sound {op : BinOp} {k : IntKind} {x y : Int} {r : V} (h : binI op k x y = some r) (t : TypeId) (hop : op ≠ .shl ∧ op ≠ .shr) :
    ∃ v, (∀ w0, (Go.binOp op t (.int k x) (.int k y)).run P w0 = .ok v w0) ∧ VR ρ F w M v r := by
  cases op <;> simp only [binI] at h <;> (try simp only [wrapF_eq] at h) <;> simp only [Go.binOp, Op.intArith, Op.intBits, Op.intCmp, Op.intDiv] <;> simp only [ne_eq, reduceCtorEq, not_false_eq_true, not_true_eq_false, false_and, and_false] at hop
  case quo =>
    cases hy : y == 0 with
    | true => simp [hy] at h
    | false =>
      simp [hy] at h; subst h
      have : y ≠ 0 := by simpa using hy
      exact ⟨_, fun w0 => by simp [this], .int _ _⟩
  case rem =>
    cases hy : y == 0 with
    | true => simp [hy] at h
    | false =>
      simp [hy] at h; subst h
      have : y ≠ 0 := by simpa using hy
      exact ⟨_, fun w0 => by simp [this], .int _ _⟩
  all_goals (cases h; exact ⟨_, fun w0 => by rw [if_neg (show ¬ (k ≠ k) by simp)]; rfl, by constructor⟩)

theorem binV_sound {op : BinOp} {d e r : V} {x y : Value} (hx : VR ρ F w M x d) (hy : VR ρ F w M y e) (h : binV op d e = some r) (t : TypeId) :
    ∃ v, (∀ w0, (Go.binOp op t x y).run P w0 = .ok v w0) ∧ VR ρ F w M v r := by
  unfold binV at h
  split at h
  · rename_i k p k' q
    have := hx.int_inv; subst this
    have := hy.int_inv; subst this
    split at h
    · cases hq : decide (q < 0) with
      | true => simp [hq] at h
      | false =>
        simp [hq, wrapF_eq] at h; subst h
        have : ¬ q < 0 := by simpa using hq
        exact ⟨_, fun w0 => by simp [Go.binOp, Op.shift, this], .int _ _⟩
    · cases hq : decide (q < 0) with
      | true => simp [hq] at h
      | false =>
        simp [hq] at h; subst h
        have : ¬ q < 0 := by simpa using hq
        exact ⟨_, fun w0 => by simp [Go.binOp, Op.shift, this], .int _ _⟩
    · rename_i h1 h2
      split at h
      · rename_i hk; subst hk
        exact binI_sound h t ⟨h1, h2⟩
      · cases h
  · rename_i p q
    obtain ⟨s, rfl, rfl⟩ := hx.str_inv
    obtain ⟨s', rfl, rfl⟩ := hy.str_inv
    cases op <;> simp only [reduceCtorEq] at h <;> simp only [Go.binOp, Op.stringOp, toList_ba]
    case add =>
      cases hb : Nat.blt (s.data.toList.length + s'.data.toList.length) c63 with
      | false => rw [hb, cond_false] at h; cases h
      | true =>
        rw [hb, cond_true, Option.some.injEq] at h
        subst h
        have h1 := blt_of hb
        have e1 := c63_eq
        have h2 : ¬ (((s.size + s'.size : Nat) : Int) > IntKind.i64.max) := by
          rw [max_i64]
          have e3 : s.size = s.data.toList.length := rfl
          have e4 : s'.size = s'.data.toList.length := rfl
          omega
        exact ⟨.string (s ++ s'), fun w0 => by rw [if_neg h2]; rfl, .str _ _ (by rw [ByteArray.data_append, Array.toList_append])⟩
    all_goals (cases h; first | exact ⟨_, fun w0 => rfl, .bool _⟩ | exact ⟨_, fun w0 => rfl, by rw [bytesLt_eq]; exact .bool _⟩)
  · cases h

theorem eqGuard_run (op : BinOp) (t : TypeId) (X Y : Operand) {x y : Value} (h : (∀ p q, ¬(x = .agg p ∧ y = .agg q)) ∧ ¬ (x = .nilIface ∧ y = .nilIface)) (w0 : World) : (eqGuard op t X Y x y).run P w0 = .ok () w0 := by
  unfold eqGuard
  generalize (!(match op with | .eql => true | .neq => true | _ => false)) = b
  cases b with
  | true => rfl
  | false =>
    rw [if_neg (by simp)]
    split
    · exact absurd ⟨rfl, rfl⟩ h.2
    · exact absurd ⟨rfl, rfl⟩ (h.1 _ _)
    · rfl

theorem isNilk_sound {kind : Nat} {d e : V} {b : Bool} {x y : Value} (hx : VR ρ F w M x d) (hy : VR ρ F w M y e) (h : isNilk kind d e = some b) (t : TypeId)
    (ht : (kind = 0 → P.underlying t = some .bool) ∧ (kind = 1 → ∃ u, P.underlying t = some (.pointer u)) ∧ (kind = 2 → ∃ u, P.underlying t = some (.slice u))) (w0 : World) :
    (Op.equal t x y).run P w0 = .ok b w0 ∧ (Go.binOp .eql t x y).run P w0 = .ok (.bool b) w0 ∧ (Go.binOp .neq t x y).run P w0 = .ok (.bool !b) w0 ∧ (∀ p q, ¬(x = .agg p ∧ y = .agg q)) ∧ ¬ (x = .nilIface ∧ y = .nilIface) := by
  have key : (Op.equal t x y).run P w0 = .ok b w0 := by
    unfold isNilk at h
    unfold Op.equal Op.equalIn Op.maxDepth
    split at h
    · have := hx.bool_inv; subst this
      have := hy.bool_inv; subst this
      cases h
      simp [run_underlying (ht.1 rfl)]
    all_goals first | cases h | skip
    all_goals first
      | (obtain ⟨u, hu⟩ := ht.2.1 rfl; cases hx <;> cases hy <;> simp [run_underlying hu])
      | (obtain ⟨u, hu⟩ := ht.2.2 rfl; cases hx <;> cases hy <;> simp [run_underlying hu])
  refine ⟨key, ?_⟩
  unfold isNilk at h
  split at h <;> (try cases h) <;> cases hx <;> cases hy <;> (refine ⟨?_, ?_, ?_, ?_⟩ <;> first | (simp [Go.binOp, key]; done) | simp)

end Go.Ax
