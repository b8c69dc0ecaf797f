/- Part G: the operations that look at no memory are sound (3). -/
import Derived.Test.YtknnbdococncfaaGreatAxF
namespace Go.Ax
open Go
set_option linter.unusedSimpArgs false
set_option linter.unusedVariables false

variable {P : Program} {R : RsT} {B0 : Nat} {ρ ρ' : Nat → Nat} {F F' : Nat → Nat → Prop} {w w' : World} {M M' : Mem} {a : Act} {ev : Ev}

theorem putAt_sound (off : Nat) : ∀ (xs : List Value) (ys : List V) (k : Nat) (cs : Array Value) (ds : List V), xs.length = ys.length → (∀ (i : Nat) c d, xs[i]? = some c → ys[i]? = some d → VR ρ F w M c d) → VRs ρ F w M cs ds →
    VRs ρ F w M ((xs.zipIdx k).foldl (fun cs p => cs.setIfInBounds (off + p.2) p.1) cs) (putAt ds (off + k) ys)
  | [], [], k, cs, ds, _, _, h => by simpa [putAt] using h
  | x :: xs, y :: ys, k, cs, ds, hl, hr, h => by
    simp only [List.zipIdx_cons, List.foldl_cons, putAt]
    rw [show off + k + 1 = off + (k + 1) by omega]
    exact putAt_sound off xs ys (k + 1) _ _ (by simpa using hl) (fun i c d hc hd => hr (i + 1) c d (by simpa using hc) (by simpa using hd)) (h.set _ (hr 0 x y rfl rfl))
  | [], _ :: _, _, _, _, hl, _, _ => by simp at hl
  | _ :: _, [], _, _, _, hl, _, _ => by simp at hl

theorem putAt_length : ∀ (ys : List V) (ds : List V) (off : Nat), (putAt ds off ys).length = ds.length
  | [], ds, off => rfl
  | y :: ys, ds, off => by simp [putAt, putAt_length ys]

theorem fillV_sound {place : Nat → Option (Nat × Nat)} (he : EvR ρ F w M a ev) : ∀ (ps : List (Nat × Operand)) (qs : List (Nat × Nat × IArg)) (cs : Array Value) (ds : List V) (r : List V),
    ps.length = qs.length → (∀ (i : Nat) p q, ps[i]? = some p → qs[i]? = some q → place p.1 = some (q.1, q.2.1) ∧ rsArg p.2 = some q.2.2) → VRs ρ F w M cs ds → fillV ev ds qs = some r →
    ∃ cs', Instr.fill place cs (ps.map fun p => (p.1, a.eval p.2)) = some cs' ∧ VRs ρ F w M cs' r
  | [], [], cs, ds, r, _, _, hv, h => by simp [fillV] at h; subst h; exact ⟨cs, rfl, hv⟩
  | p :: ps, (off, n, x) :: qs, cs, ds, r, hl, hp, hv, h => by
    obtain ⟨h1, h2⟩ := hp 0 p (off, n, x) rfl rfl
    simp only [fillV] at h
    cases hb : Nat.beq (ev x).cells.length n && Nat.ble (off + n) ds.length && (ev x).cells.all V.one with
    | false => rw [hb] at h; cases h
    | true =>
      rw [hb, cond_true] at h
      simp only [Bool.and_eq_true, Nat.beq_eq_true_eq] at hb
      obtain ⟨⟨b1, b2⟩, b3⟩ := hb
      have b1 : (ev x).cells.length = n := Nat.eq_of_beq_eq_true b1
      have b2 := Nat.le_of_ble_eq_true b2
      have hx := (he p.2 x h2).cells b3
      have step := putAt_sound (ρ := ρ) (F := F) (w := w) (M := M) off (a.eval p.2).cells.toList (ev x).cells 0 cs ds (by simpa using hx.1)
        (fun i c d hc hd => hx.2 i c d (by simpa using hc) hd) hv
      rw [Nat.add_zero] at step
      obtain ⟨cs', e1, e2⟩ := fillV_sound he ps qs _ _ r (by simpa using hl) (fun i p q a b => hp (i + 1) p q (by simpa using a) (by simpa using b)) step h
      refine ⟨cs', ?_, e2⟩
      simp only [List.map_cons, Instr.fill, h1]
      rw [if_neg (by have := hx.1; have := hv.1; simp; omega)]
      rw [← e1]
      congr 1
      rw [← Array.foldl_toList, Array.toList_zipIdx]
  | [], _ :: _, _, _, _, hl, _, _, _ => by simp at hl
  | _ :: _, [], _, _, _, hl, _, _, _ => by simp at hl

theorem mxs_sound {mn : Bool} : ∀ (xs : List Value) (ys : List V) (x : Value) (y r : V), xs.length = ys.length → (∀ (i : Nat) c d, xs[i]? = some c → ys[i]? = some d → VR ρ F w M c d) → VR ρ F w M x y → mxs mn ys y = some r →
    ∃ v, (∀ w0, (xs.foldlM (if mn then Builtin.min2 else Builtin.max2) x).run P w0 = .ok v w0) ∧ VR ρ F w M v r
  | [], [], x, y, r, _, _, hx, h => by simp [mxs] at h; subst h; exact ⟨x, fun w0 => rfl, hx⟩
  | c :: xs, d :: ys, x, y, r, hl, hr, hx, h => by
    simp only [mxs] at h
    cases hz : mx2 mn y d with
    | none => rw [hz] at h; cases h
    | some z =>
      rw [hz] at h
      unfold mx2 at hz
      split at hz
      · rename_i k p k' q
        cases hz
        have := hx.int_inv; subst this
        have := (hr 0 c _ rfl rfl).int_inv; subst this
        obtain ⟨v, h1, h2⟩ := mxs_sound xs ys (.int k (if (if mn then q < p else q > p) then q else p)) _ r (by simpa using hl) (fun i c d hc hd => hr (i + 1) c d (by simpa using hc) (by simpa using hd)) (.int _ _) h
        refine ⟨v, fun w0 => ?_, h2⟩
        rw [List.foldlM_cons, Sem.run_bind, ← h1 w0]
        cases mn <;> simp [Builtin.min2, Builtin.max2]
      · cases hz
  | [], _ :: _, _, _, _, hl, _, _, _ => by simp at hl
  | _ :: _, [], _, _, _, hl, _, _, _ => by simp at hl

end Go.Ax
