/- Part D: the operations that look at no memory are sound. -/
import Derived.Test.YtknnbdococncfaaGreatAxC
import Derived.WalkKit
namespace Go.Ax
open Go
set_option linter.unusedSimpArgs false
set_option linter.unusedVariables false

variable {P : Program} {R : RsT} {B0 : Nat} {ρ ρ' : Nat → Nat} {F F' : Nat → Nat → Prop} {w w' : World} {M M' : Mem}

theorem run_szOf {t n} (h : szOf P t = some n) (w : World) : (sizeOf t).run P w = .ok n w := by
  unfold szOf at h
  cases hi : P.info? t with
  | none => simp [hi] at h
  | some i => simp [hi] at h; subst h; simp [sizeOf, typeInfo, hi]
theorem run_aggOf {t b} (h : aggOf P t = some b) (w : World) : (isAgg t).run P w = .ok b w := by
  unfold aggOf at h
  cases hu : P.underlying t with
  | none => simp [hu] at h
  | some d => simp [hu] at h; subst h; simp only [isAgg, Sem.run_bind, run_underlying hu, Result.andThen_ok]; cases d <;> rfl

theorem VRs.get {cs : Array Value} {ds : List V} (h : VRs ρ F w M cs ds) {i : Nat} {d : V} (hd : ds[i]? = some d) : ∃ c, cs[i]? = some c ∧ VR ρ F w M c d := by
  have hi : i < ds.length := (List.getElem?_eq_some_iff.1 hd).1
  have hc : i < cs.size := by rw [h.1]; exact hi
  exact ⟨cs[i], Array.getElem?_eq_getElem hc, h.2 i _ d (Array.getElem?_eq_getElem hc) hd⟩
theorem VRs.getD {cs : Array Value} {ds : List V} (h : VRs ρ F w M cs ds) (i : Nat) (u : Value) : VR ρ F w M (cs.getD i u) (ds.getD i .any) := by
  cases hd : ds[i]? with
  | none => rw [List.getD_eq_getElem?_getD, hd]; exact .any _
  | some d =>
    obtain ⟨c, hc, r⟩ := h.get hd
    rw [List.getD_eq_getElem?_getD, hd, Array.getD_eq_getD_getElem?, hc]; exact r
theorem VRs.set {cs : Array Value} {ds : List V} (h : VRs ρ F w M cs ds) (i : Nat) {v : Value} {d : V} (r : VR ρ F w M v d) : VRs ρ F w M (cs.setIfInBounds i v) (ds.set i d) := by
  refine ⟨by simp [h.1], fun j c e hc he => ?_⟩
  by_cases hij : i = j
  · subst hij
    rw [Array.getElem?_setIfInBounds_self] at hc
    rw [List.getElem?_set_self'] at he
    split at hc
    · cases hc
      cases hd : ds[i]? with
      | none => simp [hd] at he
      | some x => simp [hd] at he; subst he; exact r
    · cases hc
  · rw [Array.getElem?_setIfInBounds_ne hij] at hc
    rw [List.getElem?_set_ne hij] at he
    exact h.2 j c e hc he
theorem VRs.nil : VRs ρ F w M #[] [] := ⟨rfl, fun i c d hc => by simp at hc⟩
theorem VRs.of_list {cs : List Value} {ds : List V} (hl : cs.length = ds.length) (h : ∀ (i : Nat) c d, cs[i]? = some c → ds[i]? = some d → VR ρ F w M c d) : VRs ρ F w M cs.toArray ds :=
  ⟨by simp [hl], fun i c d hc hd => h i c d (by simpa using hc) hd⟩
theorem VR.of_agg {cs : Array Value} {ds : List V} (h : VRs ρ F w M cs ds) : VR ρ F w M (.agg cs) (.agg ds) := .agg cs ds h.1 h.2
theorem VR.of_tuple {cs : Array Value} {ds : List V} (h : VRs ρ F w M cs ds) : VR ρ F w M (.tuple cs) (.tuple ds) := .tuple cs ds h.1 h.2

/-- The cells of a value. -/
theorem VR.cells {v : Value} {d : V} (r : VR ρ F w M v d) (h : d.cells.all V.one = true) : VRs ρ F w M v.cells d.cells := by
  cases r with
  | agg cs ds h1 h2 => exact ⟨h1, h2⟩
  | any => simp [V.cells, V.one] at h
  | tuple => simp [V.cells, V.one] at h
  | _ => 
    refine ⟨rfl, fun i c d hc hd => ?_⟩
    cases i with
    | zero => simp [Value.cells, V.cells] at hc hd; subst hc; subst hd; first | (constructor <;> assumption) | constructor
    | succ i => simp [V.cells] at hd
theorem VR.one {v : Value} {d : V} (r : VR ρ F w M v d) (h : d.one = true) : v.oneCell' = true := by
  cases r <;> first | rfl | simp [V.one] at h

/-! ### Constants and operands -/
theorem constOne {v : Value} {d : V} (h : (match v with
      | .bool b => some (.bool b)
      | .int k n => some (.int k n)
      | .float k b => some (.float k b)
      | .string s => some (.str s.data.toList)
      | .pointer none => some .nilp
      | .slice none 0 0 => some .nils
      | .map none => some .nilm
      | .nilFunc => some .nilf
      | .nilIface => some .nili
      | _ => (none : Option V)) = some d) : VR ρ F w M v d := by
  split at h <;> first | (cases h; done) | (cases h; first | exact .bool _ | exact .int _ _ | exact .float _ _ | exact .str _ _ rfl | exact .nilp | exact .nils | exact .nilm | exact .nilf | exact .nili)
theorem mapM_get {α β : Type} {f : α → Option β} : ∀ {l : List α} {l' : List β}, l.mapM f = some l' → l.length = l'.length ∧ ∀ (i : Nat) a b, l[i]? = some a → l'[i]? = some b → f a = some b
  | [], l', h => by simp at h; subst h; exact ⟨rfl, fun i a b ha _ => by simp at ha⟩
  | x :: l, l', h => by
    simp only [List.mapM_cons, Option.bind_eq_bind, Option.pure_def] at h
    cases hx : f x with
    | none => simp [hx] at h
    | some y =>
      cases hl : l.mapM f with
      | none => simp [hx, hl] at h
      | some ys =>
        simp [hx, hl] at h; subst h
        obtain ⟨h1, h2⟩ := mapM_get hl
        refine ⟨by simp [h1], fun i a b ha hb => ?_⟩
        cases i with
        | zero => simp at ha hb; subst ha; subst hb; exact hx
        | succ i => simp at ha hb; exact h2 i a b ha hb
theorem constV_sound {v : Value} {d : V} (h : constV v = some d) : VR ρ F w M v d := by
  unfold constV at h
  split at h
  case h_10 cs =>
    split at h
    · rename_i l hl
      cases h
      obtain ⟨h1, h2⟩ := mapM_get hl
      exact .agg _ _ (by simpa using h1) fun i c d hc hd => constOne (h2 i c d (by simpa using hc) hd)
    · cases h
  all_goals first | (cases h; done) | (cases h; first | exact .bool _ | exact .int _ _ | exact .float _ _ | exact .str _ _ rfl | exact .nilp | exact .nils | exact .nilm | exact .nilf | exact .nili)

/-- What the arguments of the small code stand for. -/
def EvR (ρ : Nat → Nat) (F : Nat → Nat → Prop) (w : World) (M : Mem) (a : Act) (ev : Ev) : Prop := ∀ x xi, rsArg x = some xi → VR ρ F w M (a.eval x) (ev xi)

end Go.Ax
