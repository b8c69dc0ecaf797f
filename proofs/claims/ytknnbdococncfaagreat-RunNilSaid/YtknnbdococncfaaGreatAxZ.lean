/- Part Z: a closed call: what the executor answers is what the call returns, and nothing that was there has changed. -/
import Derived.Test.YtknnbdococncfaaGreatAxR
namespace Go.Ax
open Go RowKit
noncomputable section
set_option linter.unusedSimpArgs false
set_option linter.unusedVariables false

def resI (P : Program) : ResultVar → Option IRes
  | .tmp t => some (.tmp t)
  | .cell a ty => match aggOf P ty with
    | some g => match szOf P ty with | some n => some (.cell g n a) | none => none
    | none => none
def resL (P : Program) : List ResultVar → Option (List IRes)
  | [] => some []
  | r :: rs => match resI P r with
    | some x => match resL P rs with | some l => some (x :: l) | none => none
    | none => none
def ifnOf (P : Program) (f : Nat) : Option IFn := match P.funcs[f]? with
  | some fn => match fn.body with
    | some c => match fn.name == "runtime.NumGoroutine" with
      | true => none
      | false => match resL P fn.results.toList with
        | some rs => some ⟨fn.ntmps, rs, rsCode P c⟩
        | none => none
    | none => none
  | none => none
def cxOf (P : Program) : Cx := ⟨ifnOf P, .leaf⟩

variable {P : Program}
theorem resL_spec : ∀ (rs : List ResultVar) (qs : List IRes), resL P rs = some qs → ResR P rs qs
  | [], qs, h => by cases h; trivial
  | .tmp t :: rs, qs, h => by
    simp only [resL, resI] at h
    split at h
    · rename_i l hl; cases h; exact ⟨rfl, resL_spec rs l hl⟩
    · cases h
  | .cell a ty :: rs, qs, h => by
    simp only [resL, resI] at h
    split at h
    · rename_i x hx
      split at h
      · rename_i l hl
        cases h
        split at hx
        · rename_i g hg
          split at hx
          · rename_i n hn; cases hx; exact ⟨rfl, hg, hn, resL_spec rs l hl⟩
          · cases hx
        · cases hx
      · cases h
    · cases h
theorem tr_cx (h : P.follows .mixedOrders = true) : TR P (cxOf P) := ⟨h, fun f ifn hf => by
  have hf : ifnOf P f = some ifn := hf
  unfold ifnOf at hf
  split at hf
  · rename_i fn hfn
    split at hf
    · rename_i c hc
      split at hf
      · cases hf
      · rename_i hn
        split at hf
        · rename_i rs hrs
          cases hf
          exact ⟨fn, c, hfn, hc, hn, rfl, rfl, resL_spec _ _ hrs⟩
        · cases hf
    · cases hf
  · cases hf⟩

def isTrue : Option Res → Bool
  | some (.call (.bool true) _) => true
  | _ => false
theorem closed_true (hm : P.follows .mixedOrders = true) {f k : Nat} (h : isTrue (run (cxOf P) k (.call f [] .empty)) = true) (W : World) :
    Calls P f #[] W fun e W' => e = .returned (.bool true) ∧ Below W.heap.size W W' := by
  have K := keeps2_run (tr_cx hm) k
  generalize hr : run (cxOf P) k (.call f [] .empty) = r at h
  unfold isTrue at h
  split at h
  · rename_i M
    have m : MR (Rr P) W.heap.size (fun b => b) (fun _ _ => False) W .empty :=
      ⟨fun b o h => by simp at h, fun b c h => by simp at h, fun b h => by simp at h, fun b h => by simp at h, fun b h => by simp at h, fun b off h => by simp at h, fun cb off h => h.elim, Nat.le_refl _⟩
    refine (K.call f [] .empty _ _ hr _ _ _ W #[] m (fun n v hn => ?_) VRs.nil).mono ?_
    · have hn : (T.leaf : T V).get n = some v := hn
      rw [T.get_leaf] at hn; cases hn
    · rintro e W' ⟨u, ρ', F', rfl, st, hu⟩
      rw [hu.bool_inv]
      exact ⟨rfl, st.le.os, st.le.tape, st.le.output, st.le.heap, fun k hk => st.le.keep k hk (fun b hb => by simp at hb)⟩
  · cases h

end
end Go.Ax
