/- Part Q: the executor is sound: code, calls, the whole. -/
import Derived.Test.YtknnbdococncfaaGreatAxP
namespace Go.Ax
open Go
noncomputable section
set_option linter.unusedSimpArgs false
set_option linter.unusedVariables false

variable {P : Program} {B0 : Nat} {ρ ρ' ρ'' : Nat → Nat} {F F' F'' : Nat → Nat → Prop} {w w' w'' : World} {M M' M'' : Mem} {a : Act} {cx : Cx} {E E' : T V} {ds ds' : List Nat} {rec : Task → Option Res}

/-- A mark's block is shut: its name is forgotten. -/
theorem Stp.kill {R : RsT} (m : MR R B0 ρ F w M) {b : Nat} (hb : M.get b ≠ none) (o : Obj) (hk : ∀ cs e fr, w.heap[ρ b]? ≠ some (.cells cs e fr)) :
    Stp R B0 ρ F w M ρ F (w.putObj (ρ b) o) (M.drop b) := by
  have hsz : (w.putObj (ρ b) o).heap.size = w.heap.size := World.putObj_size
  have old : ∀ k, k ≠ ρ b → (w.putObj (ρ b) o).heap[k]? = w.heap[k]? := fun k hk => World.putObj_heap_other hk
  have lv : ∀ c, (M.drop b).get c ≠ none → c ≠ b ∧ M.get c ≠ none := fun c h => by
    rw [Mem.get_drop] at h; split at h
    · exact absurd rfl h
    · exact ⟨‹_›, h⟩
  have le : Le ρ F w M ρ F (w.putObj (ρ b) o) (M.drop b) := by
    refine ⟨Nat.le_refl _, fun c _ h => ⟨(lv c h).2, rfl⟩, by omega, rfl, rfl, rfl, fun cb cs e fr h => ?_, fun cb _ h => old cb (fun e => h b hb e.symm), fun _ _ h => h, fun c hc _ => ⟨c, (lv c hc).2, rfl⟩, fun _ _ h => .inl h⟩
    by_cases e' : cb = ρ b
    · subst e'; exact absurd h (hk _ _ _)
    · exact ⟨cs, fr, by rw [old cb e']; exact h, rfl⟩
  have cell : ∀ cb off, F cb off → (w.putObj (ρ b) o).cell? ⟨cb, off, none⟩ = w.cell? ⟨cb, off, none⟩ := fun cb off h => cell_block (old cb (fun e => m.nofro b off hb (e ▸ h)))
  refine ⟨le, ⟨fun c q h => ?_, fun c d hc hd => m.inj c d (lv c hc).2 (lv d hd).2, fun c h => m.base c (lv c h).2, fun c h => m.bound c (lv c h).2, fun c h => by rw [hsz]; exact m.lt c (lv c h).2, fun c off h => m.nofro c off (lv c h).2, fun cb off h => by rw [hsz]; exact m.frolt cb off h, by rw [hsz]; exact m.here⟩⟩
  have hc := lv c (by rw [h]; simp)
  rw [Mem.get_drop, if_neg hc.1] at h
  exact (m.obj c q h).mono le cell (old _ (fun e => hc.1 (m.inj c b (by rw [h]; simp) hb e)))

def resF (tmps : Array Value) : ResultVar → Sem Value
  | .tmp t => pure (tmps.getD t undef)
  | .cell a t => do loadVar t (← asAddr (tmps.getD a undef))
theorem results_eq (fn : Func) (tmps : Array Value) : results fn tmps = (do
    let vs ← fn.results.mapM (resF tmps)
    pure (if h : vs.size = 1 then vs[0] else .tuple vs)) := rfl
theorem sure_as {v : Value} {k : Addr → Sem Value} {u : Value} (h : ((do let a ← Instr.sureAddr v; k a) : Sem Value).run P w = .ok u w) : ((do let a ← asAddr v; k a) : Sem Value).run P w = .ok u w := by
  unfold Instr.sureAddr at h
  unfold asAddr
  cases v with
  | pointer p => cases p <;> simp_all
  | _ => simp_all

theorem resV_sound (he : ER ρ F w M a.tmps E) (g : GRel cx ρ F w M) (m : MR (Rr P) B0 ρ F w M) : ∀ (rs : List ResultVar) (qs : List IRes) (l : List V), ResR P rs qs → resV cx.glob E M qs = some l →
    ∃ vs : List Value, (rs.mapM (resF a.tmps)).run P w = .ok vs w ∧ vs.length = l.length ∧ ∀ (i : Nat) v d, vs[i]? = some v → l[i]? = some d → VR ρ F w M v d
  | [], [], l, _, h => by cases h; exact ⟨[], by simp, rfl, fun i v d h => by simp at h⟩
  | .tmp t :: rs, .tmp t' :: qs, l, hr, h => by
    obtain ⟨rfl, hr⟩ := hr
    simp only [resV] at h
    split at h
    · rename_i l' hl'
      cases h
      obtain ⟨vs, h1, h2, h3⟩ := resV_sound he g m rs qs l' hr hl'
      refine ⟨a.tmps.getD t undef :: vs, by rw [List.mapM_cons]; simp only [Sem.run_bind, resF, Sem.run_pure, Result.andThen_ok, h1], by simp [h2], fun i v d hv hd => ?_⟩
      cases i with
      | zero => simp at hv hd; subst hv; subst hd; simpa [Option.getD] using he.getD t
      | succ i => exact h3 i v d (by simpa using hv) (by simpa using hd)
    · cases h
  | .cell x t :: rs, .cell ag n t' :: qs, l, hr, h => by
    obtain ⟨rfl, hg, hn, hr⟩ := hr
    simp only [resV] at h
    split at h
    · rename_i v M1 hld
      split at h
      · rename_i l' hl'
        cases h
        obtain ⟨vs, h1, h2, h3⟩ := resV_sound he g m rs qs l' hr hl'
        obtain ⟨_, u, hu, hv⟩ := load_sound (a := a) m (x := .tmp x) hg hn (evalA_sound he g) rfl (show memOp (evalA cx.glob E) M (.load ag n (.t x)) = _ from hld)
        refine ⟨u :: vs, ?_, by simp [h2], fun i v d hv' hd => ?_⟩
        · have hu' : (resF a.tmps (.cell x t)).run P w = .ok u w := sure_as hu
          rw [List.mapM_cons]
          simp only [Sem.run_bind, hu', Result.andThen_ok, h1]
          rfl
        · cases i with
          | zero => simp at hv' hd; subst hv'; subst hd; exact hv
          | succ i => exact h3 i v d (by simpa using hv') (by simpa using hd)
      · cases h
    · cases h
  | [], _ :: _, _, hr, _ => by cases hr
  | .tmp _ :: _, [], _, hr, _ => by cases hr
  | .cell _ _ :: _, [], _, hr, _ => by cases hr
  | .tmp _ :: _, .cell _ _ _ :: _, _, hr, _ => by cases hr
  | .cell _ _ :: _, .tmp _ :: _, _, hr, _ => by cases hr

end
end Go.Ax
