/- Part P: the executor is sound: code, calls, the whole. -/
import Derived.Test.YtknnbdococncfaaGreatAxO
namespace Go.Ax
open Go
noncomputable section
set_option linter.unusedSimpArgs false
set_option linter.unusedVariables false

variable {P : Program} {B0 : Nat} {ρ ρ' ρ'' : Nat → Nat} {F F' F'' : Nat → Nat → Prop} {w w' w'' : World} {M M' M'' : Mem} {a : Act} {cx : Cx} {E E' : T V} {ds ds' : List Nat} {rec : Task → Option Res}

theorem CodeP.trans {x : X} {M1 : Mem} (st : Stp (Rr P) B0 ρ F w M ρ' F' w' M') {E2 : T V} {ds2 : List Nat} {e : Exit} {a2 : Act} {w2 : World} (h : CodeP P B0 ρ' F' w' M' x E2 ds2 M1 e a2 w2) : CodeP P B0 ρ F w M x E2 ds2 M1 e a2 w2 := by
  obtain ⟨rfl, ρ2, F2, st2, h1, h2⟩ := h
  exact ⟨rfl, ρ2, F2, st.trans st2, h1, h2⟩

theorem wp_jump {ro : Option Nat} {n : Nat} {x : X} {c : Code} {Q : Exit → Act → World → Prop} (hx : x.jump = some c) (h : Q x.exit' a w) : c.wpIn (W ro) n P Q a w := by
  cases x with
  | nrm => cases hx
  | ret => cases hx; exact wpIn_ret h
  | exit id => cases hx; exact wpIn_exit h

theorem rangePost_jump {ro : Option Nat} {n l : Nat} {x : X} {j : Option Code} {u : Value} {w4 : World} {Q : Exit → Act → World → Prop} (hj : j = x.jump) (hrun : (Instr.endLoop l).run P w = .ok j w4) (fin : Q x.exit' a w4) : rangePost (W ro) n P l Q a (.returned u) w := by
  refine ⟨j, w4, hrun, ?_⟩
  subst hj
  cases x with
  | nrm => exact fin
  | ret => exact wpIn_ret fin
  | exit id => exact wpIn_exit fin
/-- A loop over a function. -/
theorem rangeF_sound (K : Keeps P cx rec) (m : MR (Rr P) B0 ρ F w M) (g : GRel cx ρ F w M) (he : ER ρ F w M a.tmps E) (hd : DR ρ M a.defers ds) {gx : Operand} {gi : IArg} {ps : Array Tmp} {ca cb : Code} {gf : Nat} {cap : List V} {v : V} {M3 : Mem} {r : LRec} {x : X}
    (hg : rsArg gx = some gi) (hgf : evalA cx.glob E gi = .func gf cap)
    (hrec : rec (.call gf (.yld (M.next + 1) :: cap) ((M.alloc .dfr).alloc (.loop ⟨.ready, none, E, ps.toList, ca, cb, rsCode P ca, rsCode P cb⟩))) = some (.call v M3))
    (hM3 : M3.get (M.next + 1) = some (.loop r)) (hb : r.state ≠ .busy) (hp : r.pending = x.jump) :
    (Code.rangeFunc gx ps ca cb).wpIn (W none) 0 P (CodeP P B0 ρ F w M x E (M.next :: ds) (M3.set (M.next + 1) (.loop { r with state := .exhausted }))) a w := by
  have hev := evalA_sound he g
  have hv := hev gx gi hg
  rw [hgf] at hv
  refine wpIn_rangeFunc fun fn _ => ?_
  -- the two blocks
  obtain ⟨ρ1, st1, hn1⟩ := Stp.alloc m (.deferred (some [])) .dfr (fun ρ' le cell hn => World.alloc_heap_new w _)
  have hn1' : ρ1 M.next = w.heap.size := hn1
  obtain ⟨ρ2, st2, hn2⟩ := Stp.alloc st1.mr (.loop { state := .ready, pending := none, fn, tmps := a.tmps, params := ps, assign := ca, body := cb, defers := w.heap.size }) (.loop ⟨.ready, none, E, ps.toList, ca, cb, rsCode P ca, rsCode P cb⟩)
    (fun ρ' le cell hn => ⟨_, World.alloc_heap_new _ _, rfl, rfl, rfl, rfl, rfl, rfl, rfl, (he.le st1.le m).mono le cell⟩)
  have st12 := st1.trans st2
  rw [World.size_alloc, Mem.next_alloc] at hn2
  have hnx : ((M.alloc .dfr).alloc (.loop ⟨.ready, none, E, ps.toList, ca, cb, rsCode P ca, rsCode P cb⟩)).next = M.next + 2 := by simp
  have hrun := run_enterLoop_outer (P := P) (w := w) fn a.tmps ps ca cb
  generalize ((w.alloc (.deferred (some []))).alloc (.loop { state := .ready, pending := none, fn, tmps := a.tmps, params := ps, assign := ca, body := cb, defers := w.heap.size })) = W2 at st2 st12 hrun
  generalize ((M.alloc .dfr).alloc (.loop ⟨.ready, none, E, ps.toList, ca, cb, rsCode P ca, rsCode P cb⟩)) = M2 at st2 st12 hrec hnx
  generalize hgv : a.eval gx = gv at hv
  cases hv with
  | func _ cs _ c1 c2 =>
    obtain ⟨fnG, q1, q2, q3⟩ := K.known _ _ _ _ _ hrec
    have hargs : VRs ρ2 F W2 M2 (#[.func (.yield (w.heap.size + 1)) #[] #[]] ++ cs) (.yld (M.next + 1) :: cap) := by
      refine ⟨by simp [c1]; omega, fun i c d hc hdi => ?_⟩
      cases i with
      | zero =>
        rw [Array.getElem?_append_left (by simp)] at hc
        simp at hc hdi; subst hc; subst hdi
        exact .yld _ _ (by rw [hnx]; omega) fun _ => hn2.symm
      | succ i =>
        rw [Array.getElem?_append_right (by simp)] at hc
        simp at hc hdi
        exact (c2 i c d hc hdi).le st12.le m
    have hcall := K.call _ _ _ _ _ hrec B0 ρ2 F _ _ st2.mr ((g.le st1.le m).le st2.le st1.mr) hargs
    refine ⟨w.heap.size + 1, [{ target := .collected w.heap.size, args := #[] }], W2, { target := .fn (.func gf) cs, args := #[.func (.yield (w.heap.size + 1)) #[] #[]] }, W2, gf, #[.func (.yield (w.heap.size + 1)) #[] #[]] ++ cs, W2, hrun, ?_, fun f' _ => W_fn none f', ?_, fun h => ?_, ?_⟩
    · simp only [resolve, rangeCall, hgv]
      simp [Deferred.ofValue, Act.eval]
    · simp only [invoke]
      exact enter_run q1 q2 q3 _
    · rw [W_depth] at h; cases h
    · refine calls_W (hcall.mono ?_)
      rintro e w3 ⟨u, ρ3, F3, rfl, st3, _⟩
      have st13 := st12.trans st3
      have hl2 : M.next + 1 < M2.next := by omega
      have e3 : ρ3 (M.next + 1) = w.heap.size + 1 := by
        rw [(st3.le.live _ hl2 (by rw [hM3]; simp)).2, hn2]
      obtain ⟨lp, k1, k2, k3, st4⟩ := put_state st3.mr hM3 .exhausted
      rw [e3] at k1 st4
      have st14 := st13.trans st4
      have hD : DR ρ3 (M3.set (M.next + 1) (.loop { r with state := .exhausted })) ([{ target := .collected w.heap.size, args := #[] }] ++ a.defers) (M.next :: ds) := by
        refine .cons w.heap.size M.next _ _ ?_ (fun hl => ?_) (hd.le st14.le)
        · have := st3.le.next; have := st4.le.next; omega
        · have h1 : M.next < (M.alloc .dfr).next := by simp
          have l1 := ((st2.trans st3).trans st4).le.live M.next h1 hl
          rw [l1.2, hn1']
      have fin : CodeP P B0 ρ F w M x E (M.next :: ds) (M3.set (M.next + 1) (.loop { r with state := .exhausted })) x.exit' { a with defers := [{ target := .collected w.heap.size, args := #[] }] ++ a.defers } (w3.putObj (w.heap.size + 1) (.loop { lp with state := .exhausted })) :=
        ⟨rfl, ρ3, F3, st14, he.le st14.le m, hD⟩
      exact rangePost_jump (k3.trans hp) (run_endLoop k1 (by rw [k2]; exact hb)) fin

end
end Go.Ax
