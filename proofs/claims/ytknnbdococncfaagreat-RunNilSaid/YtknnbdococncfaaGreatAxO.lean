/- Part O: the executor is sound: operations, regions, code, calls. -/
import Derived.Test.YtknnbdococncfaaGreatAxN
namespace Go.Ax
open Go
noncomputable section
set_option linter.unusedSimpArgs false
set_option linter.unusedVariables false

variable {P : Program} {B0 : Nat} {ρ ρ' ρ'' : Nat → Nat} {F F' F'' : Nat → Nat → Prop} {w w' w'' : World} {M M' M'' : Mem} {a : Act} {cx : Cx} {E E' : T V} {ds ds' : List Nat} {rec : Task → Option Res}

theorem oper_sound (K : Keeps P cx rec) (m : MR (Rr P) B0 ρ F w M) (g : GRel cx ρ F w M) (he : ER ρ F w M a.tmps E) {ops : Array Oper} {o : Oper} {io : IOper} {r : V} (hr : rsOper P ops o = some io)
    (h : doOp rec cx.glob io.op E M = some (r, M')) {next : Act → World → Prop} {Q : Exit → Act → World → Prop} {n : Nat} {ro : Option Nat}
    (hn : ∀ v w' ρ' F', Stp (Rr P) B0 ρ F w M ρ' F' w' M' → VR ρ' F' w' M' v r → next (a.put o.dst v) w') : o.wpIn (W ro) n P a w next Q := by
  obtain ⟨h14, h2, h3⟩ := rsOper_op hr
  have h14 := h14.resolve_left (fun hb => by rw [hb] at h; cases h)
  obtain ⟨h1, h4⟩ := h14
  have hev := evalA_sound he g
  refine ⟨fun f _ => W_fn ro f, ?_⟩
  rw [semAt_rs h1]
  -- a call, entered
  have enter : ∀ (f : Nat) (args : Array Value) (av : List V), (execOp a.eval o).run P w = (callFunc f args).run P w → VRs ρ F w M args av → doCall rec f av M = some (r, M') → o.uponIn (W ro) n P a next Q ((execOp a.eval o).run P w) := by
    intro f args av hrun hv hc
    unfold doCall at hc
    split at hc
    · rename_i v M1 hrec
      cases hc
      obtain ⟨fn, q1, q2, q3⟩ := K.known _ _ _ _ _ hrec
      rw [hrun, enter_run q1 q2 q3]
      refine ⟨fun h => (by rw [W_depth] at h; cases h), calls_W ((K.call _ _ _ _ _ hrec B0 ρ F w args m g hv).mono ?_)⟩
      rintro e w' ⟨u, ρ', F', rfl, st, hu⟩
      exact hn u w' ρ' F' st hu
    · cases hc
  cases hc : isCallO o.op with
  | false =>
    rw [hc] at h4
    rw [doOp_plain h4] at h
    have fin : Does P (Rr P) B0 ρ F w M a o r M' → o.uponIn (W ro) n P a next Q ((execOp a.eval o).run P w) := by
      rintro ⟨nx, v, w', ρ', F', e1, e2, e3, e4⟩
      rw [e1]
      rcases e2 with rfl | ⟨rfl, rfl⟩
      · exact hn v w' ρ' F' e3 e4
      · exact hn undef w' ρ' F' e3 e4
    split at h
    · rename_i r' hp
      cases h
      exact fin ((pureOp_sound h1 hev hp).does m)
    · exact fin (memOp_sound m h1 hev h)
  | true =>
    cases hop : o.op with
    | call c =>
      obtain ⟨callee, args, tys⟩ := c
      cases callee with
      | value x =>
        have hex : ∀ fv, a.eval x = fv → (execOp a.eval o).run P w = ((do let d ← Deferred.ofValue fv (args.map a.eval); invoke d.target d.args) : Sem Next).run P w := fun fv hfv => by
          unfold execOp; rw [hop]; simp only [resolve, hfv]
        rw [hop] at h1
        -- a function's value
        have general : ∀ (xi : IArg) (ys : List IArg), rsArg x = some xi → rsArgs args = some ys → io.op = .callv xi ys → o.uponIn (W ro) n P a next Q ((execOp a.eval o).run P w) := by
          intro xi ys hx hys hio
          rw [hio] at h
          have hv := hev x xi hx
          have hargs := hev.args hys
          simp only [doOp, doCallv] at h
          split at h
          · rename_i f cap hfx
            rw [hfx] at hv
            generalize hxv : a.eval x = xv at hv
            cases hv with
            | func _ cs _ c1 c2 =>
              refine enter f (args.map a.eval ++ cs) _ ?_ ?_ h
              · rw [hex _ hxv]
                simp [Deferred.ofValue, invoke]
              · refine ⟨by simp [hargs.1, c1], fun i c d hci hdi => ?_⟩
                by_cases hlt : i < (evs (evalA cx.glob E) ys).length
                · rw [List.getElem?_append_left hlt] at hdi
                  rw [Array.getElem?_append_left (by rw [hargs.1]; exact hlt)] at hci
                  exact hargs.2 i c d hci hdi
                · rw [List.getElem?_append_right (by omega)] at hdi
                  rw [Array.getElem?_append_right (by rw [hargs.1]; omega), hargs.1] at hci
                  exact c2 _ c d hci hdi
          · rename_i l hfx
            rw [hfx] at hv
            generalize hxv : a.eval x = xv at hv
            have hv0 := hv
            cases hv with
            | yld lv _ q1 q2 =>
              obtain ⟨lf, tmps, assign, body, y1, y2⟩ := yield_sound (ro := ro) (n := n - 1) K m g hv0 hargs h
              rw [hex _ hxv]
              have : ((do let d ← Deferred.ofValue (.func (.yield lv) #[] #[]) (args.map a.eval); invoke d.target d.args) : Sem Next).run P w = .ok (.round lv lf tmps assign body) w := by
                simp only [Deferred.ofValue, Sem.run_bind, Sem.run_pure, Result.andThen_ok, invoke]
                simpa using y1
              rw [this]
              refine ⟨fun h => (by rw [W_depth] at h; cases h), y2.mono ?_⟩
              rintro e w' ⟨u, ρ', F', rfl, st, hu⟩
              exact hn u w' ρ' F' st hu
          · cases h
        cases x with
        | func f =>
          simp only [rsOp] at h1
          split at h1
          · rename_i fn hfn
            split at h1
            · cases h1
            · rename_i hb
              simp only [bind_some, pure_some] at h1
              obtain ⟨ys, hys, hio⟩ := h1
              rw [← hio] at h
              refine enter f (args.map a.eval) _ ?_ (hev.args hys) h
              rw [hex _ rfl]
              show ((do let d ← Deferred.ofValue (.func (.func f) #[] #[]) (args.map a.eval); invoke d.target d.args) : Sem Next).run P w = _
              simp [Deferred.ofValue, invoke]
          · cases h1
        | tmp t =>
          simp only [rsOp, bind_some, pure_some] at h1
          obtain ⟨xi, hx, ys, hys, hio⟩ := h1
          exact general xi ys hx hys hio.symm
        | const v =>
          simp only [rsOp, bind_some, pure_some] at h1
          obtain ⟨xi, hx, ys, hys, hio⟩ := h1
          exact general xi ys hx hys hio.symm
        | global q =>
          simp only [rsOp, bind_some, pure_some] at h1
          obtain ⟨xi, hx, ys, hys, hio⟩ := h1
          exact general xi ys hx hys hio.symm
      | _ => rw [hop] at hc; cases hc
    | _ => rw [hop] at hc; cases hc

/-- Operations in the order of the text. -/
theorem ops_sound (K : Keeps P cx rec) {ops : Array Oper} {Q : Exit → Act → World → Prop} {n : Nat} {ro : Option Nat} : ∀ (l : List Oper) (il : List IOper) (k : Nat), (∀ j, l[j]? = ops[k + j]?) → l.mapM (rsOper P ops) = some il →
    ∀ {M : Mem} {E : T V} {ρ F w a}, MR (Rr P) B0 ρ F w M → GRel cx ρ F w M → ER ρ F w M a.tmps E → DR ρ M a.defers ds → stepOps rec cx.glob il E M = some (E', M') →
    (∀ a' ρ' F' w', Stp (Rr P) B0 ρ F w M ρ' F' w' M' → ER ρ' F' w' M' a'.tmps E' → a'.defers = a.defers → Q .normal a' w') → wpOpsIn (W ro) n P ops Q (List.range' k l.length) a w := by
  intro l
  induction l with
  | nil =>
    intro il k _ hm M E ρ F w a m g he hd h hQ
    simp at hm; subst hm
    cases h
    exact hQ a ρ F w (Stp.refl m) he rfl
  | cons o l ih =>
    intro il k hk hm M E ρ F w a m g he hd h hQ
    simp only [List.mapM_cons, bind_some, pure_some] at hm
    obtain ⟨io, hio, il', hil', rfl⟩ := hm
    have h0 : ops[k]? = some o := by simpa using (hk 0).symm
    have hk' : ∀ j, l[j]? = ops[k + 1 + j]? := fun j => by have := hk (j + 1); simpa [Nat.add_assoc, Nat.add_comm 1 j] using this
    simp only [List.length_cons, List.range'_succ, wpOpsIn, h0]
    have h : stepO rec cx.glob io (stepOps rec cx.glob il') E M = some (E', M') := h
    unfold stepO at h
    obtain ⟨_, hdst, _⟩ := rsOper_op hio
    split at h
    · cases h
    · rename_i hgd
      rw [guardV_sound hio he hgd]
      refine ⟨fun f _ => W_fn ro f, ?_⟩
      rw [hdst] at h
      exact ih il' (k + 1) hk' hil' m g (putE_sound he VR.und) (by rw [put_defers]; exact hd) h (fun a' ρ' F' w' st hv hdd => hQ a' ρ' F' w' st hv (hdd.trans (put_defers ..)))
    · rename_i hgd
      rw [guardV_sound hio he hgd]
      split at h
      · rename_i r M1 hop
        rw [if_pos rfl]
        refine oper_sound K m g he hio hop (fun v w1 ρ1 F1 st hv => ?_)
        rw [hdst] at h
        exact ih il' (k + 1) hk' hil' st.mr (g.le st.le m) (putE_sound (he.le st.le m) hv) (by rw [put_defers]; exact hd.le st.le) h (fun a' ρ' F' w' st' hv' hdd => hQ a' ρ' F' w' (st.trans st') hv' (hdd.trans (put_defers ..)))
      · cases h

end
end Go.Ax
