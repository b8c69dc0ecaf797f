/- Part L: all operations on memory are sound. -/
import Derived.Test.YtknnbdococncfaaGreatAxK
namespace Go.Ax
open Go
set_option linter.unusedSimpArgs false
set_option linter.unusedVariables false

variable {P : Program} {R : RsT} {B0 : Nat} {ρ ρ' : Nat → Nat} {F F' : Nat → Nat → Prop} {w w' : World} {M M' : Mem} {a : Act} {ev : Ev}

set_option maxHeartbeats 1000000 in
theorem memOp_sound (m : MR R B0 ρ F w M) {o : Oper} {io : IOp} {r : V} (hrs : rsOp P o.op = some io) (he : EvR ρ F w M a ev) (h : memOp ev M io = some (r, M')) : Does P R B0 ρ F w M a o r M' := by
  obtain ⟨dst, op, type, pos, after, guard⟩ := o
  simp only at hrs
  cases op with
  | move x => simp only [rsOp, bind_some, pure_some] at hrs; obtain ⟨_, _, rfl⟩ := hrs; cases h
  | assign x => simp only [rsOp, bind_some, pure_some] at hrs; obtain ⟨_, _, rfl⟩ := hrs; cases h
  | pick c x y => simp only [rsOp, bind_some, pure_some] at hrs; obtain ⟨_, _, _, _, _, _, rfl⟩ := hrs; cases h
  | alloc t =>
    simp only [rsOp, bind_some, pure_some] at hrs
    obtain ⟨z, hz, rfl⟩ := hrs
    cases h
    exact does_v (s := Instr.alloc t true (.tuple #[])) rfl (alloc_sound m hz)
  | box t x =>
    simp only [rsOp, bind_some, pure_some] at hrs
    obtain ⟨x', hx, rfl⟩ := hrs
    simp only [memOp] at h
    cases hc : (ev x').cells.all V.one with
    | false => rw [hc, cond_false] at h; cases h
    | true =>
      rw [hc, cond_true] at h; cases h
      exact does_v (s := Instr.box t (a.eval x)) rfl (box_sound m (he x x' hx) hc)
  | build t ps =>
    simp only [rsOp, bind_some] at hrs
    obtain ⟨z, hz, hrs⟩ := hrs
    split at hrs
    · simp only [bind_some, pure_some] at hrs
      obtain ⟨pl, hpl, qs, hqs, rfl⟩ := hrs
      cases h
    · cases hrs
  | buildSlice t n ps =>
    simp only [rsOp] at hrs
    split at hrs
    · rename_i e hu
      simp only [bind_some] at hrs
      obtain ⟨sz, hn, hrs⟩ := hrs
      split at hrs
      · cases hrs
      · rename_i hc
        simp only [bind_some] at hrs
        obtain ⟨z, hz, hrs⟩ := hrs
        split at hrs
        · cases hrs
        · rename_i hzl
          simp only [bind_some, pure_some] at hrs
          obtain ⟨qs, hqs, rfl⟩ := hrs
          simp only [Bool.or_eq_true, decide_eq_true_eq, not_or, Bool.not_eq_true', Bool.not_eq_false] at hc
          unfold bslOp at h
          cases hbb : (Nat.beq sz 1 && (Nat.ble 2 n && constP qs)) with
          | true =>
            rw [hbb, cond_true] at h
            simp only [memOp] at h
            split at h
            · rename_i cells hf
              cases h1s : Nat.beq sz 1 with
              | false => rw [h1s, cond_false] at h; cases h
              | true =>
                rw [h1s, cond_true] at h
                cases h
                obtain ⟨v, w', ρ', F', h1, h2, h3⟩ := fslc_sound m hu hn (Nat.eq_of_beq_eq_true h1s) (by simpa using hc.2) hz (by simpa using hzl) hqs he hf
                refine ⟨_, v, w', ρ', F', ?_, .inl rfl, h2, h3⟩
                have e : execOp a.eval ⟨dst, .buildSlice t n ps, type, pos, after, guard⟩ = (do pure (.value (← Instr.buildSlice t n (ps.map fun p => (p.1, a.eval p.2))))) := by simp only [execOp]
                rw [e, Sem.run_bind, h1]; rfl
            · cases h
          | false =>
          rw [hbb, cond_false] at h
          simp only [memOp] at h
          split at h
          · rename_i cells hf
            cases h
            have hb := bslice_sound m hu hn hc.1 (by simpa using hc.2) hz (by simpa using hzl) hqs he hf
            obtain ⟨v, w', ρ', F', h1, h2, h3⟩ := hb
            refine ⟨_, v, w', ρ', F', ?_, .inl rfl, h2, h3⟩
            have e : execOp a.eval ⟨dst, .buildSlice t n ps, type, pos, after, guard⟩ = (do pure (.value (← Instr.buildSlice t n (ps.map fun p => (p.1, a.eval p.2))))) := by simp only [execOp]
            rw [e, Sem.run_bind, h1]; rfl
          · cases h
    · cases hrs
  | insert => cases hrs
  | load t x =>
    simp only [rsOp, bind_some, pure_some] at hrs
    obtain ⟨g, hg, n, hn, x', hx, rfl⟩ := hrs
    obtain ⟨rfl, v, h1, h2⟩ := load_sound (P := P) m hg hn he hx h
    exact does_v (s := Instr.loadAt t (a.eval x)) rfl ⟨v, w, ρ, F, h1, Stp.refl m, h2⟩
  | store t x y =>
    simp only [rsOp, bind_some, pure_some] at hrs
    obtain ⟨n, hn, x', hx, y', hy, rfl⟩ := hrs
    obtain ⟨rfl, w', ρ', F', h1, h2⟩ := store_sound (P := P) m hn he hx hy h
    exact does_u (s := Instr.storeAt t (a.eval x) (a.eval y)) rfl ⟨w', ρ', F', h1, h2⟩
  | ready => cases hrs
  | waits => cases hrs
  | nilCheck x => simp only [rsOp, bind_some, pure_some] at hrs; obtain ⟨_, _, rfl⟩ := hrs; cases h
  | binOp op t x y yt =>
    simp only [rsOp] at hrs
    split at hrs
    case h_1 | h_2 | h_3 => simp only [bind_some, pure_some] at hrs; obtain ⟨_, _, _, _, rfl⟩ := hrs; cases h
    case h_4 | h_5 | h_6 =>
      split at hrs
      · simp only [bind_some, pure_some] at hrs; obtain ⟨_, _, _, _, rfl⟩ := hrs; cases h
      · simp only [bind_some, pure_some] at hrs; obtain ⟨_, _, _, _, rfl⟩ := hrs; cases h
      · cases hrs
    case h_7 =>
      split at hrs
      · simp only [bind_some, pure_some] at hrs; obtain ⟨_, _, _, _, _, _, rfl⟩ := hrs; cases h
      · simp only [bind_some, pure_some] at hrs; obtain ⟨_, _, _, _, _, _, rfl⟩ := hrs; cases h
      · cases hrs
    case h_8 => cases hrs
  | unOp op t x => simp only [rsOp, bind_some, pure_some] at hrs; obtain ⟨_, _, rfl⟩ := hrs; cases h
  | convert src dst' x =>
    simp only [rsOp] at hrs
    split at hrs
    · simp only [bind_some, pure_some] at hrs; obtain ⟨_, _, rfl⟩ := hrs; cases h
    · simp only [bind_some, pure_some] at hrs; obtain ⟨_, _, rfl⟩ := hrs; cases h
    · rename_i e hs hd
      split at hrs
      · rename_i hu8
        simp only [bind_some, pure_some] at hrs
        obtain ⟨x', hx, rfl⟩ := hrs
        simp only [memOp] at h
        split at h
        · rename_i l hl
          cases h
          obtain ⟨v, h1, h2⟩ := b2s_sound (P := P) m hs hu8 hd (he x x' hx) hl
          exact does_v (s := Go.convert src dst' (a.eval x)) rfl ⟨v, w, ρ, F, h1, Stp.refl m, h2⟩
        · cases h
      · cases hrs
    · cases hrs
  | field t x i =>
    simp only [rsOp] at hrs
    split at hrs
    · simp only [bind_some, pure_some] at hrs; obtain ⟨_, _, _, _, _, _, _, _, rfl⟩ := hrs; cases h
    · cases hrs
  | fieldAddr t x i =>
    simp only [rsOp] at hrs
    split at hrs
    · simp only [bind_some] at hrs
      obtain ⟨f, hf, n, hn, hrs⟩ := hrs
      split at hrs
      · cases hrs
      · simp only [bind_some, pure_some] at hrs; obtain ⟨_, _, _, _, rfl⟩ := hrs; cases h
    · cases hrs
  | indexAddr t x i =>
    simp only [rsOp] at hrs
    split at hrs
    · simp only [bind_some] at hrs
      obtain ⟨n, hn, hrs⟩ := hrs
      split at hrs
      · cases hrs
      · simp only [bind_some, pure_some] at hrs; obtain ⟨_, _, _, _, rfl⟩ := hrs; cases h
    · simp only [bind_some] at hrs
      obtain ⟨n, hn, hrs⟩ := hrs
      split at hrs
      · cases hrs
      · simp only [bind_some, pure_some] at hrs; obtain ⟨_, _, _, _, _, _, rfl⟩ := hrs; cases h
    · cases hrs
  | index t x i =>
    simp only [rsOp] at hrs
    split at hrs
    · simp only [bind_some, pure_some] at hrs; obtain ⟨_, _, _, _, rfl⟩ := hrs; cases h
    · simp only [bind_some, pure_some] at hrs; obtain ⟨_, _, _, _, _, _, _, _, rfl⟩ := hrs; cases h
    · cases hrs
  | slice t x lo hi mx =>
    cases mx with
    | some m => cases hrs
    | none =>
      simp only [rsOp] at hrs
      split at hrs
      · simp only [bind_some, pure_some] at hrs; obtain ⟨_, _, _, _, _, _, rfl⟩ := hrs; cases h
      · simp only [bind_some] at hrs
        obtain ⟨n, hn, hrs⟩ := hrs
        split at hrs
        · cases hrs
        · simp only [bind_some, pure_some] at hrs; obtain ⟨_, _, _, _, _, _, rfl⟩ := hrs; cases h
      · cases hrs
  | extract x i => simp only [rsOp, bind_some, pure_some] at hrs; obtain ⟨_, _, rfl⟩ := hrs; cases h
  | makeFunc f first cap =>
    cases f with
    | func f =>
      simp only [rsOp] at hrs
      split at hrs
      · simp only [bind_some, pure_some] at hrs; obtain ⟨_, _, rfl⟩ := hrs; cases h
      · cases hrs
    | _ => cases hrs
  | call c =>
    obtain ⟨callee, args, tys⟩ := c
    cases callee with
    | invoke => cases hrs
    | value f =>
      cases f with
      | func f =>
        simp only [rsOp] at hrs
        split at hrs
        · split at hrs
          · cases hrs
          · simp only [bind_some, pure_some] at hrs; obtain ⟨_, _, rfl⟩ := hrs; cases h
        · cases hrs
      | _ => simp only [rsOp, bind_some, pure_some] at hrs; obtain ⟨_, _, _, _, rfl⟩ := hrs; cases h
    | builtin b =>
      cases b with
      | len =>
        simp only [rsOp] at hrs
        split at hrs
        · split at hrs
          · simp only [bind_some, pure_some] at hrs; obtain ⟨_, _, rfl⟩ := hrs; cases h
          · cases hrs
        · split at hrs
          · simp only [bind_some, pure_some] at hrs; obtain ⟨_, _, rfl⟩ := hrs; cases h
          · cases hrs
        · rename_i kt e hty
          split at hrs
          · rename_i x hargs
            simp only [bind_some, pure_some] at hrs
            obtain ⟨x', hx, rfl⟩ := hrs
            have hargs' : args = #[x] := by apply Array.ext'; simpa using hargs
            subst hargs'
            simp only [Option.bind_eq_some_iff] at hty
            obtain ⟨t, ht, hu⟩ := hty
            simp only [memOp] at h
            split at h
            · rename_i es hes
              cases h
              have h1 := mlen_sound (P := P) (ty := type) m ht hu (he x x' hx) hes
              refine ⟨_, _, w, ρ, F, ?_, .inl rfl, Stp.refl m, .int .i64 es.length⟩
              simp only [execOp, resolve, Sem.run_bind, Sem.run_pure, Result.andThen_ok, invoke]
              have : ∀ cs, Go.builtin .len tys type cs (#[x].map a.eval) = (do pure (.value (← Builtin.len_ tys type #[a.eval x]))) := fun cs => by simp [Go.builtin]
              rw [this, Sem.run_bind, h1]; rfl
            · cases h
          · cases hrs
        · cases hrs
      | max => simp only [rsOp, bind_some, pure_some] at hrs; obtain ⟨_, _, rfl⟩ := hrs; cases h
      | min => simp only [rsOp, bind_some, pure_some] at hrs; obtain ⟨_, _, rfl⟩ := hrs; cases h
      | append =>
        simp only [rsOp] at hrs
        split at hrs
        · cases hrs
        · rename_i e d hnint h0 h1
          simp only [bind_some] at hrs
          obtain ⟨n, hn, b, hb, z, hz, hrs⟩ := hrs
          split at hrs
          · cases hrs
          · rename_i hc
            split at hrs
            · rename_i x y hargs
              simp only [bind_some, pure_some] at hrs
              obtain ⟨x', hx, y', hy, rfl⟩ := hrs
              have hargs' : args = #[x, y] := by apply Array.ext'; simpa using hargs
              subst hargs'
              simp only [Bool.or_eq_true, decide_eq_true_eq, not_or, Decidable.not_not] at hc
              obtain ⟨⟨⟨c1, c2⟩, c3⟩, c4⟩ := hc
              simp only [Option.bind_eq_some_iff] at h0 h1
              obtain ⟨t0, ht0, hu0⟩ := h0
              obtain ⟨t1, ht1, hu1⟩ := h1
              have T : AppTys P tys e n b z := ⟨⟨t0, ht0, hu0⟩, ⟨t1, d, ht1, hu1, by cases d <;> first | rfl | exact absurd rfl (hnint _)⟩, hn, hb, hz, by simpa using c4, c1, c2, by omega⟩
              simp only [memOp] at h
              split at h
              · rename_i yc m' hr
                obtain ⟨v, w', ρ', F', e1, e2, e3⟩ := app_sound (P := P) (ty := type) m T (he x x' hx) (he y y' hy) hr h
                refine ⟨_, v, w', ρ', F', ?_, .inl rfl, e2, e3⟩
                simp only [execOp, resolve, Sem.run_bind, Sem.run_pure, Result.andThen_ok, invoke]
                have : ∀ cs, Go.builtin .append tys type cs (#[x, y].map a.eval) = (do pure (.value (← Builtin.append_ tys type #[a.eval x, a.eval y]))) := fun cs => by simp [Go.builtin]
                rw [this, Sem.run_bind, e1]; rfl
              · cases h
            · cases hrs
        · cases hrs
      | _ => cases hrs
  | makeMap t rr =>
    cases rr with
    | none =>
      simp only [rsOp, Option.some.injEq] at hrs; subst hrs
      cases h
      exact does_v (s := Instr.makeMap t none) rfl (mkmap_sound m t)
    | some _ => cases hrs
  | lookup t x k ok =>
    simp only [rsOp] at hrs
    split at hrs
    · rename_i kt e hu
      simp only [bind_some, pure_some] at hrs
      obtain ⟨km, hk, z, hz, x', hx, k', hkk, rfl⟩ := hrs
      simp only [memOp] at h
      split at h
      · rename_i es hes
        obtain ⟨rfl, v, h1, h2⟩ := lookup_sound (P := P) (ok := ok) m hu hk hz (he x x' hx) (he k k' hkk) hes h
        exact does_v (s := Instr.lookup t (a.eval x) (a.eval k) ok) rfl ⟨v, w, ρ, F, h1, Stp.refl m, h2⟩
      · cases h
    · cases hrs
  | mapUpdate t x k v =>
    simp only [rsOp] at hrs
    split at hrs
    · rename_i kt e hu
      simp only [bind_some, pure_some] at hrs
      obtain ⟨km, hk, x', hx, k', hkk, v', hv, rfl⟩ := hrs
      simp only [memOp] at h
      split at h
      · rename_i b hb
        split at h
        · rename_i es hM
          have hxr := he x x' hx
          rw [hb] at hxr
          obtain ⟨rfl, w', h1, h2⟩ := mapset_sound (P := P) m hu hk hxr (he k k' hkk) (he v v' hv) hM h
          exact does_u (s := Instr.mapUpdate t (a.eval x) (a.eval k) (a.eval v)) rfl ⟨w', ρ, F, h1, h2⟩
        · cases h
      · cases h
    · cases hrs
  | makeSlice t l c =>
    simp only [rsOp] at hrs
    split at hrs
    · rename_i e hu
      simp only [bind_some] at hrs
      obtain ⟨n, hn, b, hb, z, hz, hrs⟩ := hrs
      split at hrs
      · cases hrs
      · rename_i hc
        simp only [bind_some, pure_some] at hrs
        obtain ⟨l', hl, c', hcc, rfl⟩ := hrs
        simp only [Bool.or_eq_true, decide_eq_true_eq, not_or, Decidable.not_not] at hc
        obtain ⟨⟨⟨c1, c2⟩, c3⟩, c4⟩ := hc
        simp only [memOp] at h
        split at h
        · rename_i k1 x1 k2 x2 e1 e2
          split at h
          · rename_i hr
            cases h
            have hlr := he l l' hl; rw [e1] at hlr
            have hcr := he c c' hcc; rw [e2] at hcr
            exact does_v (s := Instr.makeSlice t (a.eval l) (a.eval c)) rfl (mksl_sound m hu hn hb c1 hz (by simpa using c4) hlr.int_inv hcr.int_inv hr c2)
          · cases h
        · cases h
    · cases hrs
  | _ => cases hrs

end Go.Ax
