/- Part S: blocks that nobody knows yet: made early, known later. -/
import Derived.Test.YtknnbdococncfaaGreatAxQ
import Derived.OrdersIn
namespace Go.Ax
open Go
noncomputable section
set_option linter.unusedSimpArgs false
set_option linter.unusedVariables false

variable {P : Program} {R : RsT} {B0 : Nat} {ρ ρ' ρ'' ρ0 : Nat → Nat} {F F' F'' F0 : Nat → Nat → Prop} {w w' w'' w0 : World} {M M' M'' M0 : Mem} {a : Act} {cx : Cx} {E E' : T V} {ds ds' : List Nat} {rec : Task → Option Res}

/-- A block that nobody knows. -/
theorem Stp.garbage (m : MR R B0 ρ F w M) (o : Obj) : Stp R B0 ρ F w M ρ F (w.alloc o) M := by
  have hsz : (w.alloc o).heap.size = w.heap.size + 1 := World.size_alloc ..
  have old : ∀ k, k < w.heap.size → (w.alloc o).heap[k]? = w.heap[k]? := fun k hk => RowKit.Below.heap_alloc w o k hk
  have le : Le ρ F w M ρ F (w.alloc o) M := by
    refine ⟨Nat.le_refl _, fun c hc h => ⟨h, rfl⟩, by omega, rfl, rfl, rfl, fun cb cs e fr h => ⟨cs, fr, ?_, rfl⟩, fun cb h _ => old cb h, fun _ _ h => h, fun c hc hlt => ⟨c, hc, rfl⟩, fun _ _ h => .inl h⟩
    rw [old cb ?_]; exact h
    rcases Nat.lt_or_ge cb w.heap.size with h' | h'
    · exact h'
    · rw [Array.getElem?_eq_none h'] at h; cases h
  have cell : ∀ cb off, F cb off → (w.alloc o).cell? ⟨cb, off, none⟩ = w.cell? ⟨cb, off, none⟩ := fun cb off h => cell_block (old cb (m.frolt _ _ h))
  exact ⟨le, ⟨fun c q h => (m.obj c q h).mono le cell (old _ (m.lt c (by rw [h]; simp))), m.inj, m.base, m.bound, fun c h => by have := m.lt c h; omega, m.nofro, fun cb off h => by have := m.frolt _ _ h; omega, by have := m.here; omega⟩⟩

/-- A block that was made early is known from now on. -/
theorem Stp.adopt (st : Stp R B0 ρ0 F0 w0 M0 ρ F w M) (here : B0 ≤ w0.heap.size) {cb : Nat} (h1 : w0.heap.size ≤ cb) (h2 : cb < w.heap.size) (h3 : ∀ b, M.get b ≠ none → ρ b ≠ cb) (h4 : ∀ off, ¬ F cb off) (no : AObj) (hor : OR R ρ F w M cb no) :
    ∃ ρ', Lw ρ F w M ρ' F w (M.alloc no) ∧ Stp R B0 ρ0 F0 w0 M0 ρ' F w (M.alloc no) ∧ ρ' M.next = cb ∧ (∀ b, b ≠ M.next → ρ' b = ρ b) := by
  have m := st.mr
  let ρ' : Nat → Nat := fun c => if c = M.next then cb else ρ c
  have hnx : ρ' M.next = cb := by simp [ρ']
  have hne : ∀ c, c ≠ M.next → ρ' c = ρ c := fun c h => by simp [ρ', h]
  have lv : ∀ c, (M.alloc no).get c ≠ none → c = M.next ∨ (c ≠ M.next ∧ M.get c ≠ none) := fun c h => by
    rw [Mem.get_alloc] at h; split at h
    · exact .inl ‹_›
    · exact .inr ⟨‹_›, h⟩
  have lw : Lw ρ F w M ρ' F w (M.alloc no) := ⟨Nat.le_succ _, fun c hc h => by
    rcases lv c h with rfl | ⟨h1, h2⟩
    · omega
    · exact ⟨h2, hne c h1⟩, fun cb cs e fr h => ⟨cs, fr, h, rfl⟩, fun _ _ h => h⟩
  have le : Le ρ0 F0 w0 M0 ρ' F w (M.alloc no) := by
    refine ⟨Nat.le_trans st.le.next (Nat.le_succ _), fun c hc h => ?_, st.le.heap, st.le.os, st.le.tape, st.le.output, st.le.size, st.le.keep, st.le.fro, fun c hc hlt => ?_, st.le.frn⟩
    · rcases lv c h with rfl | ⟨h1, h2⟩
      · have := st.le.next; omega
      · obtain ⟨k1, k2⟩ := st.le.live c hc h2
        exact ⟨k1, (hne c h1).trans k2⟩
    · rcases lv c hc with rfl | ⟨h1, h2⟩
      · rw [hnx] at hlt; omega
      · rw [hne c h1] at hlt ⊢; exact st.le.img c h2 hlt
  refine ⟨ρ', lw, ⟨le, ⟨fun c q h => ?_, fun c d hc hd e => ?_, fun c h => ?_, fun c h => ?_, fun c h => ?_, fun c off h => ?_, m.frolt, m.here⟩⟩, hnx, hne⟩
  · rw [Mem.get_alloc] at h; split at h
    · rename_i hc; subst hc; cases h; rw [hnx]; exact hor.monoW lw (fun _ _ _ => rfl) rfl
    · rename_i hc; rw [hne c hc]
      exact (m.obj c q h).monoW lw (fun _ _ _ => rfl) rfl
  · rcases lv c hc with rfl | ⟨h1, h2⟩ <;> rcases lv d hd with rfl | ⟨h3', h4'⟩
    · rfl
    · rw [hnx, hne d h3'] at e; exact absurd e.symm (h3 d h4')
    · rw [hnx, hne c h1] at e; exact absurd e (h3 c h2)
    · rw [hne c h1, hne d h3'] at e; exact m.inj c d h2 h4' e
  · rcases lv c h with rfl | ⟨h1, h2⟩
    · rw [hnx]; omega
    · rw [hne c h1]; exact m.base c h2
  · rcases lv c h with rfl | ⟨h1, h2⟩
    · simp
    · have := m.bound c h2; simp; omega
  · rcases lv c h with rfl | ⟨h1, h2⟩
    · rw [hnx]; exact h2
    · rw [hne c h1]; exact m.lt c h2
  · rcases lv c h with rfl | ⟨h1, h2⟩
    · rw [hnx]; exact h4 off
    · rw [hne c h1]; exact m.nofro c off h2

/-! ### The operations that make such blocks -/
def fltOf (G : T V) (op : IOp) (E : T V) : Option (List V × (Nat → V)) := match op with
  | .alloc z => some (z, fun b => .ptr b 0)
  | .bslice sz len z ps => match fillV (evalA G E) (repV z len) (ps.map fun p => (p.1 * sz, sz, p.2)) with
    | some cells => some (cells, fun b => .sref b 0 len sz)
    | none => none
  | _ => none
theorem flt_spec {op : IOp} (h : kdOf op = .flt) (rec : Task → Option Res) (G : T V) (E : T V) (M : Mem) {r : V} (hr : doOp rec G op E M = some (r, M')) : ∃ cells f, fltOf G op E = some (cells, f) ∧ r = f M.next ∧ M' = M.alloc (.arr true cells) := by
  cases op <;> try (cases h; done)
  case alloc z => cases hr; exact ⟨_, _, rfl, rfl, rfl⟩
  case bslice sz len z ps =>
    have hr : f_bslice sz len z ps G E M = some (r, M') := hr
    unfold f_bslice at hr
    split at hr
    · rename_i cells hc; cases hr; exact ⟨cells, fun b => .sref b 0 len sz, by simp only [fltOf, hc], rfl, rfl⟩
    · cases hr

/-- A value that stands for the whole of a new block. -/
def Lnk (cb : Nat) (cs : Array Value) (c : Value) (f : Nat → V) : Prop := ∀ (ρ' : Nat → Nat) (F' : Nat → Nat → Prop) (w' : World) (M' : Mem) (b : Nat) (ty : TypeId), w'.heap[cb]? = some (.cells cs ty (0, 0)) → ρ' b = cb → b < M'.next → VR ρ' F' w' M' c (f b)

theorem bslice_flt {ev : Ev} {t e : TypeId} {sz len : Nat} {z : List V} {ps : Array (Nat × Operand)} {qs : List (Nat × IArg)} {cells : List V} (hu : P.underlying t = some (.slice e)) (hn : szOf P e = some sz) (h0 : sz ≠ 0)
    (hbig : Nat.ble (len * sz) c24 = true) (hz : zeroCells' P e = some z) (hzl : z.length = sz) (hps : ps.toList.mapM (fun p => (do pure (p.1, ← rsArg p.2) : Option (Nat × IArg))) = some qs) (he : EvR ρ F w M a ev)
    (hf : fillV ev (repV z len) (qs.map fun p => (p.1 * sz, sz, p.2)) = some cells) :
    ∃ v cs ty, (Instr.buildSlice t len (ps.map fun p => (p.1, a.eval p.2))).run P w = .ok v (w.alloc (.cells cs ty (0, 0))) ∧ VRs ρ F w M cs cells ∧ cells.all V.one = true ∧ Lnk w.heap.size cs v (fun b => .sref b 0 len sz) := by
  obtain ⟨cs, e', h1, e2, hone, hlen⟩ := bslice_run (w := w) (ρ := ρ) (F := F) (M := M) hu hn h0 hbig hz hzl hps he hf
  exact ⟨_, cs, e', h1, e2, hone, fun ρ' F' w' M' b ty hw hb hn => .sref _ _ _ _ _ _ hn (Nat.le_refl _) fun _ => ⟨fun _ => by rw [hb], cs, ty, (0, 0), by rw [hb]; exact hw, by rw [e2.1, hlen]; omega⟩⟩
set_option maxHeartbeats 1000000 in
theorem flt_sound {o : Oper} {io : IOp} {G : T V} {cells : List V} {f : Nat → V} (hrs : rsOp P o.op = some io) (he : EvR ρ F w M a (evalA G E)) (h : fltOf G io E = some (cells, f)) :
    ∃ c cs ty, (execOp a.eval o).run P w = .ok (.value c) (w.alloc (.cells cs ty (0, 0))) ∧ VRs ρ F w M cs cells ∧ cells.all V.one = true ∧ Lnk w.heap.size cs c f := by
  obtain ⟨dst, op, type, pos, after, guard⟩ := o
  simp only at hrs
  cases op with
  | move x => simp only [rsOp, bind_some, pure_some] at hrs; obtain ⟨_, _, rfl⟩ := hrs; cases h
  | assign x => simp only [rsOp, bind_some, pure_some] at hrs; obtain ⟨_, _, rfl⟩ := hrs; cases h
  | pick c x y => simp only [rsOp, bind_some, pure_some] at hrs; obtain ⟨_, _, _, _, _, _, rfl⟩ := hrs; cases h
  | alloc t =>
    simp only [rsOp, bind_some, pure_some] at hrs
    obtain ⟨z, hz, rfl⟩ := hrs
    cases h
    obtain ⟨zval, h1, h2, h3⟩ := zero_run (P := P) hz ρ F w M
    refine ⟨.pointer (some ⟨w.heap.size, 0, none⟩), zval.cells, t, ?_, h2, h3, fun ρ' F' w' M' b ty hw hb hn => .ptr _ _ _ hn fun _ => by rw [hb]⟩
    show (do pure (Next.value (← Instr.alloc t true (.tuple #[]))) : Sem Next).run P w = _
    unfold Instr.alloc
    simp only [Sem.run_bind, h1, Result.andThen_ok]
    rfl
  | box t x =>
    simp only [rsOp, bind_some, pure_some] at hrs
    obtain ⟨x', hx, rfl⟩ := hrs
    cases h
  | build t ps =>
    simp only [rsOp, bind_some] at hrs
    obtain ⟨z, hz, hrs⟩ := hrs
    split at hrs
    · simp only [bind_some, pure_some] at hrs
      obtain ⟨pl, hpl, qs, hqs, rfl⟩ := hrs
      cases h
    · cases hrs
  | buildSlice t n ps =>
    simp only [rsOp] at hrs
    split at hrs
    · rename_i e hu
      simp only [bind_some] at hrs
      obtain ⟨sz, hn, hrs⟩ := hrs
      split at hrs
      · cases hrs
      · rename_i hc
        simp only [bind_some] at hrs
        obtain ⟨z, hz, hrs⟩ := hrs
        split at hrs
        · cases hrs
        · rename_i hzl
          simp only [bind_some, pure_some] at hrs
          obtain ⟨qs, hqs, rfl⟩ := hrs
          unfold bslOp at h
          cases hbb : (Nat.beq sz 1 && (Nat.ble 2 n && constP qs)) with
          | true => rw [hbb, cond_true] at h; cases h
          | false =>
          rw [hbb, cond_false] at h
          simp only [fltOf] at h
          split at h
          · rename_i cells' hf
            cases h
            simp only [Bool.or_eq_true, decide_eq_true_eq, not_or, Bool.not_eq_true', Bool.not_eq_false] at hc
            obtain ⟨c, cs, ty, h1, h2, h3, h4⟩ := bslice_flt (w := w) (ρ := ρ) (F := F) (M := M) hu hn hc.1 (by simpa using hc.2) hz (by simpa using hzl) hqs he hf
            refine ⟨c, cs, ty, ?_, h2, h3, h4⟩
            have e : execOp a.eval ⟨dst, .buildSlice t n ps, type, pos, after, guard⟩ = (do pure (.value (← Instr.buildSlice t n (ps.map fun p => (p.1, a.eval p.2))))) := by simp only [execOp]
            rw [e, Sem.run_bind, h1]; rfl
          · cases h
    · cases hrs
  | insert => cases hrs
  | load t x =>
    simp only [rsOp, bind_some, pure_some] at hrs
    obtain ⟨g, hg, n, hn, x', hx, rfl⟩ := hrs
    cases h
  | store t x y =>
    simp only [rsOp, bind_some, pure_some] at hrs
    obtain ⟨n, hn, x', hx, y', hy, rfl⟩ := hrs
    cases h
  | ready => cases hrs
  | waits => cases hrs
  | nilCheck x => simp only [rsOp, bind_some, pure_some] at hrs; obtain ⟨_, _, rfl⟩ := hrs; cases h
  | binOp op t x y yt =>
    simp only [rsOp] at hrs
    split at hrs
    case h_1 | h_2 | h_3 => simp only [bind_some, pure_some] at hrs; obtain ⟨_, _, _, _, rfl⟩ := hrs; cases h
    case h_4 | h_5 | h_6 =>
      split at hrs
      · simp only [bind_some, pure_some] at hrs; obtain ⟨_, _, _, _, rfl⟩ := hrs; cases h
      · simp only [bind_some, pure_some] at hrs; obtain ⟨_, _, _, _, rfl⟩ := hrs; cases h
      · cases hrs
    case h_7 =>
      split at hrs
      · simp only [bind_some, pure_some] at hrs; obtain ⟨_, _, _, _, _, _, rfl⟩ := hrs; cases h
      · simp only [bind_some, pure_some] at hrs; obtain ⟨_, _, _, _, _, _, rfl⟩ := hrs; cases h
      · cases hrs
    case h_8 => cases hrs
  | unOp op t x => simp only [rsOp, bind_some, pure_some] at hrs; obtain ⟨_, _, rfl⟩ := hrs; cases h
  | convert src dst' x =>
    simp only [rsOp] at hrs
    split at hrs
    · simp only [bind_some, pure_some] at hrs; obtain ⟨_, _, rfl⟩ := hrs; cases h
    · simp only [bind_some, pure_some] at hrs; obtain ⟨_, _, rfl⟩ := hrs; cases h
    · rename_i e hs hd
      split at hrs
      · rename_i hu8
        simp only [bind_some, pure_some] at hrs
        obtain ⟨x', hx, rfl⟩ := hrs
        cases h
      · cases hrs
    · cases hrs
  | field t x i =>
    simp only [rsOp] at hrs
    split at hrs
    · simp only [bind_some, pure_some] at hrs; obtain ⟨_, _, _, _, _, _, _, _, rfl⟩ := hrs; cases h
    · cases hrs
  | fieldAddr t x i =>
    simp only [rsOp] at hrs
    split at hrs
    · simp only [bind_some] at hrs
      obtain ⟨f, hf, n, hn, hrs⟩ := hrs
      split at hrs
      · cases hrs
      · simp only [bind_some, pure_some] at hrs; obtain ⟨_, _, _, _, rfl⟩ := hrs; cases h
    · cases hrs
  | indexAddr t x i =>
    simp only [rsOp] at hrs
    split at hrs
    · simp only [bind_some] at hrs
      obtain ⟨n, hn, hrs⟩ := hrs
      split at hrs
      · cases hrs
      · simp only [bind_some, pure_some] at hrs; obtain ⟨_, _, _, _, rfl⟩ := hrs; cases h
    · simp only [bind_some] at hrs
      obtain ⟨n, hn, hrs⟩ := hrs
      split at hrs
      · cases hrs
      · simp only [bind_some, pure_some] at hrs; obtain ⟨_, _, _, _, _, _, rfl⟩ := hrs; cases h
    · cases hrs
  | index t x i =>
    simp only [rsOp] at hrs
    split at hrs
    · simp only [bind_some, pure_some] at hrs; obtain ⟨_, _, _, _, rfl⟩ := hrs; cases h
    · simp only [bind_some, pure_some] at hrs; obtain ⟨_, _, _, _, _, _, _, _, rfl⟩ := hrs; cases h
    · cases hrs
  | slice t x lo hi mx =>
    cases mx with
    | some m => cases hrs
    | none =>
      simp only [rsOp] at hrs
      split at hrs
      · simp only [bind_some, pure_some] at hrs; obtain ⟨_, _, _, _, _, _, rfl⟩ := hrs; cases h
      · simp only [bind_some] at hrs
        obtain ⟨n, hn, hrs⟩ := hrs
        split at hrs
        · cases hrs
        · simp only [bind_some, pure_some] at hrs; obtain ⟨_, _, _, _, _, _, rfl⟩ := hrs; cases h
      · cases hrs
  | extract x i => simp only [rsOp, bind_some, pure_some] at hrs; obtain ⟨_, _, rfl⟩ := hrs; cases h
  | makeFunc f first cap =>
    cases f with
    | func f =>
      simp only [rsOp] at hrs
      split at hrs
      · simp only [bind_some, pure_some] at hrs; obtain ⟨_, _, rfl⟩ := hrs; cases h
      · cases hrs
    | _ => cases hrs
  | call c =>
    obtain ⟨callee, args, tys⟩ := c
    cases callee with
    | invoke => cases hrs
    | value f =>
      cases f with
      | func f =>
        simp only [rsOp] at hrs
        split at hrs
        · split at hrs
          · cases hrs
          · simp only [bind_some, pure_some] at hrs; obtain ⟨_, _, rfl⟩ := hrs; cases h
        · cases hrs
      | _ => simp only [rsOp, bind_some, pure_some] at hrs; obtain ⟨_, _, _, _, rfl⟩ := hrs; cases h
    | builtin b =>
      cases b with
      | len =>
        simp only [rsOp] at hrs
        split at hrs
        · split at hrs
          · simp only [bind_some, pure_some] at hrs; obtain ⟨_, _, rfl⟩ := hrs; cases h
          · cases hrs
        · split at hrs
          · simp only [bind_some, pure_some] at hrs; obtain ⟨_, _, rfl⟩ := hrs; cases h
          · cases hrs
        · rename_i kt e hty
          split at hrs
          · rename_i x hargs
            simp only [bind_some, pure_some] at hrs
            obtain ⟨x', hx, rfl⟩ := hrs
            cases h
          · cases hrs
        · cases hrs
      | max => simp only [rsOp, bind_some, pure_some] at hrs; obtain ⟨_, _, rfl⟩ := hrs; cases h
      | min => simp only [rsOp, bind_some, pure_some] at hrs; obtain ⟨_, _, rfl⟩ := hrs; cases h
      | append =>
        simp only [rsOp] at hrs
        split at hrs
        · cases hrs
        · rename_i e d hnint h0 h1
          simp only [bind_some] at hrs
          obtain ⟨n, hn, b, hb, z, hz, hrs⟩ := hrs
          split at hrs
          · cases hrs
          · rename_i hc
            split at hrs
            · rename_i x y hargs
              simp only [bind_some, pure_some] at hrs
              obtain ⟨x', hx, y', hy, rfl⟩ := hrs
              cases h
            · cases hrs
        · cases hrs
      | _ => cases hrs
  | makeMap t rr =>
    cases rr with
    | none =>
      simp only [rsOp, Option.some.injEq] at hrs; subst hrs
      cases h
    | some _ => cases hrs
  | lookup t x k ok =>
    simp only [rsOp] at hrs
    split at hrs
    · rename_i kt e hu
      simp only [bind_some, pure_some] at hrs
      obtain ⟨km, hk, z, hz, x', hx, k', hkk, rfl⟩ := hrs
      cases h
    · cases hrs
  | mapUpdate t x k v =>
    simp only [rsOp] at hrs
    split at hrs
    · rename_i kt e hu
      simp only [bind_some, pure_some] at hrs
      obtain ⟨km, hk, x', hx, k', hkk, v', hv, rfl⟩ := hrs
      cases h
    · cases hrs
  | makeSlice t l c =>
    simp only [rsOp] at hrs
    split at hrs
    · rename_i e hu
      simp only [bind_some] at hrs
      obtain ⟨n, hn, b, hb, z, hz, hrs⟩ := hrs
      split at hrs
      · cases hrs
      · rename_i hc
        simp only [bind_some, pure_some] at hrs
        obtain ⟨l', hl, c', hcc, rfl⟩ := hrs
        cases h
    · cases hrs
  | _ => cases hrs


end
end Go.Ax
