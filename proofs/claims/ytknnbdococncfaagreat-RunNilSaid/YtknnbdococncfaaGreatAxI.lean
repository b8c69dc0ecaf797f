/- Part I: the operations on memory are sound. -/
import Derived.Test.YtknnbdococncfaaGreatAxH
namespace Go.Ax
open Go
set_option linter.unusedSimpArgs false
set_option linter.unusedVariables false

variable {P : Program} {R : RsT} {B0 : Nat} {ρ ρ' : Nat → Nat} {F F' : Nat → Nat → Prop} {w w' : World} {M M' : Mem} {a : Act} {ev : Ev}

/-- An operation steps: its answer, its world, its memory. -/
def Does (P : Program) (R : RsT) (B0 : Nat) (ρ : Nat → Nat) (F : Nat → Nat → Prop) (w : World) (M : Mem) (a : Act) (o : Oper) (r : V) (M' : Mem) : Prop :=
  ∃ n v w' ρ' F', (execOp a.eval o).run P w = .ok n w' ∧ (n = .value v ∨ (n = .skip ∧ v = undef)) ∧ Stp R B0 ρ F w M ρ' F' w' M' ∧ VR ρ' F' w' M' v r

theorem Gives.does {o : Oper} {r : V} (m : MR R B0 ρ F w M) (h : Gives P ρ F w M a o r) : Does P R B0 ρ F w M a o r M :=
  let ⟨v, h1, h2⟩ := h; ⟨_, v, w, ρ, F, h1 w, .inl rfl, Stp.refl m, h2⟩

theorem does_v {o : Oper} {s : Sem Value} {r : V} (ho : execOp a.eval o = (do pure (.value (← s)))) (h : ∃ v w' ρ' F', s.run P w = .ok v w' ∧ Stp R B0 ρ F w M ρ' F' w' M' ∧ VR ρ' F' w' M' v r) : Does P R B0 ρ F w M a o r M' := by
  obtain ⟨v, w', ρ', F', h1, h2, h3⟩ := h
  exact ⟨_, v, w', ρ', F', by rw [ho, Sem.run_bind, h1]; rfl, .inl rfl, h2, h3⟩
theorem does_u {o : Oper} {s : Sem Unit} (ho : execOp a.eval o = (do s; pure .skip)) (h : ∃ w' ρ' F', s.run P w = .ok () w' ∧ Stp R B0 ρ F w M ρ' F' w' M') : Does P R B0 ρ F w M a o .any M' := by
  obtain ⟨w', ρ', F', h1, h2⟩ := h
  exact ⟨_, undef, w', ρ', F', by rw [ho, Sem.run_bind, h1]; rfl, .inr ⟨rfl, rfl⟩, h2, .any _⟩

theorem cells_of_one {d : V} (h : d.one = true) : d.cells = [d] := by cases d <;> first | rfl | (simp [V.one] at h)

/-! ### Loads -/
theorem MR.arr (m : MR R B0 ρ F w M) {b : Nat} {ex cells} (h : M.get b = some (.arr ex cells)) :
    ∃ cs e, w.heap[ρ b]? = some (.cells cs e (0, 0)) ∧ cells.length ≤ cs.size ∧ (ex = true → cells.length = cs.size) ∧ ∀ (i : Nat) c, cells[i]? = some c → ∃ v, cs[i]? = some v ∧ VR ρ F w M v c ∧ c.one = true := m.obj b _ h
theorem cell_of {w : World} {cb : Nat} {cs e fr} (h : w.heap[cb]? = some (.cells cs e fr)) (o : Nat) : w.cell? ⟨cb, o, none⟩ = cs[o]? := by simp [World.cell?, h]

theorem loadVar_run {t : TypeId} {g : Bool} {n : Nat} (hg : aggOf P t = some g) (hn : szOf P t = some n) {cb off : Nat} (vs : List Value) (hl : vs.length = (if g then n else 1))
    (h : ∀ (j : Nat) v, vs[j]? = some v → w.cell? ⟨cb, off + j, none⟩ = some v) : (loadVar t ⟨cb, off, none⟩).run P w = .ok (if g then .agg vs.toArray else vs.getD 0 undef) w := by
  unfold loadVar
  cases g with
  | true =>
    simp only [Sem.run_bind, run_aggOf hg, Result.andThen_ok, if_true, run_szOf hn]
    have := run_loadCells_list (P := P) w ⟨cb, off, none⟩ vs (fun j v hj => by rw [addr_add]; exact h j v hj)
    rw [show n = vs.length by simpa using hl.symm, this]; rfl
  | false =>
    simp only [Sem.run_bind, run_aggOf hg, Result.andThen_ok, Bool.false_eq_true, if_false, run_load]
    have hl : vs.length = 1 := by simpa using hl
    match vs, hl with
    | [v], _ => have := h 0 v rfl; rw [Nat.add_zero] at this; rw [this]; rfl

theorem loadAt_run {t : TypeId} {p : Addr} : (Instr.loadAt t (.pointer (some p))).run P w = (loadVar t p).run P w := by
  simp only [Instr.loadAt, Instr.sureAddr, Sem.run_bind, Sem.run_pure, Result.andThen_ok]

theorem load_sound (m : MR R B0 ρ F w M) {t : TypeId} {x : Operand} {xi : IArg} {g : Bool} {n : Nat} {r : V} (hg : aggOf P t = some g) (hn : szOf P t = some n) (he : EvR ρ F w M a ev) (hx : rsArg x = some xi)
    (h : memOp ev M (.load g n xi) = some (r, M')) : M' = M ∧ ∃ v, (Instr.loadAt t (a.eval x)).run P w = .ok v w ∧ VR ρ F w M v r := by
  have hv := he x xi hx
  simp only [memOp] at h
  split at h
  · rename_i b off hb
    rw [hb] at hv
    split at h
    · rename_i ex cells hM
      split at h
      · rename_i v hs
        cases h
        refine ⟨rfl, ?_⟩
        obtain ⟨cs, e, h1, h2, h3, h5⟩ := m.arr hM
        generalize hxv : a.eval x = xv at hv
        cases hv with
        | ptr p _ _ q1 q2 =>
          have := q2 (by rw [hM]; simp); subst this
          have get : ∀ (j : Nat) c, cells[j]? = some c → ∃ v, w.cell? ⟨ρ b, j, none⟩ = some v ∧ VR ρ F w M v c := fun j c hj => by
            obtain ⟨v, a1, a2, _⟩ := h5 j c hj
            exact ⟨v, by rw [cell_of h1]; exact a1, a2⟩
          unfold subV at hs
          cases g with
          | true =>
            rw [cond_true] at hs
            cases hbl : Nat.ble (off + n) cells.length with
            | false => rw [hbl, cond_false] at hs; cases hs
            | true =>
              rw [hbl, cond_true] at hs; cases hs
              have hle := Nat.le_of_ble_eq_true hbl
              have hget : ∀ (j : Nat) v, (cs.extract off (off + n))[j]? = some v → j < n ∧ cs[off + j]? = some v := fun j v hj => by
                rw [Array.getElem?_extract] at hj
                split at hj
                · exact ⟨by omega, hj⟩
                · cases hj
              refine ⟨.agg (cs.extract off (off + n)), ?_, .of_agg ⟨by simp; omega, fun i c d hc hd => ?_⟩⟩
              · rw [loadAt_run, loadVar_run (P := P) (w := w) hg hn (cb := ρ b) (off := off) (cs.extract off (off + n)).toList (by simp; omega) (fun j v hj => by
                  rw [cell_of h1]; exact (hget j v (by rw [← Array.getElem?_toList]; exact hj)).2)]
                rw [if_pos rfl, Array.toArray_toList]
              · obtain ⟨hlt, hc⟩ := hget i c hc
                rw [List.getElem?_take, if_pos hlt, List.getElem?_drop] at hd
                obtain ⟨v, a1, a2, _⟩ := h5 _ d hd
                rw [hc] at a1; cases a1; exact a2
          | false =>
            rw [cond_false] at hs
            obtain ⟨v', a1, a2⟩ := get off _ hs
            refine ⟨v', ?_, a2⟩
            rw [loadAt_run, loadVar_run (P := P) (w := w) hg hn (cb := ρ b) (off := off) [v'] rfl (fun j v hj => by cases j with | zero => simp at hj; subst hj; exact a1 | succ j => simp at hj)]
            rfl
      · cases h
    · cases h
  · rename_i d hb
    rw [hb] at hv
    generalize hxv : a.eval x = xv at hv
    cases hv with
    | fptr cb off _ xx hc hr =>
      split at h
      · rename_i cs
        cases hbl : Nat.beq cs.length n with
        | false => rw [hbl, cond_false] at h; cases h
        | true =>
          rw [hbl, cond_true] at h; cases h
          have hle := Nat.eq_of_beq_eq_true hbl
          refine ⟨rfl, .agg ((List.range n).map xx).toArray, ?_, .of_agg ⟨by simp [hle], fun i c d hc' hd => ?_⟩⟩
          · have := loadVar_run (P := P) (w := w) hg hn (cb := cb) (off := off) ((List.range n).map xx) (by simp) (fun j v hj => by
              simp only [List.getElem?_map, Option.map_eq_some_iff] at hj
              obtain ⟨k, hk, rfl⟩ := hj
              have hlt : j < n := by have := (List.getElem?_eq_some_iff.1 hk).1; simpa using this
              have : k = j := by rw [List.getElem?_range hlt] at hk; simpa using hk.symm
              subst this
              exact (hc k _ (List.getElem?_eq_getElem (by simp [V.cells]; omega))).2)
            rw [loadAt_run, this]; rfl
          · have hlt : i < n := by have := (List.getElem?_eq_some_iff.1 hd).1; omega
            have : c = xx i := by
              simp [List.getElem?_range hlt] at hc'; exact hc'.symm
            subst this
            exact hr i d hd
      · cases h
      · rename_i d _ _
        cases ho : d.one with
        | false => rw [ho, cond_false] at h; cases h
        | true =>
          rw [ho, cond_true] at h; cases h
          have h0 : r.cells[0]? = some r := by rw [cells_of_one ho]; rfl
          refine ⟨rfl, xx 0, ?_, hr 0 _ h0⟩
          have := loadVar_run (P := P) (w := w) hg hn (cb := cb) (off := off) [xx 0] rfl (fun j v hj => by cases j with | zero => simp at hj; subst hj; exact (hc 0 _ h0).2 | succ j => simp at hj)
          rw [loadAt_run, this]; rfl
  · cases h

/-! ### New rows -/
theorem alloc_arr (m : MR R B0 ρ F w M) {cs : Array Value} {e : TypeId} {ex : Bool} {cells : List V} (hle : cells.length ≤ cs.size) (hex : ex = true → cells.length = cs.size)
    (hv : ∀ (i : Nat) c, cells[i]? = some c → ∃ v, cs[i]? = some v ∧ VR ρ F w M v c ∧ c.one = true) :
    ∃ ρ', Stp R B0 ρ F w M ρ' F (w.alloc (.cells cs e (0, 0))) (M.alloc (.arr ex cells)) ∧
      VR ρ' F (w.alloc (.cells cs e (0, 0))) (M.alloc (.arr ex cells)) (.pointer (some ⟨w.heap.size, 0, none⟩)) (.ptr M.next 0) ∧
      ∀ sz n cap, n ≤ cap → cap * sz = cs.size → VR ρ' F (w.alloc (.cells cs e (0, 0))) (M.alloc (.arr ex cells)) (.slice (some ⟨w.heap.size, 0, none⟩) n cap) (.sref M.next 0 n sz) := by
  have hnew : (w.alloc (.cells cs e (0, 0))).heap[w.heap.size]? = some (.cells cs e (0, 0)) := World.alloc_heap_new w _
  obtain ⟨ρ', st, hn⟩ := Stp.alloc m (.cells cs e (0, 0)) (.arr ex cells) (fun ρ' le cell hn => ⟨cs, e, hnew, hle, hex, fun i c hi => by
    obtain ⟨v, a1, a2, a3⟩ := hv i c hi
    exact ⟨v, a1, a2.mono le cell, a3⟩⟩)
  refine ⟨ρ', st, .ptr _ _ _ (by simp) fun _ => by rw [hn], fun sz n cap h1 h2 => .sref _ _ _ _ _ _ (by simp) h1 fun _ => ⟨fun _ => by rw [hn], cs, e, (0, 0), by rw [hn]; exact hnew, by omega⟩⟩
theorem VRs.ones {cs : Array Value} {ds : List V} (h : VRs ρ F w M cs ds) (ho : ds.all V.one = true) : ∀ (i : Nat) c, ds[i]? = some c → ∃ v, cs[i]? = some v ∧ VR ρ F w M v c ∧ c.one = true := fun i c hi => by
  obtain ⟨v, a1, a2⟩ := h.get hi
  exact ⟨v, a1, a2, List.all_eq_true.1 ho c (List.mem_of_getElem? hi)⟩
theorem run_newVar (t : TypeId) (v : Value) : (newVar t v).run P w = .ok ⟨w.heap.size, 0, none⟩ (w.alloc (.cells v.cells t (0, 0))) := rfl
theorem run_newRow' (t : TypeId) (cs : Array Value) : (newRow t cs).run P w = .ok ⟨w.heap.size, 0, none⟩ (w.alloc (.cells cs t (0, 0))) := rfl

theorem zero_run {t : TypeId} {z : List V} (h : zeroCells' P t = some z) (ρ F w M) : ∃ zval, (∀ w0, (zeroValue t).run P w0 = .ok zval w0) ∧ VRs ρ F w M zval.cells z ∧ z.all V.one = true := by
  obtain ⟨zval, zv, ⟨i, hi, h0⟩, hc, ho, rfl⟩ := zeroCells_inv h
  exact ⟨zval, fun w0 => by simp [zeroValue, typeInfo, hi, h0], (constV_sound hc).cells ho, ho⟩

theorem alloc_sound (m : MR R B0 ρ F w M) {t : TypeId} {z : List V} (hz : zeroCells' P t = some z) :
    ∃ v w' ρ' F', (Instr.alloc t true (.tuple #[])).run P w = .ok v w' ∧ Stp R B0 ρ F w M ρ' F' w' (M.alloc (.arr true z)) ∧ VR ρ' F' w' (M.alloc (.arr true z)) v (.ptr M.next 0) := by
  obtain ⟨zval, h1, h2, h3⟩ := zero_run (P := P) hz ρ F w M
  obtain ⟨ρ', st, hp, _⟩ := alloc_arr m (e := t) (ex := true) (cells := z) (cs := zval.cells) (by have := h2.1; omega) (fun _ => h2.1.symm) (h2.ones h3)
  refine ⟨_, _, ρ', F, ?_, st, hp⟩
  unfold Instr.alloc
  simp only [Sem.run_bind, h1, Result.andThen_ok]
  rfl
theorem box_sound (m : MR R B0 ρ F w M) {t : TypeId} {v : Value} {d : V} (hv : VR ρ F w M v d) (ho : d.cells.all V.one = true) :
    ∃ v' w' ρ' F', (Instr.box t v).run P w = .ok v' w' ∧ Stp R B0 ρ F w M ρ' F' w' (M.alloc (.arr true d.cells)) ∧ VR ρ' F' w' (M.alloc (.arr true d.cells)) v' (.ptr M.next 0) := by
  have h2 := hv.cells ho
  obtain ⟨ρ', st, hp, _⟩ := alloc_arr m (e := t) (ex := true) (cells := d.cells) (cs := v.cells) (by have := h2.1; omega) (fun _ => h2.1.symm) (h2.ones ho)
  exact ⟨_, _, ρ', F, rfl, st, hp⟩

theorem fillV_length : ∀ (ps : List (Nat × Nat × IArg)) (ds r : List V), fillV ev ds ps = some r → r.length = ds.length
  | [], ds, r, h => by simp [fillV] at h; subst h; rfl
  | (off, n, x) :: ps, ds, r, h => by
    simp only [fillV] at h
    cases hb : Nat.beq (ev x).cells.length n && Nat.ble (off + n) ds.length && (ev x).cells.all V.one with
    | false => rw [hb] at h; cases h
    | true => rw [hb, cond_true] at h; rw [fillV_length ps _ r h, putAt_length]
theorem putAt_one : ∀ (ys ds : List V) (off : Nat), ds.all V.one = true → ys.all V.one = true → (putAt ds off ys).all V.one = true
  | [], ds, off, h, _ => h
  | y :: ys, ds, off, h, hy => by
    simp only [List.all_cons, Bool.and_eq_true] at hy
    refine putAt_one ys _ _ ?_ hy.2
    rw [List.all_eq_true] at h ⊢
    intro x hx
    rcases List.mem_or_eq_of_mem_set hx with hx | rfl
    · exact h x hx
    · exact hy.1
theorem fillV_one : ∀ (ps : List (Nat × Nat × IArg)) (ds r : List V), ds.all V.one = true → fillV ev ds ps = some r → r.all V.one = true
  | [], ds, r, h0, h => by simp [fillV] at h; subst h; exact h0
  | (off, n, x) :: ps, ds, r, h0, h => by
    simp only [fillV] at h
    cases hb : Nat.beq (ev x).cells.length n && Nat.ble (off + n) ds.length && (ev x).cells.all V.one with
    | false => rw [hb] at h; cases h
    | true =>
      rw [hb, cond_true] at h
      simp only [Bool.and_eq_true] at hb
      exact fillV_one ps _ r (putAt_one _ _ _ h0 hb.2) h

theorem repV_get {z : List V} : ∀ (n i : Nat), i < n * z.length → 0 < z.length → (repV z n)[i]? = z[i % z.length]?
  | 0, i, h, _ => by omega
  | n + 1, i, h, h0 => by
    simp only [repV]
    by_cases hi : i < z.length
    · rw [List.getElem?_append_left hi, Nat.mod_eq_of_lt hi]
    · have h' : i - z.length < n * z.length := by rw [Nat.succ_mul] at h; omega
      rw [List.getElem?_append_right (by omega), repV_get n _ h' h0, (Nat.mod_eq_sub_mod (by omega : i ≥ z.length)).symm]
theorem repV_length {z : List V} : ∀ n, (repV z n).length = n * z.length
  | 0 => by simp [repV]
  | n + 1 => by simp [repV, repV_length n, Nat.add_mul]; omega
theorem repV_one {z : List V} (h : z.all V.one = true) : ∀ n, (repV z n).all V.one = true
  | 0 => rfl
  | n + 1 => by simp only [repV, List.all_append, h, repV_one h n, Bool.and_true]
/-- A row of zeros. -/
theorem rep_rel {zc : Array Value} {z : List V} (h : VRs ρ F w M zc z) (h0 : 0 < z.length) (n : Nat) : VRs ρ F w M ((Array.range (n * z.length)).map fun i => zc[i % zc.size]!) (repV z n) := by
  refine ⟨by simp [repV_length], fun i c d hc hd => ?_⟩
  have hi : i < n * z.length := by rw [← repV_length]; exact (List.getElem?_eq_some_iff.1 hd).1
  rw [repV_get n i hi h0] at hd
  have : zc[i % z.length]! = c := by
    simp only [Array.getElem?_map, Option.map_eq_some_iff] at hc
    obtain ⟨j, hj, rfl⟩ := hc
    have : j = i := by simpa [Array.getElem?_range, hi] using hj.symm
    subst this
    rw [h.1]
  obtain ⟨v, a1, a2⟩ := h.get hd
  have hlt : i % z.length < zc.size := by rw [h.1]; exact Nat.mod_lt _ h0
  rw [← this, getElem!_pos zc _ hlt]
  rw [Array.getElem?_eq_getElem hlt] at a1
  cases a1; exact a2

theorem bslice_run {t e : TypeId} {sz len : Nat} {z : List V} {ps : Array (Nat × Operand)} {qs : List (Nat × IArg)} {cells : List V} (hu : P.underlying t = some (.slice e)) (hn : szOf P e = some sz) (h0 : sz ≠ 0)
    (hbig : Nat.ble (len * sz) c24 = true) (hz : zeroCells' P e = some z) (hzl : z.length = sz) (hps : ps.toList.mapM (fun p => (do pure (p.1, ← rsArg p.2) : Option (Nat × IArg))) = some qs) (he : EvR ρ F w M a ev)
    (hf : fillV ev (repV z len) (qs.map fun p => (p.1 * sz, sz, p.2)) = some cells) :
    ∃ cs ty, (Instr.buildSlice t len (ps.map fun p => (p.1, a.eval p.2))).run P w = .ok (.slice (some ⟨w.heap.size, 0, none⟩) len len) (w.alloc (.cells cs ty (0, 0))) ∧ VRs ρ F w M cs cells ∧ cells.all V.one = true ∧ cells.length = len * sz := by
  obtain ⟨zval, h1, h2, h3⟩ := zero_run (P := P) hz ρ F w M
  obtain ⟨q1, q2⟩ := mapM_get hps
  have hrel : VRs ρ F w M ((Array.range (len * sz)).map fun i => (if len * sz = 0 then #[] else zval.cells)[i % (if len * sz = 0 then #[] else zval.cells).size]!) (repV z len) := by
    by_cases hl : len * sz = 0
    · have : len = 0 := by rcases Nat.mul_eq_zero.1 hl with h | h; exact h; exact absurd h h0
      subst this
      exact ⟨by simp [repV], fun i c d hc hd => by simp [repV] at hd⟩
    · rw [if_neg hl, ← hzl]; exact rep_rel h2 (by omega) len
  obtain ⟨cs, e1, e2⟩ := fillV_sound (place := fun i => some (i * sz, sz)) he ps.toList (qs.map fun p => (p.1 * sz, sz, p.2)) _ _ cells (by simp [← q1]) (fun i p q hp hq => by
    simp only [List.getElem?_map, Option.map_eq_some_iff] at hq
    obtain ⟨y, hy, rfl⟩ := hq
    have := q2 i p y hp hy
    simp only [bind_some, pure_some] at this
    obtain ⟨x', hx', rfl⟩ := this
    exact ⟨rfl, hx'⟩) hrel hf
  have hone : cells.all V.one = true := fillV_one _ _ _ (repV_one h3 len) hf
  have hlen : cells.length = len * sz := by rw [fillV_length _ _ _ hf, repV_length, hzl]
  refine ⟨cs, e, ?_, e2, hone, hlen⟩
  unfold Instr.buildSlice
  simp only [Sem.run_bind, run_underlying hu, Result.andThen_ok, run_szOf hn]
  rw [if_neg (show ¬ len * sz > 2 ^ 24 by have := Nat.le_of_ble_eq_true hbig; have e : c24 = 2 ^ 24 := by decide
                                          omega)]
  have e1' : Instr.fill (fun i => some (i * sz, sz)) ((Array.range (len * sz)).map fun i => (if len * sz = 0 then #[] else zval.cells)[i % (if len * sz = 0 then #[] else zval.cells).size]!) (ps.map fun p => (p.1, a.eval p.2)).toList = some cs := by
    rw [← e1]; simp
  by_cases hl : len * sz = 0
  · simp only [if_pos hl] at e1' ⊢
    simp only [Sem.run_bind, Sem.run_pure, Result.andThen_ok]
    rw [e1']; rfl
  · simp only [if_neg hl] at e1' ⊢
    simp only [Sem.run_bind, Sem.run_pure, Result.andThen_ok, h1]
    rw [e1']; rfl

theorem bslice_sound (m : MR R B0 ρ F w M) {t e : TypeId} {sz len : Nat} {z : List V} {ps : Array (Nat × Operand)} {qs : List (Nat × IArg)} {cells : List V} (hu : P.underlying t = some (.slice e)) (hn : szOf P e = some sz) (h0 : sz ≠ 0)
    (hbig : Nat.ble (len * sz) c24 = true) (hz : zeroCells' P e = some z) (hzl : z.length = sz) (hps : ps.toList.mapM (fun p => (do pure (p.1, ← rsArg p.2) : Option (Nat × IArg))) = some qs) (he : EvR ρ F w M a ev)
    (hf : fillV ev (repV z len) (qs.map fun p => (p.1 * sz, sz, p.2)) = some cells) :
    ∃ v w' ρ' F', (Instr.buildSlice t len (ps.map fun p => (p.1, a.eval p.2))).run P w = .ok v w' ∧ Stp R B0 ρ F w M ρ' F' w' (M.alloc (.arr true cells)) ∧ VR ρ' F' w' (M.alloc (.arr true cells)) v (.sref M.next 0 len sz) := by
  obtain ⟨cs, e', h1, e2, hone, hlen⟩ := bslice_run (w := w) (ρ := ρ) (F := F) (M := M) hu hn h0 hbig hz hzl hps he hf
  obtain ⟨ρ', st, _, hs⟩ := alloc_arr m (e := e') (ex := true) (cells := cells) (cs := cs) (by have := e2.1; omega) (fun _ => e2.1.symm) (e2.ones hone)
  exact ⟨_, _, ρ', F, h1, st, hs sz len len (Nat.le_refl _) (by rw [e2.1, hlen])⟩

/-- A new block that nobody will write. -/
theorem Stp.freeze (m : MR R B0 ρ F w M) (o : Obj) : Stp R B0 ρ F w M ρ (fun cb off => F cb off ∨ cb = w.heap.size) (w.alloc o) M := by
  have hsz : (w.alloc o).heap.size = w.heap.size + 1 := World.size_alloc ..
  have old : ∀ k, k < w.heap.size → (w.alloc o).heap[k]? = w.heap[k]? := fun k hk => RowKit.Below.heap_alloc w o k hk
  have le : Le ρ F w M ρ (fun cb off => F cb off ∨ cb = w.heap.size) (w.alloc o) M := by
    refine ⟨Nat.le_refl _, fun c hc h => ⟨h, rfl⟩, by omega, rfl, rfl, rfl, fun cb cs e fr h => ⟨cs, fr, ?_, rfl⟩, fun cb h _ => old cb h, fun _ _ h => .inl h, fun c hc hlt => ⟨c, hc, rfl⟩, fun cb off h => h.imp id (fun h => by omega)⟩
    rw [old cb ?_]; exact h
    rcases Nat.lt_or_ge cb w.heap.size with h' | h'
    · exact h'
    · rw [Array.getElem?_eq_none h'] at h; cases h
  have cell : ∀ cb off, F cb off → (w.alloc o).cell? ⟨cb, off, none⟩ = w.cell? ⟨cb, off, none⟩ := fun cb off h => cell_block (old cb (m.frolt _ _ h))
  exact ⟨le, ⟨fun c q h => (m.obj c q h).mono le cell (old _ (m.lt c (by rw [h]; simp))), m.inj, m.base, m.bound, fun c h => by have := m.lt c h; omega, fun b off hb hf => by
    rcases hf with hf | hf
    · exact m.nofro b off hb hf
    · have := m.lt b hb; omega, fun cb off h => by
    rcases h with h | h
    · have := m.frolt _ _ h; omega
    · omega, by have := m.here; omega⟩⟩
theorem fslc_sound (m : MR R B0 ρ F w M) {t e : TypeId} {sz len : Nat} {z : List V} {ps : Array (Nat × Operand)} {qs : List (Nat × IArg)} {cells : List V} (hu : P.underlying t = some (.slice e)) (hn : szOf P e = some sz) (h1 : sz = 1)
    (hbig : Nat.ble (len * sz) c24 = true) (hz : zeroCells' P e = some z) (hzl : z.length = sz) (hps : ps.toList.mapM (fun p => (do pure (p.1, ← rsArg p.2) : Option (Nat × IArg))) = some qs) (he : EvR ρ F w M a ev)
    (hf : fillV ev (repV z len) (qs.map fun p => (p.1 * sz, sz, p.2)) = some cells) :
    ∃ v w' ρ' F', (Instr.buildSlice t len (ps.map fun p => (p.1, a.eval p.2))).run P w = .ok v w' ∧ Stp R B0 ρ F w M ρ' F' w' M ∧ VR ρ' F' w' M v (.fsl cells) := by
  subst h1
  obtain ⟨cs, e', h1, e2, hone, hlen⟩ := bslice_run (w := w) (ρ := ρ) (F := F) (M := M) hu hn (by omega) hbig hz hzl hps he hf
  rw [Nat.mul_one] at hlen
  have st := Stp.freeze m (.cells cs e' (0, 0))
  have hnew : (w.alloc (.cells cs e' (0, 0))).heap[w.heap.size]? = some (.cells cs e' (0, 0)) := World.alloc_heap_new w _
  have one : ∀ (i : Nat) d, cells[i]? = some d → d.cells = [d] := fun i d hd => cells_of_one (List.all_eq_true.1 hone d (List.mem_of_getElem? hd))
  refine ⟨_, _, ρ, _, h1, st, ?_⟩
  rw [← hlen]
  refine .fsl w.heap.size 0 _ 1 cells (fun i j => cs.getD i undef) (Nat.le_refl _) (fun i d hd => ⟨by rw [one i d hd]; rfl, fun j c hj => ⟨.inr rfl, ?_⟩⟩) (fun i d j c hd hj => ?_)
  · rw [one i d hd] at hj
    cases j with
    | zero =>
      obtain ⟨u, hu, _⟩ := e2.get hd
      rw [cell_of hnew, show 0 + i * 1 + 0 = i by omega, hu, Array.getD_eq_getD_getElem?, hu]; rfl
    | succ j => simp at hj
  · rw [one i d hd] at hj
    cases j with
    | zero =>
      simp at hj; subst hj
      obtain ⟨u, hu, r⟩ := e2.get hd
      rw [Array.getD_eq_getD_getElem?, hu]; exact r.le st.le m
    | succ j => simp at hj

theorem mksl_sound (m : MR R B0 ρ F w M) {t e : TypeId} {sz bytes : Nat} {z : List V} {l c : Value} {k1 k2 : IntKind} {n q : Int} (hu : P.underlying t = some (.slice e)) (hn : szOf P e = some sz) (hb : bytesOf' P e = some bytes) (h0 : sz ≠ 0)
    (hz : zeroCells' P e = some z) (hzl : z.length = sz) (hl : l = .int k1 n) (hc : c = .int k2 q) (hr : 0 ≤ n ∧ n ≤ q ∧ q.toNat * bytes ≤ c46) (hb0 : bytes ≠ 0) :
    ∃ v w' ρ' F', (Instr.makeSlice t l c).run P w = .ok v w' ∧ Stp R B0 ρ F w M ρ' F' w' (M.alloc (.arr true (repV z q.toNat))) ∧ VR ρ' F' w' (M.alloc (.arr true (repV z q.toNat))) v (.sref M.next 0 n.toNat sz) := by
  obtain ⟨zval, h1, h2, h3⟩ := zero_run (P := P) hz ρ F w M
  obtain ⟨r1, r2, r3⟩ := hr
  unfold bytesOf' at hb
  simp only [Option.map_eq_some_iff] at hb
  obtain ⟨i, hi, hb⟩ := hb
  have hq : q.toNat ≤ c46 := Nat.le_trans (Nat.le_mul_of_pos_right _ (by omega)) r3
  have e46 : (c46 : Int) = 70368744177664 := by decide
  have wn : IntKind.i64.wrap n = n := wrap_of_in _ _ ⟨by rw [min_i64]; omega, by rw [max_i64]; omega⟩
  have wq : IntKind.i64.wrap q = q := wrap_of_in _ _ ⟨by rw [min_i64]; omega, by rw [max_i64]; omega⟩
  have hbq : (bytes : Int) * q ≤ c46 := by
    have : ((q.toNat * bytes : Nat) : Int) ≤ c46 := by exact_mod_cast r3
    rw [Int.natCast_mul, Int.toNat_of_nonneg (by omega), Int.mul_comm] at this
    exact this
  have hrel : VRs ρ F w M ((Array.range (q.toNat * sz)).map fun i => (if q.toNat * sz = 0 then #[] else zval.cells)[i % (if q.toNat * sz = 0 then #[] else zval.cells).size]!) (repV z q.toNat) := by
    by_cases hl : q.toNat * sz = 0
    · have : q.toNat = 0 := by rcases Nat.mul_eq_zero.1 hl with h | h; exact h; exact absurd h h0
      exact ⟨by simp [repV, this], fun i c d hc hd => by simp [repV, this] at hd⟩
    · rw [if_neg hl, ← hzl]; exact rep_rel h2 (by omega) _
  obtain ⟨ρ', st, _, hs⟩ := alloc_arr m (e := e) (ex := true) (by have := hrel.1; omega) (fun _ => hrel.1.symm) (hrel.ones (repV_one h3 _))
  refine ⟨.slice (some ⟨w.heap.size, 0, none⟩) n.toNat q.toNat, _, ρ', F, ?_, st, hs sz n.toNat q.toNat (by omega) (by rw [hrel.1, repV_length, hzl])⟩
  unfold Instr.makeSlice
  subst hl; subst hc
  simp only [Sem.run_bind, run_underlying hu, Result.andThen_ok, asInt, asIntOf, Sem.run_pure, typeInfo, run_program, hi, hb, wn, wq]
  have t1 : (decide (q < 0) || decide ((bytes : Int) * q > 2 ^ 48)) = false := by
    simp only [Bool.or_eq_false_iff, decide_eq_false_iff_not]
    constructor <;> omega
  rw [if_neg (by rw [t1]; simp; omega)]
  simp only [Sem.run_bind, run_askRoom, Result.andThen_ok, run_szOf hn]
  by_cases hl : q.toNat * sz = 0
  · simp only [if_pos hl]; rfl
  · simp only [if_neg hl, Sem.run_bind, h1, Result.andThen_ok, Sem.run_pure]; rfl

/-! ### Stores -/
theorem setRow_putObj {g : Nat} {cur c : Array Value} {t : TypeId} {fr : Nat × Nat} (h : w.heap[g]? = some (.cells cur t fr)) : w.setRow g c = w.putObj g (.cells c t fr) := by
  unfold World.setRow World.putObj
  congr 1
  apply Array.ext_getElem?
  intro i
  rw [Array.getElem?_modify]
  by_cases e : g = i
  · subst e
    rw [if_pos rfl, h, Array.getElem?_setIfInBounds_self, if_pos (Array.getElem?_eq_some_iff.1 h).1]
    rfl
  · rw [if_neg e, Array.getElem?_setIfInBounds_ne e]

theorem putAt_eq : ∀ (ys ds : List V) (off : Nat), off + ys.length ≤ ds.length → putAt ds off ys = ds.take off ++ ys ++ ds.drop (off + ys.length)
  | [], ds, off, _ => by simp [putAt]
  | y :: ys, ds, off, h => by
    simp only [List.length_cons] at h
    rw [putAt, putAt_eq ys _ _ (by simp; omega)]
    have h1 : (ds.set off y).take (off + 1) = ds.take off ++ [y] := by
      rw [List.take_set, List.take_succ_eq_append_getElem (by omega)]
      rw [List.set_append_right _ _ (by simp; omega)]
      simp
      rw [show off - min off ds.length = 0 by omega]
      rfl
    have h2 : (ds.set off y).drop (off + 1 + ys.length) = ds.drop (off + (ys.length + 1)) := by
      rw [List.drop_set, if_pos (by omega)]
      congr 1
      omega
    rw [h1, h2]; simp

/-- Cells are written over those that were there. -/
theorem write_cells (m : MR R B0 ρ F w M) {b off : Nat} {ex : Bool} {cells ys : List V} {vs : List Value} (hM : M.get b = some (.arr ex cells)) (hl : vs.length = ys.length)
    (hv : ∀ (i : Nat) c d, vs[i]? = some c → ys[i]? = some d → VR ρ F w M c d) (ho : ys.all V.one = true) (hle : off + ys.length ≤ cells.length) :
    ∃ w', (storeCells ⟨ρ b, off, none⟩ vs).run P w = .ok () w' ∧ Stp R B0 ρ F w M ρ F w' (M.set b (.arr ex (putAt cells off ys))) := by
  obtain ⟨cs, e, h1, h2, h3, h5⟩ := m.arr hM
  have hone : ∀ v ∈ vs, v.oneCell' = true := fun v hvm => by
    obtain ⟨i, hi⟩ := List.mem_iff_getElem?.1 hvm
    have hlt : i < ys.length := by rw [← hl]; exact (List.getElem?_eq_some_iff.1 hi).1
    have hd := List.getElem?_eq_getElem hlt
    exact (hv i v _ hi hd).one (List.all_eq_true.1 ho _ (List.getElem_mem hlt))
  have hrun := run_storeCells_at (P := P) (ρ b) off e vs 0 cs w h1 (by omega) hone
  rw [Nat.add_zero, setRow_putObj h1] at hrun
  refine ⟨_, hrun, Stp.put m (by rw [hM]; simp) _ _ (fun cs' e' fr' hc => ?_) (fun le cell hs => ?_)⟩
  · rw [h1] at hc; cases hc
    exact ⟨_, _, rfl, by simp; omega⟩
  · refine ⟨_, e, hs, by rw [putAt_length]; simp; omega, fun hx => by rw [putAt_length]; have := h3 hx; simp; omega, fun i c hi => ?_⟩
    rw [putAt_eq _ _ _ hle] at hi
    have hlen1 : (cells.take off).length = off := by simp; omega
    have hlen2 : (cs.toList.take off).length = off := by simp; omega
    simp only [List.getElem?_toArray]
    by_cases c1 : i < off
    · rw [List.append_assoc, List.getElem?_append_left (by omega), List.getElem?_take, if_pos c1] at hi
      obtain ⟨v, a1, a2, a3⟩ := h5 i c hi
      refine ⟨v, ?_, a2.mono le cell, a3⟩
      rw [List.append_assoc, List.getElem?_append_left (by omega), List.getElem?_take, if_pos c1]
      simpa using a1
    · by_cases c2 : i < off + ys.length
      · rw [List.append_assoc, List.getElem?_append_right (by omega), List.getElem?_append_left (by omega), hlen1] at hi
        have hv' : vs[i - off]? = some (vs[i - off]'(by omega)) := List.getElem?_eq_getElem _
        refine ⟨_, ?_, (hv _ _ _ hv' hi).mono le cell, List.all_eq_true.1 ho c (List.mem_of_getElem? hi)⟩
        rw [List.append_assoc, List.getElem?_append_right (by omega), List.getElem?_append_left (by omega), hlen2]
        exact hv'
      · rw [List.append_assoc, List.getElem?_append_right (by omega), List.getElem?_append_right (by omega), List.getElem?_drop, hlen1] at hi
        rw [show off + ys.length + (i - off - ys.length) = i by omega] at hi
        obtain ⟨v, a1, a2, a3⟩ := h5 i c hi
        refine ⟨v, ?_, a2.mono le cell, a3⟩
        rw [List.append_assoc, List.getElem?_append_right (by omega), List.getElem?_append_right (by omega), List.getElem?_drop, hlen2, hl]
        rw [show off + ys.length + (i - off - ys.length) = i by omega]
        simpa using a1

theorem store_sound (m : MR R B0 ρ F w M) {t : TypeId} {x y : Operand} {xi yi : IArg} {n : Nat} {r : V} (hn : szOf P t = some n) (he : EvR ρ F w M a ev) (hx : rsArg x = some xi) (hy : rsArg y = some yi)
    (h : memOp ev M (.store n xi yi) = some (r, M')) : r = .any ∧ ∃ w' ρ' F', (Instr.storeAt t (a.eval x) (a.eval y)).run P w = .ok () w' ∧ Stp R B0 ρ F w M ρ' F' w' M' := by
  have hv := he x xi hx
  have hw := he y yi hy
  simp only [memOp] at h
  split at h
  · rename_i b off hb
    rw [hb] at hv
    split at h
    · rename_i ex cells hM
      cases hc : (Nat.beq (ev yi).cells.length n && (ev yi).cells.all V.one && Nat.ble (off + n) cells.length) with
      | false => rw [hc, cond_false] at h; cases h
      | true =>
        rw [hc, cond_true] at h; cases h
        simp only [Bool.and_eq_true] at hc
        obtain ⟨⟨c1, c2⟩, c3⟩ := hc
        have c1 := Nat.eq_of_beq_eq_true c1
        have c3 := Nat.le_of_ble_eq_true c3
        have hcs := hw.cells c2
        generalize hxv : a.eval x = xv at hv
        cases hv with
        | ptr p _ _ q1 q2 =>
          have := q2 (by rw [hM]; simp); subst this
          obtain ⟨w', e1, e2⟩ := write_cells (P := P) m (off := off) (vs := (a.eval y).cells.toList) hM (by simpa using hcs.1) (fun i c d hc hd => hcs.2 i c d (by simpa using hc) hd) c2 (by omega)
          refine ⟨rfl, w', ρ, F, ?_, e2⟩
          simp only [Instr.storeAt, Instr.sureAddr, storeVar, Sem.run_bind, Sem.run_pure, Result.andThen_ok, run_szOf hn]
          rw [if_neg (by have := hcs.1; simp; omega)]
          exact e1
    · cases h
  · cases h

end Go.Ax
