/- Part H: the operations that look at no memory are sound (4): all of them. -/
import Derived.Test.YtknnbdococncfaaGreatAxG
namespace Go.Ax
open Go
set_option linter.unusedSimpArgs false
set_option linter.unusedVariables false

variable {P : Program} {R : RsT} {B0 : Nat} {ρ ρ' : Nat → Nat} {F F' : Nat → Nat → Prop} {w w' : World} {M M' : Mem} {a : Act} {ev : Ev}

theorem bind_some {α β : Type} {x : Option α} {f : α → Option β} {b : β} : (x >>= f) = some b ↔ ∃ y, x = some y ∧ f y = some b := by
  cases x <;> simp
theorem pure_some {α : Type} {x y : α} : (pure x : Option α) = some y ↔ x = y := by simp [pure]

theorem gives_v {o : Oper} {s : Sem Value} {r : V} (ho : execOp a.eval o = (do pure (.value (← s)))) (h : ∃ v, (∀ w0, s.run P w0 = .ok v w0) ∧ VR ρ F w M v r) : Gives P ρ F w M a o r := by
  obtain ⟨v, h1, h2⟩ := h
  exact ⟨v, fun w0 => by rw [ho, Sem.run_bind, h1]; rfl, h2⟩

theorem addr_add (b o n : Nat) : Addr.add ⟨b, o, none⟩ n = ⟨b, o + n, none⟩ := by
  unfold Addr.add; split
  · subst n; rfl
  · rfl

theorem EvR.args (he : EvR ρ F w M a ev) {xs : Array Operand} {ys : List IArg} (h : rsArgs xs = some ys) : VRs ρ F w M (xs.map a.eval) (evs ev ys) := by
  obtain ⟨h1, h2⟩ := mapM_get h
  refine ⟨by simp [evs, ← h1], fun i c d hc hd => ?_⟩
  simp only [Array.getElem?_map, Option.map_eq_some_iff] at hc
  obtain ⟨x, hx, rfl⟩ := hc
  simp only [evs, List.getElem?_map, Option.map_eq_some_iff] at hd
  obtain ⟨y, hy, rfl⟩ := hd
  exact he x y (h2 i x y (by simpa using hx) hy)

/-- A pointer to a part of a frozen variable. -/
theorem fptr_sub {cb o off n : Nat} {g : Bool} {ds : List V} {r : V} (hp : VR ρ F w M (.pointer (some ⟨cb, o, none⟩)) (.fptr (.agg ds))) (h : subV g ds off n = some r) (h1 : g = false → r.one = true) :
    VR ρ F w M (.pointer (some ⟨cb, o + off, none⟩)) (.fptr r) := by
  cases hp with
  | fptr _ _ _ x hc hv =>
    have hcell : ∀ j c, r.cells[j]? = some c → ds[off + j]? = some c := by
      intro j c hj
      unfold subV at h
      cases g with
      | true =>
        rw [cond_true] at h
        cases hb : Nat.ble (off + n) ds.length with
        | false => rw [hb, cond_false] at h; cases h
        | true =>
          rw [hb, cond_true] at h; cases h
          simp only [V.cells, List.getElem?_take] at hj
          split at hj
          · rwa [List.getElem?_drop] at hj
          · cases hj
      | false =>
        rw [cond_false] at h
        have h1 := h1 rfl
        have hr : r.cells = [r] := by cases r <;> simp_all [V.one, V.cells]
        rw [hr] at hj
        cases j with
        | zero => simp at hj; subst hj; simpa using h
        | succ j => simp at hj
    exact .fptr _ _ _ (fun j => x (off + j)) (fun j c hj => by have := hc (off + j) c (hcell j c hj); rw [Nat.add_assoc]; exact this) (fun j c hj => hv (off + j) c (hcell j c hj))

theorem ptr_add {p : Addr} {b o : Nat} (n : Nat) (h : VR ρ F w M (.pointer (some p)) (.ptr b o)) : VR ρ F w M (.pointer (some (p.add n))) (.ptr b (o + n)) := by
  cases h with
  | ptr _ _ _ h1 h2 => exact .ptr _ _ _ h1 fun hl => by rw [h2 hl, addr_add]
theorem VR.ptr_inv {v : Value} {b o} (h : VR ρ F w M v (.ptr b o)) : ∃ p, v = .pointer (some p) := by cases h; exact ⟨_, rfl⟩
theorem VR.fptr_inv {v : Value} {d} (h : VR ρ F w M v (.fptr d)) : ∃ cb o, v = .pointer (some ⟨cb, o, none⟩) := by cases h; exact ⟨_, _, rfl⟩

theorem zeroCells_inv {t : TypeId} {z : List V} (h : zeroCells' P t = some z) :
    ∃ zval zv, (∃ i, P.info? t = some i ∧ i.zero = some zval) ∧ constV zval = some zv ∧ zv.cells.all V.one = true ∧ zv.cells = z := by
  unfold zeroCells' at h
  split at h
  · rename_i zv hz
    split at h
    · rename_i ho
      cases h
      simp only [zeroV, Option.bind_eq_some_iff] at hz
      obtain ⟨zval, ⟨i, hi, h0⟩, hc⟩ := hz
      exact ⟨zval, zv, ⟨i, hi, h0⟩, hc, ho, rfl⟩
    · cases h
  · cases h

theorem pureOp_sound {o : Oper} {io : IOp} {r : V} (hrs : rsOp P o.op = some io) (he : EvR ρ F w M a ev) (h : pureOp ev io = some r) : Gives P ρ F w M a o r := by
  obtain ⟨dst, op, type, pos, after, guard⟩ := o
  simp only at hrs
  cases op with
  | move x =>
    simp only [rsOp, bind_some, pure_some] at hrs
    obtain ⟨x', hx, rfl⟩ := hrs
    cases h
    exact ⟨a.eval x, fun _ => rfl, he x x' hx⟩
  | assign x =>
    simp only [rsOp, bind_some, pure_some] at hrs
    obtain ⟨x', hx, rfl⟩ := hrs
    cases h
    exact ⟨a.eval x, fun _ => rfl, he x x' hx⟩
  | pick c x y =>
    simp only [rsOp, bind_some, pure_some] at hrs
    obtain ⟨c', hc, x', hx, y', hy, rfl⟩ := hrs
    simp only [pureOp] at h
    split at h
    · rename_i b hb
      cases h
      have hc := he c c' hc; rw [hb] at hc
      refine ⟨if b then a.eval x else a.eval y, fun _ => by simp [execOp, hc.bool_inv, asBool], ?_⟩
      cases b
      · exact he y y' hy
      · exact he x x' hx
    · cases h
  | alloc t => simp only [rsOp, bind_some, pure_some] at hrs; obtain ⟨_, _, rfl⟩ := hrs; simp [pureOp] at h
  | box t x => simp only [rsOp, bind_some, pure_some] at hrs; obtain ⟨_, _, rfl⟩ := hrs; simp [pureOp] at h
  | build t ps =>
    simp only [rsOp, bind_some] at hrs
    obtain ⟨z, hz, hrs⟩ := hrs
    split at hrs
    · rename_i fs hu
      simp only [bind_some, pure_some] at hrs
      obtain ⟨pl, hpl, qs, hqs, rfl⟩ := hrs
      simp only [pureOp] at h
      split at h
      · rename_i cs hf
        cases h
        obtain ⟨zval, zv, ⟨i, hi, hzero⟩, hcz, hone, rfl⟩ := zeroCells_inv hz
        have zc : VRs ρ F w M zval.cells zv.cells := (constV_sound hcz).cells hone
        obtain ⟨pl1, pl2⟩ := mapM_get hpl
        obtain ⟨q1, q2⟩ := mapM_get hqs
        obtain ⟨cs', e1, e2⟩ := fillV_sound (place := (fun i => (pl[i]? : Option (Nat × Nat)))) he ps.toList qs _ _ cs q1 (fun i p q hp hq => by
          have := q2 i p q hp hq
          simp only [bind_some, pure_some] at this
          obtain ⟨y, hy, x', hx', rfl⟩ := this
          exact ⟨hy, hx'⟩) zc hf
        have hplaces : ∀ w0, (fs.mapM fun f => (do pure (f.offset, ← sizeOf f.type) : Sem (Nat × Nat))).run P w0 = .ok pl.toArray w0 := by
          intro w0
          rw [Array.mapM_eq_mapM_toList]
          have : ∀ (l : List Field) (l' : List (Nat × Nat)), l.mapM (fun f => (do pure (f.offset, ← szOf P f.type) : Option (Nat × Nat))) = some l' → (l.mapM fun f => (do pure (f.offset, ← sizeOf f.type) : Sem (Nat × Nat))).run P w0 = .ok l' w0 := by
            intro l
            induction l with
            | nil => intro l' h; simp at h; subst h; rfl
            | cons f l ih =>
              intro l' h
              simp only [List.mapM_cons, bind_some, pure_some] at h
              obtain ⟨y, ⟨n, hn, rfl⟩, ys, hys, rfl⟩ := h
              rw [List.mapM_cons]
              simp only [Sem.run_bind, run_szOf hn, Result.andThen_ok, Sem.run_pure, ih ys hys]
          rw [Sem.run_map, this _ _ hpl]; rfl
        refine gives_v (s := Instr.build t (ps.map fun p => (p.1, a.eval p.2))) rfl ⟨.agg cs', fun w0 => ?_, .of_agg e2⟩
        unfold Instr.build
        have hplaces := hplaces w0
        simp only [Sem.run_bind, zeroValue, typeInfo, run_program, Result.andThen_ok, hi, hzero, Sem.run_pure, run_underlying hu, hplaces]
        have e1' : Instr.fill (fun x => (pl.toArray[x]? : Option (Nat × Nat))) zval.cells (ps.map fun p => (p.1, a.eval p.2)).toList = some cs' := by
          rw [← e1]; simp
        rw [e1']
        rfl
      · cases h
    · cases hrs
  | buildSlice t n ps =>
    simp only [rsOp] at hrs
    split at hrs
    · simp only [bind_some] at hrs
      obtain ⟨n, _, hrs⟩ := hrs
      split at hrs
      · cases hrs
      · simp only [bind_some] at hrs
        obtain ⟨z, _, hrs⟩ := hrs
        split at hrs
        · cases hrs
        · simp only [bind_some, pure_some] at hrs
          obtain ⟨qs, _, rfl⟩ := hrs
          unfold bslOp at h
          generalize (_ && _) = b at h
          cases b <;> simp [pureOp] at h
    · cases hrs
  | insert => cases hrs
  | load t x => simp only [rsOp, bind_some, pure_some] at hrs; obtain ⟨_, _, _, _, _, _, rfl⟩ := hrs; simp [pureOp] at h
  | store t x y => simp only [rsOp, bind_some, pure_some] at hrs; obtain ⟨_, _, _, _, _, _, rfl⟩ := hrs; simp [pureOp] at h
  | ready => cases hrs
  | waits => cases hrs
  | nilCheck x =>
    simp only [rsOp, bind_some, pure_some] at hrs
    obtain ⟨x', hx, rfl⟩ := hrs
    have hv := he x x' hx
    refine ⟨a.eval x, ?_, ?_⟩
    · intro w0
      simp only [pureOp] at h
      simp only [execOp]
      generalize a.eval x = xv at hv ⊢
      split at h <;> rename_i hev <;> (try cases h) <;> rw [hev] at hv <;> cases hv <;> rfl
    · simp only [pureOp] at h
      split at h <;> rename_i hev <;> (try cases h) <;> rw [hev] at hv <;> exact hv
  | binOp op t x y yt =>
    simp only [rsOp] at hrs
    have nag : ∀ {d e : V} {vx vy : Value}, VR ρ F w M vx d → VR ρ F w M vy e → (binV op d e).isSome = true → (∀ p q, ¬(vx = .agg p ∧ vy = .agg q)) ∧ ¬ (vx = .nilIface ∧ vy = .nilIface) := by
      intro d e vx vy h1 h2 h3
      unfold binV at h3
      split at h3
      · cases h1; cases h2; simp
      · cases h1; cases h2; simp
      · cases h3
    split at hrs
    case h_1 | h_2 | h_3 =>
      simp only [bind_some, pure_some] at hrs
      obtain ⟨x', hx, y', hy, rfl⟩ := hrs
      simp only [pureOp] at h
      have hg := nag (he x x' hx) (he y y' hy) (by rw [h]; rfl)
      obtain ⟨v, hv1, hv2⟩ := binV_sound (P := P) (he x x' hx) (he y y' hy) h t
      exact gives_v (s := do eqGuard op t x y (a.eval x) (a.eval y); Go.binOp op t (a.eval x) (a.eval y)) rfl ⟨v, fun w0 => by simp only [Sem.run_bind, eqGuard_run op t x y hg, Result.andThen_ok, hv1], hv2⟩
    case h_4 hu =>
      have key : ∀ (neg : Bool) x' y', rsArg x = some x' → rsArg y = some y' → pureOp ev (.eqk 0 neg x' y') = some r → (op = if neg then .neq else .eql) → Gives P ρ F w M a ⟨dst, .binOp op t x y yt, type, pos, after, guard⟩ r := by
        intro neg x' y' hx hy h hop
        simp only [pureOp] at h
        split at h
        · rename_i b hb
          cases h
          have := fun w0 => isNilk_sound (P := P) (he x x' hx) (he y y' hy) hb t ⟨fun _ => hu, fun q => by simp at q, fun q => by simp at q⟩ w0
          refine gives_v (s := do eqGuard op t x y (a.eval x) (a.eval y); Go.binOp op t (a.eval x) (a.eval y)) rfl ⟨_, fun w0 => ?_, .bool _⟩
          obtain ⟨_, k1, k2, k3⟩ := this w0
          simp only [Sem.run_bind, eqGuard_run op t x y k3, Result.andThen_ok]
          subst hop
          cases neg
          · simpa using k1
          · simpa using k2
        · cases h
      split at hrs
      · simp only [bind_some, pure_some] at hrs
        obtain ⟨x', hx, y', hy, rfl⟩ := hrs
        exact key false x' y' hx hy h rfl
      · simp only [bind_some, pure_some] at hrs
        obtain ⟨x', hx, y', hy, rfl⟩ := hrs
        exact key true x' y' hx hy h rfl
      · cases hrs
    case h_5 u hu =>
      have key : ∀ (neg : Bool) x' y', rsArg x = some x' → rsArg y = some y' → pureOp ev (.eqk 1 neg x' y') = some r → (op = if neg then .neq else .eql) → Gives P ρ F w M a ⟨dst, .binOp op t x y yt, type, pos, after, guard⟩ r := by
        intro neg x' y' hx hy h hop
        simp only [pureOp] at h
        split at h
        · rename_i b hb
          cases h
          have := fun w0 => isNilk_sound (P := P) (he x x' hx) (he y y' hy) hb t ⟨fun q => by simp at q, fun _ => ⟨_, hu⟩, fun q => by simp at q⟩ w0
          refine gives_v (s := do eqGuard op t x y (a.eval x) (a.eval y); Go.binOp op t (a.eval x) (a.eval y)) rfl ⟨_, fun w0 => ?_, .bool _⟩
          obtain ⟨_, k1, k2, k3⟩ := this w0
          simp only [Sem.run_bind, eqGuard_run op t x y k3, Result.andThen_ok]
          subst hop
          cases neg
          · simpa using k1
          · simpa using k2
        · cases h
      split at hrs
      · simp only [bind_some, pure_some] at hrs
        obtain ⟨x', hx, y', hy, rfl⟩ := hrs
        exact key false x' y' hx hy h rfl
      · simp only [bind_some, pure_some] at hrs
        obtain ⟨x', hx, y', hy, rfl⟩ := hrs
        exact key true x' y' hx hy h rfl
      · cases hrs
    case h_6 u hu =>
      have key : ∀ (neg : Bool) x' y', rsArg x = some x' → rsArg y = some y' → pureOp ev (.eqk 2 neg x' y') = some r → (op = if neg then .neq else .eql) → Gives P ρ F w M a ⟨dst, .binOp op t x y yt, type, pos, after, guard⟩ r := by
        intro neg x' y' hx hy h hop
        simp only [pureOp] at h
        split at h
        · rename_i b hb
          cases h
          have := fun w0 => isNilk_sound (P := P) (he x x' hx) (he y y' hy) hb t ⟨fun q => by simp at q, fun q => by simp at q, fun _ => ⟨_, hu⟩⟩ w0
          refine gives_v (s := do eqGuard op t x y (a.eval x) (a.eval y); Go.binOp op t (a.eval x) (a.eval y)) rfl ⟨_, fun w0 => ?_, .bool _⟩
          obtain ⟨_, k1, k2, k3⟩ := this w0
          simp only [Sem.run_bind, eqGuard_run op t x y k3, Result.andThen_ok]
          subst hop
          cases neg
          · simpa using k1
          · simpa using k2
        · cases h
      split at hrs
      · simp only [bind_some, pure_some] at hrs
        obtain ⟨x', hx, y', hy, rfl⟩ := hrs
        exact key false x' y' hx hy h rfl
      · simp only [bind_some, pure_some] at hrs
        obtain ⟨x', hx, y', hy, rfl⟩ := hrs
        exact key true x' y' hx hy h rfl
      · cases hrs
    case h_7 fs hu =>
      have key : ∀ (neg : Bool) ks x' y', flatS P t = some ks → rsArg x = some x' → rsArg y = some y' → pureOp ev (.eqs neg ks x' y') = some r → (op = if neg then .neq else .eql) → Gives P ρ F w M a ⟨dst, .binOp op t x y yt, type, pos, after, guard⟩ r := by
        intro neg ks x' y' hk hx hy h hop
        simp only [pureOp] at h
        split at h
        · rename_i xs ys hxs hys
          split at h
          · rename_i b hb
            cases h
            have rx := he x x' hx; rw [hxs] at rx
            have ry := he y y' hy; rw [hys] at ry
            obtain ⟨cx, ex, vx⟩ := rx.agg_inv
            obtain ⟨cy, ey, vy⟩ := ry.agg_inv
            unfold flatS at hk
            rw [hu] at hk
            simp only at hk
            split at hk
            · rename_i hc
              simp only [Bool.and_eq_true, beq_iff_eq] at hc
              obtain ⟨⟨hc1, hc2⟩, hc3⟩ := hc
              have hfo : P.fieldsOf t = fs := by unfold Program.fieldsOf; rw [hu]
              have hrun : ∀ w0, (Op.equalIn 10000 t (.agg cx) (.agg cy)).run P w0 = .ok b w0 := fun w0 => by
                rw [run_equalIn_struct w0 9999 t cx cy (by rw [hfo]; exact hu) hc3, hfo]
                refine eqFields_flat (k := 9998) vx vy w0 fs.toList ks 0 b (fun i f hf => ?_) hk (by simpa using hb)
                have := (List.all_eq_true.1 hc1) (f, i) (List.mem_iff_getElem?.2 ⟨i, by simp [hf]⟩)
                simp at this
                exact ⟨this.1, by omega⟩
              refine gives_v (s := do eqGuard op t x y (a.eval x) (a.eval y); Go.binOp op t (a.eval x) (a.eval y)) rfl ⟨_, fun w0 => ?_, .bool _⟩
              rw [ex, ey]
              simp only [Sem.run_bind, run_eqGuard_agg w0 op t x y cx cy hc2, Result.andThen_ok]
              subst hop
              cases neg
              · simp [run_eql_struct, hrun]
              · simp [run_neq_struct, hrun]
            · cases hk
          · cases h
        · cases h
      split at hrs
      · simp only [bind_some, pure_some] at hrs
        obtain ⟨ks, hk, x', hx, y', hy, rfl⟩ := hrs
        exact key false ks x' y' hk hx hy h rfl
      · simp only [bind_some, pure_some] at hrs
        obtain ⟨ks, hk, x', hx, y', hy, rfl⟩ := hrs
        exact key true ks x' y' hk hx hy h rfl
      · cases hrs
    case h_8 => cases hrs
  | unOp op t x =>
    simp only [rsOp, bind_some, pure_some] at hrs
    obtain ⟨x', hx, rfl⟩ := hrs
    have hv := he x x' hx
    simp only [pureOp] at h
    split at h
    · rename_i b hb
      cases h; rw [hb] at hv
      exact gives_v (s := Op.unary .not (a.eval x)) rfl ⟨_, fun w0 => by rw [hv.bool_inv]; rfl, .bool _⟩
    · rename_i k n hb
      cases h; rw [hb] at hv
      exact gives_v (s := Op.unary .neg (a.eval x)) rfl ⟨_, fun w0 => by rw [hv.int_inv]; rfl, by rw [wrapF_eq]; exact .int _ _⟩
    · cases h
  | convert src dst' x =>
    simp only [rsOp] at hrs
    split at hrs
    · rename_i k0 k hs hd
      simp only [bind_some, pure_some] at hrs
      obtain ⟨x', hx, rfl⟩ := hrs
      have hv := he x x' hx
      simp only [pureOp] at h
      split at h
      · rename_i k1 n hb
        cases h; rw [hb] at hv
        refine gives_v (s := Go.convert src dst' (a.eval x)) rfl ⟨_, fun w0 => ?_, by rw [wrapF_eq]; exact .int _ _⟩
        rw [hv.int_inv]
        simp [Go.convert, run_underlying hs, run_underlying hd, Conv.intToInt]
      · cases h
    · rename_i hs hd
      simp only [bind_some, pure_some] at hrs
      obtain ⟨x', hx, rfl⟩ := hrs
      have hv := he x x' hx
      simp only [pureOp] at h
      split at h
      · rename_i s hb
        cases h; rw [hb] at hv
        obtain ⟨s', e1, e2⟩ := hv.str_inv
        refine gives_v (s := Go.convert src dst' (a.eval x)) rfl ⟨.string s', fun w0 => ?_, .str _ _ e2⟩
        rw [e1]
        simp [Go.convert, run_underlying hs, run_underlying hd]
      · cases h
    · split at hrs
      · simp only [bind_some, pure_some] at hrs; obtain ⟨x', hx, rfl⟩ := hrs; cases h
      · cases hrs
    · cases hrs
  | field t x i =>
    simp only [rsOp] at hrs
    split at hrs
    · rename_i fs hu
      simp only [bind_some, pure_some] at hrs
      obtain ⟨f, hf, g, hg, n, hn, x', hx, rfl⟩ := hrs
      have hv := he x x' hx
      simp only [pureOp] at h
      split at h
      · rename_i cs hb
        rw [hb] at hv
        obtain ⟨vs, e1, e2⟩ := hv.agg_inv
        obtain ⟨v, hv1, hv2⟩ := subV_sound (P := P) (t := f.type) hg hn e2 h
        refine gives_v (s := Instr.field t (a.eval x) i) rfl ⟨v, fun w0 => ?_, hv2⟩
        rw [e1]
        simp [Instr.field, run_underlying hu, hf, asAgg, hv1]
      · cases h
    · cases hrs
  | fieldAddr t x i =>
    simp only [rsOp] at hrs
    split at hrs
    · rename_i fs hu
      simp only [bind_some] at hrs
      obtain ⟨f, hf, n, hn, hrs⟩ := hrs
      split at hrs
      · cases hrs
      · rename_i hn0
        simp only [bind_some, pure_some] at hrs
        obtain ⟨g, hg, x', hx, rfl⟩ := hrs
        have hv := he x x' hx
        have hsz : ∀ w0, (sizeOf f.type).run P w0 = .ok n w0 := run_szOf hn
        simp only [pureOp] at h
        have hrun : ∀ (p : Addr) (w0 : World), (Instr.fieldAt t (.pointer (some p)) i).run P w0 = .ok (.pointer (some (p.add f.offset))) w0 := fun p w0 => by
          simp [Instr.fieldAt, run_underlying hu, hf, Instr.sureAddr, fieldPlace, hsz, hn0]
        split at h
        · rename_i b o hb
          cases h; rw [hb] at hv
          obtain ⟨p, e⟩ := hv.ptr_inv
          rw [e] at hv
          exact gives_v (s := Instr.fieldAt t (a.eval x) i) rfl ⟨_, fun w0 => by rw [e]; exact hrun p w0, ptr_add _ hv⟩
        · rename_i cs hb
          split at h
          · rename_i v hv'
            cases hgo : (g || v.one) with
            | false => rw [hgo] at h; cases h
            | true =>
              rw [hgo] at h; cases h
              rw [hb] at hv
              obtain ⟨cb, o, e⟩ := hv.fptr_inv
              rw [e] at hv
              refine gives_v (s := Instr.fieldAt t (a.eval x) i) rfl ⟨_, fun w0 => by rw [e]; exact hrun _ w0, ?_⟩
              rw [addr_add]
              exact fptr_sub hv hv' (fun q => by rw [q] at hgo; simpa using hgo)
          · cases h
        · cases h
    · cases hrs
  | indexAddr t x i =>
    simp only [rsOp] at hrs
    split at hrs
    · rename_i e hu
      simp only [bind_some] at hrs
      obtain ⟨n, hn, hrs⟩ := hrs
      split at hrs
      · cases hrs
      · rename_i hn0
        simp only [bind_some, pure_some] at hrs
        obtain ⟨x', hx, i', hi, rfl⟩ := hrs
        have hv := he x x' hx
        have hi := he i i' hi
        have hsz : ∀ w0, (sizeOf e).run P w0 = .ok n w0 := run_szOf hn
        simp only [pureOp] at h
        split at h
        · rename_i b off len s k j hb hj
          split at h
          · rename_i hc
            obtain ⟨c1, c2, c3⟩ := hc
            subst c3
            cases h
            rw [hb] at hv; rw [hj] at hi
            generalize hxv : a.eval x = xv at hv
            cases hv with
            | sref p cap _ _ _ _ q1 q0 q2 =>
              refine ⟨.pointer (some (p.add (j.toNat * s))), fun w0 => ?_, ?_⟩
              · simp only [execOp, Sem.run_bind]
                rw [hxv, hi.int_inv]
                simp only [Instr.indexAt, asIntOf, Sem.run_bind, Sem.run_pure, Result.andThen_ok, run_underlying hu]
                simp [c1, c2, hsz]
              · exact .ptr _ _ _ q1 fun hl => by obtain ⟨r1, _⟩ := q2 hl; rw [r1 (by omega), addr_add]
          · cases h
        · rename_i es k j hb hj
          split at h
          · rename_i c1
            split at h
            · rename_i d hd
              cases hl : Nat.beq d.cells.length n with
              | false => rw [hl, cond_false] at h; cases h
              | true =>
                rw [hl, cond_true] at h; cases h
                have hl := Nat.eq_of_beq_eq_true hl
                rw [hb] at hv; rw [hj] at hi
                generalize hxv : a.eval x = xv at hv
                cases hv with
                | fsl cb off cap sz _ xx hle hc hr =>
                  have hlt : j.toNat < es.length := (List.getElem?_eq_some_iff.1 hd).1
                  obtain ⟨s1, s2⟩ := hc _ d hd
                  have s1 : sz = n := by omega
                  subst s1
                  refine ⟨.pointer (some ⟨cb, off + j.toNat * sz, none⟩), fun w0 => ?_, ?_⟩
                  · simp only [execOp, Sem.run_bind]
                    rw [hxv, hi.int_inv]
                    simp only [Instr.indexAt, asIntOf, Sem.run_bind, Sem.run_pure, Result.andThen_ok, run_underlying hu]
                    rw [if_pos ⟨c1, by omega⟩]
                    simp [hsz, addr_add]
                  · exact .fptr _ _ _ (xx j.toNat) (fun i c hi => s2 i c hi) (fun i c hi => hr _ d i c hd hi)
            · cases h
          · cases h
        · cases h
    · rename_i len e hu
      simp only [bind_some] at hrs
      obtain ⟨n, hn, hrs⟩ := hrs
      split at hrs
      · cases hrs
      · rename_i hn0
        simp only [bind_some, pure_some] at hrs
        obtain ⟨g, hg, x', hx, i', hi, rfl⟩ := hrs
        have hv := he x x' hx
        have hi := he i i' hi
        have hsz : ∀ w0, (sizeOf e).run P w0 = .ok n w0 := run_szOf hn
        have hrun : ∀ (p : Addr) (k : IntKind) (j : Int) (w0 : World), 0 ≤ j → j < len → (Instr.indexAt t (.pointer (some p)) (.int k j)).run P w0 = .ok (.pointer (some (p.add (j.toNat * n)))) w0 := fun p k j w0 h1 h2 => by
          simp [Instr.indexAt, asIntOf, run_underlying hu, Instr.sureAddr, h1, h2, hsz]
        simp only [pureOp] at h
        split at h
        · rename_i b off k j hb hj
          split at h
          · rename_i hc
            cases h
            rw [hb] at hv; rw [hj] at hi
            obtain ⟨p, ep⟩ := hv.ptr_inv
            rw [ep] at hv
            exact gives_v (s := Instr.indexAt t (a.eval x) (a.eval i)) rfl ⟨_, fun w0 => by rw [ep, hi.int_inv]; exact hrun p k j w0 hc.1 hc.2, ptr_add _ hv⟩
          · cases h
        · rename_i cs k j hb hj
          split at h
          · rename_i hc
            split at h
            · rename_i v hv'
              cases hgo : (g || v.one) with
              | false => rw [hgo] at h; cases h
              | true =>
                rw [hgo] at h; cases h
                rw [hb] at hv; rw [hj] at hi
                obtain ⟨cb, o, ep⟩ := hv.fptr_inv
                rw [ep] at hv
                refine gives_v (s := Instr.indexAt t (a.eval x) (a.eval i)) rfl ⟨_, fun w0 => by rw [ep, hi.int_inv]; exact hrun _ k j w0 hc.1 hc.2, ?_⟩
                rw [addr_add]
                exact fptr_sub hv hv' (fun q => by rw [q] at hgo; simpa using hgo)
            · cases h
          · cases h
        · cases h
    · cases hrs
  | index t x i =>
    simp only [rsOp] at hrs
    split at hrs
    · rename_i hu
      simp only [bind_some, pure_some] at hrs
      obtain ⟨x', hx, i', hi, rfl⟩ := hrs
      have hv := he x x' hx
      have hi := he i i' hi
      simp only [pureOp] at h
      split at h
      · rename_i s k j hb hj
        split at h
        · rename_i hc
          split at h
          · rename_i b hsb
            cases h
            rw [hb] at hv; rw [hj] at hi
            obtain ⟨s', e1, e2⟩ := hv.str_inv
            refine gives_v (s := Instr.index t (a.eval x) (a.eval i)) rfl ⟨.int .u8 b.toNat, fun w0 => ?_, .int _ _⟩
            rw [e1, hi.int_inv]
            simp only [Instr.index, asIntOf, Sem.run_bind, Sem.run_pure, Result.andThen_ok, run_underlying hu]
            have : (if 0 ≤ j then s'[j.toNat]? else none) = some b := by
              rw [if_pos hc]
              subst e2
              rw [← hsb]
              simp only [Array.getElem?_toList]
              rfl
            rw [this]; rfl
          · cases h
        · cases h
      · cases h
    · rename_i len e hu
      simp only [bind_some, pure_some] at hrs
      obtain ⟨g, hg, n, hn, x', hx, i', hi, rfl⟩ := hrs
      have hv := he x x' hx
      have hi := he i i' hi
      simp only [pureOp] at h
      split at h
      · rename_i cs k j hb hj
        split at h
        · rename_i hc
          rw [hb] at hv; rw [hj] at hi
          obtain ⟨vs, e1, e2⟩ := hv.agg_inv
          obtain ⟨v, hv1, hv2⟩ := subV_sound (P := P) (t := e) hg hn e2 h
          refine gives_v (s := Instr.index t (a.eval x) (a.eval i)) rfl ⟨v, fun w0 => ?_, hv2⟩
          rw [e1, hi.int_inv]
          simp only [Instr.index, asIntOf, Sem.run_bind, Sem.run_pure, Result.andThen_ok, run_underlying hu]
          rw [if_pos hc]
          simp only [Sem.run_bind, run_szOf hn, Result.andThen_ok, hv1]
        · cases h
      · cases h
    · cases hrs
  | slice t x lo hi mx =>
    cases mx with
    | some m => cases hrs
    | none =>
      simp only [rsOp] at hrs
      split at hrs
      · rename_i hu
        simp only [bind_some, pure_some] at hrs
        obtain ⟨x', hx, lo', hlo, hi', hhi, rfl⟩ := hrs
        have hv := he x x' hx
        simp only [pureOp] at h
        split at h
        · rename_i s hb
          split at h
          · rename_i l h' hcut
            cases h
            rw [hb] at hv
            obtain ⟨s', e1, e2⟩ := hv.str_inv
            have hlen : s.length = s'.size := by subst e2; rfl
            have hb := fun w0 => cutB_sound (P := P) (isS := false) he hlo hhi hcut (Nat.le_refl _) w0
            rw [hlen] at hb
            refine gives_v (s := Instr.sliceAt t (a.eval x) (lo.map a.eval) (hi.map a.eval) none) rfl ⟨.string (s'.extract l h'), fun w0 => ?_, .str _ _ ?_⟩
            · rw [e1]
              simp only [Instr.sliceAt, Instr.slice, Sem.run_bind, run_underlying hu, Result.andThen_ok]
              simp [(hb w0).1]
            · subst e2
              simp only [ByteArray.data_extract, Array.toList_extract]
              rw [List.extract_eq_take_drop, List.drop_take]
          · cases h
        · cases h
      · rename_i e hu
        simp only [bind_some] at hrs
        obtain ⟨n, hn, hrs⟩ := hrs
        split at hrs
        · cases hrs
        · rename_i hn0
          simp only [bind_some, pure_some] at hrs
          obtain ⟨x', hx, lo', hlo, hi', hhi, rfl⟩ := hrs
          have hv := he x x' hx
          have hrun : ∀ (b : Option Addr) (len cap l h' : Nat) (w0 : World), cutB ev len lo' hi' = some (l, h') → len ≤ cap →
              (Instr.sliceAt t (.slice b len cap) (lo.map a.eval) (hi.map a.eval) none).run P w0 = .ok (.slice (if cap = l then b else b.map (·.add (l * n))) (h' - l) (cap - l)) w0 ∧ l ≤ h' ∧ h' ≤ len := fun b len cap l h' w0 hcut hc => by
            obtain ⟨b1, b2, b3⟩ := cutB_sound (P := P) (isS := true) he hlo hhi hcut hc w0
            refine ⟨?_, b2, b3⟩
            simp only [Instr.sliceAt, Instr.slice, Sem.run_bind, run_underlying hu, Result.andThen_ok, b1, run_szOf hn, Sem.run_pure]
          simp only [pureOp] at h
          split at h
          · rename_i b off len s hb
            split at h
            · rename_i hs
              split at h
              · rename_i l h' hcut
                cases h
                rw [hb] at hv
                generalize hxv : a.eval x = xv at hv
                cases hv with
                | sref p cap _ _ _ _ q1 q0 q2 =>
                  refine gives_v (s := Instr.sliceAt t (a.eval x) (lo.map a.eval) (hi.map a.eval) none) rfl ⟨.slice (some (if cap = l then p else p.add (l * n))) (h' - l) (cap - l), fun w0 => ?_, ?_⟩
                  · rw [hxv, (hrun (some p) len cap l h' w0 hcut q0).1]
                    split <;> rfl
                  · obtain ⟨_, b2, b3⟩ := hrun (some p) len cap l h' w hcut q0
                    subst hs
                    refine .sref _ _ _ _ _ _ q1 (by omega) fun hl => ?_
                    obtain ⟨r1, cs, e', fr, r2, r3⟩ := q2 hl
                    refine ⟨fun hp => ?_, cs, e', fr, r2, ?_⟩
                    · rw [if_neg (by omega), r1 (by omega), addr_add]
                    · rw [← r3, Nat.sub_mul, Nat.add_assoc]
                      congr 1
                      have : l * s ≤ cap * s := Nat.mul_le_mul_right _ (by omega)
                      omega
              · cases h
            · cases h
          · rename_i es hb
            split at h
            · rename_i l h' hcut
              split at h
              · rename_i hall
                cases h
                rw [hb] at hv
                generalize hxv : a.eval x = xv at hv
                cases hv with
                | fsl cb off cap sz _ xx hle hc hr =>
                  obtain ⟨_, b2, b3⟩ := hrun (some ⟨cb, off, none⟩) es.length cap l h' w hcut hle
                  have hlen : ((es.take h').drop l).length = h' - l := by simp; omega
                  have hget : ∀ (i : Nat) d, ((es.take h').drop l)[i]? = some d → es[l + i]? = some d := fun i d hd => by
                    rw [List.getElem?_drop, List.getElem?_take] at hd
                    split at hd
                    · exact hd
                    · cases hd
                  refine gives_v (s := Instr.sliceAt t (a.eval x) (lo.map a.eval) (hi.map a.eval) none) rfl ⟨.slice (some (if cap = l then ⟨cb, off, none⟩ else ⟨cb, off + l * n, none⟩)) (h' - l) (cap - l), fun w0 => ?_, ?_⟩
                  · rw [hxv, (hrun (some ⟨cb, off, none⟩) es.length cap l h' w0 hcut hle).1]
                    split
                    · rfl
                    · simp [addr_add]
                  · by_cases hcl : cap = l
                    · rw [if_pos hcl, ← hlen]
                      have h0 : (es.take h').drop l = [] := List.eq_nil_of_length_eq_zero (by rw [hlen]; omega)
                      rw [h0]
                      exact .fsl _ _ _ 0 _ (fun _ _ => undef) (Nat.zero_le _) (fun i d hd => by simp at hd) (fun i d j c hd => by simp at hd)
                    · rw [if_neg hcl, ← hlen]
                      refine .fsl _ _ _ sz _ (fun i j => xx (l + i) j) (by rw [hlen]; omega) (fun i d hd => ?_) (fun i d j c hd hj => hr _ d j c (hget i d hd) hj)
                      obtain ⟨s1, s2⟩ := hc _ d (hget i d hd)
                      refine ⟨s1, fun j c hj => ?_⟩
                      have hsn : sz = n := by
                        have := List.all_eq_true.1 hall d (List.mem_of_getElem? (hget i d hd))
                        have := Nat.eq_of_beq_eq_true this
                        omega
                      subst hsn
                      have := s2 j c hj
                      rwa [Nat.add_mul, ← Nat.add_assoc] at this
              · cases h
            · cases h
          · rename_i hb
            split at h
            · rename_i p hcut
              obtain ⟨l, h'⟩ := p
              cases h
              rw [hb] at hv
              generalize hxv : a.eval x = xv at hv
              cases hv
              obtain ⟨_, b2, b3⟩ := hrun none 0 0 l h' w hcut (Nat.le_refl _)
              have l0 : l = 0 := by omega
              have h0 : h' = 0 := by omega
              subst l0; subst h0
              exact gives_v (s := Instr.sliceAt t (a.eval x) (lo.map a.eval) (hi.map a.eval) none) rfl ⟨.slice none 0 0, fun w0 => by rw [hxv, (hrun none 0 0 0 0 w0 hcut (Nat.le_refl _)).1]; rfl, .nils⟩
            · cases h
          · cases h
      · cases hrs
  | extract x i =>
    simp only [rsOp, bind_some, pure_some] at hrs
    obtain ⟨x', hx, rfl⟩ := hrs
    have hv := he x x' hx
    simp only [pureOp] at h
    split at h
    · rename_i vs hb
      rw [hb] at hv
      obtain ⟨cs, e1, e2⟩ := hv.tuple_inv
      obtain ⟨c, hc, r⟩ := e2.get h
      exact gives_v (s := Instr.extract (a.eval x) i) rfl ⟨c, fun w0 => by rw [e1]; simp [Instr.extract, hc], r⟩
    · cases h
  | makeFunc f first cap =>
    cases f with
    | func f =>
      simp only [rsOp] at hrs
      split at hrs
      · rename_i hemp
        simp only [bind_some, pure_some] at hrs
        obtain ⟨ys, hys, rfl⟩ := hrs
        cases h
        have hargs := he.args hys
        have hf : first = #[] := by simpa using hemp
        subst hf
        exact gives_v (s := Instr.makeFunc (.func f) #[] (cap.map a.eval)) (by simp [execOp]) ⟨_, fun w0 => rfl, .func _ _ _ hargs.1 hargs.2⟩
      · cases hrs
    | _ => cases hrs
  | call c =>
    obtain ⟨callee, args, tys⟩ := c
    cases callee with
    | invoke => cases hrs
    | value f =>
      cases f with
      | func f =>
        simp only [rsOp] at hrs
        split at hrs
        · split at hrs
          · cases hrs
          · simp only [bind_some, pure_some] at hrs; obtain ⟨_, _, rfl⟩ := hrs; simp [pureOp] at h
        · cases hrs
      | _ => simp only [rsOp, bind_some, pure_some] at hrs; obtain ⟨_, _, _, _, rfl⟩ := hrs; simp [pureOp] at h
    | builtin b =>
      have hexec : ∀ (s : Sem Value), (∀ cs vs, vs = args.map a.eval → Go.builtin b tys type cs vs = (do pure (.value (← s)))) → (∃ v, (∀ w0, s.run P w0 = .ok v w0) ∧ VR ρ F w M v r) →
          Gives P ρ F w M a ⟨dst, .call ⟨.builtin b, args, tys⟩, type, pos, after, guard⟩ r := by
        rintro s hs ⟨v, h1, h2⟩
        refine ⟨v, fun w0 => ?_, h2⟩
        simp only [execOp, resolve, Sem.run_bind, Sem.run_pure, Result.andThen_ok, invoke]
        rw [hs _ _ rfl, Sem.run_bind, h1]; rfl
      have one : ∀ x, args.toList = [x] → args = #[x] := fun x hx => by apply Array.ext'; simpa using hx
      have bind_ty : ∀ d, (tys[0]?).bind P.underlying = some d → ∃ t, tys[0]? = some t ∧ P.underlying t = some d := fun d hd => by simpa [Option.bind_eq_some_iff] using hd
      cases b with
      | len =>
        simp only [rsOp] at hrs
        split at hrs
        · rename_i hty
          obtain ⟨t, ht, hd⟩ := bind_ty _ hty
          split at hrs
          · rename_i x hargs
            simp only [bind_some, pure_some] at hrs
            obtain ⟨x', hx, rfl⟩ := hrs
            have := one x hargs; subst this
            have hv := he x x' hx
            refine hexec (Builtin.len_ tys type #[a.eval x]) (fun cs vs hvs => by subst hvs; simp [Go.builtin]) ?_
            simp only [pureOp] at h
            split at h
            · rename_i s _ hb
              cases h; rw [hb] at hv
              obtain ⟨s', e1, e2⟩ := hv.str_inv
              subst e2
              exact ⟨.int .i64 s'.size, fun w0 => by simp [Builtin.len_, ht, run_underlying hd, e1, goInt], .int _ _⟩
            all_goals first | (rename_i hq _; cases hq; done) | cases h | skip
            all_goals (rename_i hq; simp at hq)
          · cases hrs
        · rename_i e hty
          obtain ⟨t, ht, hd⟩ := bind_ty _ hty
          split at hrs
          · rename_i x hargs
            simp only [bind_some, pure_some] at hrs
            obtain ⟨x', hx, rfl⟩ := hrs
            have := one x hargs; subst this
            have hv := he x x' hx
            refine hexec (Builtin.len_ tys type #[a.eval x]) (fun cs vs hvs => by subst hvs; simp [Go.builtin]) ?_
            have hrun : ∀ (b : Option Addr) n cap, a.eval x = .slice b n cap → ∀ w0, (Builtin.len_ tys type #[a.eval x]).run P w0 = .ok (.int .i64 n) w0 := fun b n cap e w0 => by
              simp [Builtin.len_, ht, run_underlying hd, e, goInt]
            simp only [pureOp] at h
            generalize hxv : a.eval x = xv at hv
            split at h
            · rename_i hq _; cases hq
            · rename_i _ hb
              cases h; rw [hb] at hv; cases hv
              exact ⟨_, fun w0 => by rw [← hxv]; exact hrun _ _ _ hxv w0, .int _ _⟩
            · rename_i _ hb
              cases h; rw [hb] at hv; cases hv
              exact ⟨_, fun w0 => by rw [← hxv]; exact hrun _ _ _ hxv w0, .int _ _⟩
            · rename_i _ hb
              cases h; rw [hb] at hv; cases hv
              exact ⟨_, fun w0 => by rw [← hxv]; exact hrun _ _ _ hxv w0, .int _ _⟩
            · cases h
          · cases hrs
        · split at hrs
          · simp only [bind_some, pure_some] at hrs; obtain ⟨x', hx, rfl⟩ := hrs; cases h
          · cases hrs
        · cases hrs
      | max =>
        simp only [rsOp, bind_some, pure_some] at hrs
        obtain ⟨ys, hys, rfl⟩ := hrs
        have hargs := he.args hys
        simp only [pureOp] at h
        split at h
        · cases h
        · rename_i y yr hev
          refine hexec (Builtin.max_ tys type (args.map a.eval)) (fun cs vs hvs => by subst hvs; simp [Go.builtin]) ?_
          rw [hev] at hargs
          obtain ⟨l, hl⟩ : ∃ l, (args.map a.eval) = List.toArray l := ⟨(args.map a.eval).toList, (Array.toArray_toList).symm⟩
          rw [hl] at hargs ⊢
          cases l with
          | nil => have := hargs.1; simp at this
          | cons x xs =>
            obtain ⟨v, h1, h2⟩ := mxs_sound (mn := false) (ρ := ρ) (F := F) (w := w) (M := M) (P := P) xs yr x y r (by have := hargs.1; simpa using this) (fun i c d hc hd => hargs.2 (i + 1) c d (by simpa using hc) (by simpa using hd)) (hargs.2 0 x y (by simp) rfl) h
            exact ⟨v, fun w0 => by simpa [Builtin.max_] using h1 w0, h2⟩
      | min =>
        simp only [rsOp, bind_some, pure_some] at hrs
        obtain ⟨ys, hys, rfl⟩ := hrs
        have hargs := he.args hys
        simp only [pureOp] at h
        split at h
        · cases h
        · rename_i y yr hev
          refine hexec (Builtin.min_ tys type (args.map a.eval)) (fun cs vs hvs => by subst hvs; simp [Go.builtin]) ?_
          rw [hev] at hargs
          obtain ⟨l, hl⟩ : ∃ l, (args.map a.eval) = List.toArray l := ⟨(args.map a.eval).toList, (Array.toArray_toList).symm⟩
          rw [hl] at hargs ⊢
          cases l with
          | nil => have := hargs.1; simp at this
          | cons x xs =>
            obtain ⟨v, h1, h2⟩ := mxs_sound (mn := true) (ρ := ρ) (F := F) (w := w) (M := M) (P := P) xs yr x y r (by have := hargs.1; simpa using this) (fun i c d hc hd => hargs.2 (i + 1) c d (by simpa using hc) (by simpa using hd)) (hargs.2 0 x y (by simp) rfl) h
            exact ⟨v, fun w0 => by simpa [Builtin.min_] using h1 w0, h2⟩
      | append =>
        simp only [rsOp] at hrs
        split at hrs
        · cases hrs
        · simp only [bind_some] at hrs
          obtain ⟨n, _, b, _, z, _, hrs⟩ := hrs
          split at hrs
          · cases hrs
          · split at hrs
            · simp only [bind_some, pure_some] at hrs
              obtain ⟨_, _, _, _, rfl⟩ := hrs
              simp [pureOp] at h
            · cases hrs
        · cases hrs
      | _ => cases hrs
  | makeMap t rr =>
    cases rr with
    | none => simp only [rsOp, Option.some.injEq] at hrs; subst hrs; simp [pureOp] at h
    | some _ => cases hrs
  | lookup t x k ok =>
    simp only [rsOp] at hrs
    split at hrs
    · simp only [bind_some, pure_some] at hrs; obtain ⟨_, _, _, _, _, _, _, _, rfl⟩ := hrs; cases h
    · cases hrs
  | mapUpdate t x k v =>
    simp only [rsOp] at hrs
    split at hrs
    · simp only [bind_some, pure_some] at hrs; obtain ⟨_, _, _, _, _, _, _, _, rfl⟩ := hrs; cases h
    · cases hrs
  | makeSlice t l c =>
    simp only [rsOp] at hrs
    split at hrs
    · simp only [bind_some] at hrs
      obtain ⟨n, _, b, _, z, _, hrs⟩ := hrs
      split at hrs
      · cases hrs
      · simp only [bind_some, pure_some] at hrs
        obtain ⟨_, _, _, _, rfl⟩ := hrs
        simp [pureOp] at h
    · cases hrs
  | _ => cases hrs

end Go.Ax
