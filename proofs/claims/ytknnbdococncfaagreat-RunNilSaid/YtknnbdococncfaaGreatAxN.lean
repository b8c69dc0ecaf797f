/- Part N: the executor is sound: set-up, operations, regions. -/
import Derived.Test.YtknnbdococncfaaGreatAxM
namespace Go.Ax
open Go
noncomputable section
set_option linter.unusedSimpArgs false
set_option linter.unusedVariables false

def Rr (P : Program) : RsT := fun c ic => rsCode P c = ic
def ResR (P : Program) : List ResultVar → List IRes → Prop
  | [], [] => True
  | .tmp t :: rs, .tmp t' :: qs => t = t' ∧ ResR P rs qs
  | .cell a ty :: rs, .cell g n t :: qs => a = t ∧ aggOf P ty = some g ∧ szOf P ty = some n ∧ ResR P rs qs
  | _, _ => False
structure TR (P : Program) (cx : Cx) : Prop where
  mixed : P.follows .mixedOrders = true
  fn : ∀ f ifn, cx.fns f = some ifn → ∃ fn c, P.funcs[f]? = some fn ∧ fn.body = some c ∧ (fn.name == "runtime.NumGoroutine") = false ∧ rsCode P c = ifn.body ∧ fn.ntmps = ifn.ntmps ∧ ResR P fn.results.toList ifn.results
def GRel (cx : Cx) (ρ : Nat → Nat) (F : Nat → Nat → Prop) (w : World) (M : Mem) : Prop := ∀ n v, cx.glob.get n = some v → VR ρ F w M (.pointer (some ⟨n, 0, none⟩)) v

/-- The marks among a frame's deferred calls. -/
inductive DR (ρ : Nat → Nat) (M : Mem) : List Deferred → List Nat → Prop
  | nil : DR ρ M [] []
  | cons (cb n : Nat) (dl ns) : n < M.next → (M.get n ≠ none → cb = ρ n) → DR ρ M dl ns → DR ρ M ({ target := .collected cb, args := #[] } :: dl) (n :: ns)

variable {P : Program} {B0 : Nat} {ρ ρ' ρ'' : Nat → Nat} {F F' F'' : Nat → Nat → Prop} {w w' w'' : World} {M M' M'' : Mem} {a : Act} {cx : Cx} {E E' : T V} {ds ds' : List Nat}

theorem getP_putP (x : V) : ∀ (q p : Pth) (t : T V), T.getP p (putP q x t) = if p = q then (match T.getP p t with | some _ => some x | none => none) else T.getP p t
  | .e, .e, t => by cases t with
    | leaf => rfl
    | node v l r => cases v <;> rfl
  | .e, .o p, t => by cases t with
    | leaf => rfl
    | node v l r => cases v <;> rfl
  | .e, .i p, t => by cases t with
    | leaf => rfl
    | node v l r => cases v <;> rfl
  | .o q, .e, t => by cases t <;> rfl
  | .o q, .i p, t => by cases t <;> rfl
  | .i q, .e, t => by cases t <;> rfl
  | .i q, .o p, t => by cases t <;> rfl
  | .o q, .o p, t => by
    cases t with
    | leaf =>
      show T.getP p T.leaf = _
      have : T.getP (.o p) (T.leaf : T V) = none := T.getP_leaf _
      rw [this, T.getP_leaf]; split <;> rfl
    | node v l r =>
      show T.getP p (putP q x l) = if Pth.o p = Pth.o q then (match T.getP p l with | some _ => some x | none => none) else T.getP p l
      rw [getP_putP x q p l]
      by_cases h : p = q
      · subst h; rw [if_pos rfl, if_pos rfl]
      · rw [if_neg h, if_neg (fun e => h (by injection e))]
  | .i q, .i p, t => by
    cases t with
    | leaf =>
      show T.getP p T.leaf = _
      have : T.getP (.i p) (T.leaf : T V) = none := T.getP_leaf _
      rw [this, T.getP_leaf]; split <;> rfl
    | node v l r =>
      show T.getP p (putP q x r) = if Pth.i p = Pth.i q then (match T.getP p r with | some _ => some x | none => none) else T.getP p r
      rw [getP_putP x q p r]
      by_cases h : p = q
      · subst h; rw [if_pos rfl, if_pos rfl]
      · rw [if_neg h, if_neg (fun e => h (by injection e))]

theorem ER.put {cs : Array Value} (h : ER ρ F w M cs E) {v : Value} {r : V} (d : Nat) (hv : VR ρ F w M v r) : ER ρ F w M (cs.setIfInBounds d v) (putP (path d) r E) := by
  intro n e he
  unfold T.get at he
  rw [getP_putP] at he
  split at he
  · rename_i hn
    have := path_inj hn; subst this
    split at he
    · rename_i u hu
      cases he
      obtain ⟨c, hc, _⟩ := h n u hu
      exact ⟨v, by rw [Array.getElem?_setIfInBounds_self_of_lt (Array.getElem?_eq_some_iff.1 hc).1], hv⟩
    · cases he
  · rename_i hn
    obtain ⟨c, hc, r⟩ := h n e he
    exact ⟨c, by rw [Array.getElem?_setIfInBounds_ne (fun e => hn (by rw [e]))]; exact hc, r⟩
theorem ER.getD {cs : Array Value} (h : ER ρ F w M cs E) (n : Nat) : VR ρ F w M (cs.getD n undef) ((E.get n).getD .any) := by
  cases hn : E.get n with
  | none => exact .any _
  | some d =>
    obtain ⟨c, hc, r⟩ := h n d hn
    have : cs.getD n undef = c := by rw [Array.getD_eq_getD_getElem?, hc]; rfl
    rw [this]; exact r

theorem GRel.le (h : GRel cx ρ F w M) (l : Le ρ F w M ρ' F' w' M') (m : MR (Rr P) B0 ρ F w M) : GRel cx ρ' F' w' M' := fun n v hn => (h n v hn).le l m
theorem DR.le {dl : List Deferred} {ns : List Nat} (h : DR ρ M dl ns) (l : Le ρ F w M ρ' F' w' M') : DR ρ' M' dl ns := by
  induction h with
  | nil => exact .nil
  | cons cb n dl ns h1 h2 _ ih =>
    refine .cons cb n dl ns (Nat.lt_of_lt_of_le h1 l.next) ?_ ih
    intro hl
    obtain ⟨a1, a2⟩ := l.live n h1 hl
    rw [a2]; exact h2 a1

theorem evalA_sound (he : ER ρ F w M a.tmps E) (hg : GRel cx ρ F w M) : EvR ρ F w M a (evalA cx.glob E) := by
  intro x xi h
  cases x with
  | tmp t => simp only [rsArg, Option.some.injEq] at h; subst h; exact he.getD t
  | const v =>
    simp only [rsArg, Option.map_eq_some_iff] at h
    obtain ⟨d, hd, rfl⟩ := h
    exact constV_sound hd
  | global g =>
    simp only [rsArg, Option.some.injEq] at h; subst h
    show VR ρ F w M _ ((cx.glob.get g).getD .any)
    cases hgg : cx.glob.get g with
    | none => exact .any _
    | some v => exact hg g v hgg
  | func f => simp only [rsArg, Option.some.injEq] at h; subst h; exact .func f #[] [] rfl fun i c d hc => by simp at hc

/-- The fence of a frame: none, but for the loop that it is a round of. -/
def W (ro : Option Nat) : Fence := { Fence.wide with round := ro }
theorem W_fn (ro f) : (W ro).fn f := trivial
theorem W_room (ro n) : (W ro).room n := room_wide n
theorem W_depth (ro) : (W ro).depth.isSome = false := rfl
theorem calls_W {ro : Option Nat} {n : Nat} {f : FuncId} {args : Array Value} {w : World} {Q : Ending → World → Prop} (h : Calls P f args w Q) : CallsIn (W ro) n P f args w Q := by
  have := (callsIn_wide (n := n)).2 h
  exact this
theorem calls_of_W {n : Nat} {f : FuncId} {args : Array Value} {w : World} {Q : Ending → World → Prop} (h : CallsIn (W none) n P f args w Q) : Calls P f args w Q := (callsIn_wide (n := n)).1 h

/-- What a call comes to. -/
def CallP (P : Program) (B0 : Nat) (ρ : Nat → Nat) (F : Nat → Nat → Prop) (w : World) (M : Mem) (v : V) (M' : Mem) : Ending → World → Prop := fun e w' =>
  ∃ u ρ' F', e = .returned u ∧ Stp (Rr P) B0 ρ F w M ρ' F' w' M' ∧ VR ρ' F' w' M' u v
def X.exit' : X → Exit
  | .nrm => .normal | .exit id => .exit id | .ret => .ret
/-- What code comes to. -/
def CodeP (P : Program) (B0 : Nat) (ρ : Nat → Nat) (F : Nat → Nat → Prop) (w : World) (M : Mem) (x : X) (E' : T V) (ds' : List Nat) (M' : Mem) : Exit → Act → World → Prop := fun e a' w' =>
  e = x.exit' ∧ ∃ ρ' F', Stp (Rr P) B0 ρ F w M ρ' F' w' M' ∧ ER ρ' F' w' M' a'.tmps E' ∧ DR ρ' M' a'.defers ds'

/-- A run's claims are kept. -/
structure Keeps (P : Program) (cx : Cx) (rec : Task → Option Res) : Prop where
  call : ∀ f args M v M', rec (.call f args M) = some (.call v M') → ∀ B0 ρ F w cargs, MR (Rr P) B0 ρ F w M → GRel cx ρ F w M → VRs ρ F w M cargs args → Calls P f cargs w (CallP P B0 ρ F w M v M')
  code : ∀ rd c E ds M x E' ds' M', rec (.code rd c E ds M) = some (.code x E' ds' M') → ∀ code, rsCode P code = c → ∀ ro : Option Nat, ro.isSome = rd → ∀ B0 ρ F w a, MR (Rr P) B0 ρ F w M → GRel cx ρ F w M →
    ER ρ F w M a.tmps E → DR ρ M a.defers ds → code.wpIn (W ro) 0 P (CodeP P B0 ρ F w M x E' ds' M') a w
  known : ∀ f args M v M', rec (.call f args M) = some (.call v M') → ∃ fn, P.funcs[f]? = some fn ∧ fn.body.isSome = true ∧ (fn.name == "runtime.NumGoroutine") = false

theorem VR.und : VR ρ F w M undef (.tuple []) := .tuple _ _ rfl fun i c d hc _ => by simp at hc
theorem putE_sound {dst : Option Nat} {v : Value} {r : V} (h : ER ρ F w M a.tmps E) (hv : VR ρ F w M v r) : ER ρ F w M (a.put dst v).tmps (putE dst r E) := by
  cases dst with
  | none => exact h
  | some d => exact h.put d hv
theorem put_defers (dst : Option Nat) (v : Value) : (a.put dst v).defers = a.defers := by cases dst <;> rfl

theorem rsOper_op {ops : Array Oper} {o : Oper} {io : IOper} (h : rsOper P ops o = some io) : (io.op = .bad ∨ (rsOp P o.op = some io.op ∧ isCallI io.op = isCallO o.op)) ∧ io.dst = o.dst ∧ io.guard = (match o.guard with | none => none | some (j, want) => some ((ops[j]?).bind (·.dst), want)) := by
  unfold rsOper at h
  have key : ∀ op : IOp, op = (match rsOp P o.op with | some op => if isCallI op != isCallO o.op then .bad else op | none => .bad) → op = .bad ∨ (rsOp P o.op = some op ∧ isCallI op = isCallO o.op) := by
    intro op hop
    cases hr : rsOp P o.op with
    | none => rw [hr] at hop; exact .inl hop
    | some op' =>
      rw [hr] at hop
      simp only at hop
      split at hop
      · exact .inl hop
      · rename_i hc
        subst hop
        exact .inr ⟨rfl, by simpa using hc⟩
  cases hg : o.guard with
  | none => rw [hg] at h; cases h; exact ⟨key _ rfl, rfl, rfl⟩
  | some p => rw [hg] at h; cases h; exact ⟨key _ rfl, rfl, rfl⟩
theorem guardV_sound {ops : Array Oper} {o : Oper} {io : IOper} {b : Bool} (h : rsOper P ops o = some io) (he : ER ρ F w M a.tmps E) (hg : guardV io.guard E = some b) : Region.wanted o (yielded ops a.tmps) = b := by
  obtain ⟨_, _, h3⟩ := rsOper_op h
  rw [h3] at hg
  unfold Region.wanted
  cases hgo : o.guard with
  | none => rw [hgo] at hg; simpa [guardV] using hg
  | some p =>
    obtain ⟨j, want⟩ := p
    rw [hgo] at hg
    simp only at hg ⊢
    unfold yielded
    cases hd : (ops[j]?).bind (·.dst) with
    | none => rw [hd] at hg; simp [guardV] at hg; subst hg; cases want <;> rfl
    | some t =>
      rw [hd] at hg
      simp only [guardV] at hg
      split at hg
      · rename_i b' hb'
        obtain ⟨c, hc, r⟩ := he _ _ hb'
        have := r.bool_inv; subst this
        simp only [Option.bind_some, hc]
        cases hg
        cases b' <;> cases want <;> rfl
      · rename_i b' hb'
        obtain ⟨c, hc, r⟩ := he _ _ hb'
        cases hg
        cases r
        simp only [Option.bind_some, hc]
        cases want <;> rfl
      · cases hg

theorem semAt_rs {ro : Option Nat} {ρe : Operand → Value} {o : Oper} {io : IOp} (h : rsOp P o.op = some io) : o.semAt ro ρe = execOp ρe o :=
  Oper.semAt_eq ro ρe o fun c hc => by rw [hc] at h; cases h

theorem enter_run {f : Nat} {args : Array Value} {fn : Func} (h1 : P.funcs[f]? = some fn) (h2 : fn.body.isSome = true) (h3 : (fn.name == "runtime.NumGoroutine") = false) (w : World) : (callFunc f args).run P w = .ok (.enter f args) w := by
  unfold callFunc
  have : fn.body.isNone = false := by cases hb : fn.body <;> simp_all
  simp only [Sem.run_bind, run_program, Result.andThen_ok, h1]
  rw [if_neg (by rw [h3]; simp), if_neg (by rw [this]; simp)]; rfl

theorem doOp_plain {rec : Task → Option Res} {G : T V} {op : IOp} (h : isCallI op = false) : doOp rec G op E M = (match pureOp (evalA G E) op with | some r => some (r, M) | none => memOp (evalA G E) M op) := by
  have := fOp_eq h G E M
  cases op <;> first | exact this | (simp [isCallI] at h)

theorem setPs_sound : ∀ (ps : List Nat) (vs : List Value) (ds : List V) (cs : Array Value) (E : T V), vs.length = ds.length → (∀ (i : Nat) c d, vs[i]? = some c → ds[i]? = some d → VR ρ F w M c d) → ER ρ F w M cs E →
    ER ρ F w M ((ps.zip vs).foldl (fun tmps p => tmps.setIfInBounds p.1 p.2) cs) (setPs E ps ds)
  | [], _, _, _, _, _, _, h => by simpa [setPs] using h
  | p :: ps, [], [], _, _, _, _, h => by simpa [setPs] using h
  | p :: ps, v :: vs, d :: ds, cs, E, hl, hr, h => by
    simp only [List.zip_cons_cons, List.foldl_cons, setPs]
    exact setPs_sound ps vs ds _ _ (by simpa using hl) (fun i c d hc hd => hr (i + 1) c d (by simpa using hc) (by simpa using hd)) (h.put p (hr 0 v d rfl rfl))
  | _ :: _, [], _ :: _, _, _, hl, _, _ => by simp at hl
  | _ :: _, _ :: _, [], _, _, hl, _, _ => by simp at hl

theorem wpIn_n {ro : Option Nat} {n n' : Nat} {c : Code} {Q : Exit → Act → World → Prop} {a : Act} {w : World} (h : c.wpIn (W ro) n P Q a w) : c.wpIn (W ro) n' P Q a w :=
  fun b k cs hro hb hr => h b k cs hro hb (W_room ro _)
/-- A loop's record is written anew. -/
theorem put_loop {R : RsT} (m : MR R B0 ρ F w M) {l : Nat} {r : LRec} (hM : M.get l = some (.loop r)) (st : LoopState) (pd : Option Code) :
    ∃ lp : Loop, w.heap[ρ l]? = some (.loop lp) ∧ lp.state = r.state ∧ lp.pending = r.pending ∧ Stp R B0 ρ F w M ρ F (w.putObj (ρ l) (.loop { lp with state := st, pending := pd })) (M.set l (.loop { r with state := st, pending := pd })) := by
  obtain ⟨lp, h1, h2, h3, h5, h6, h7, h8, h9, h10⟩ := m.obj l _ hM
  refine ⟨lp, h1, h2, h3, Stp.put m (by rw [hM]; simp) _ _ (fun cs e fr hc => by rw [h1] at hc; cases hc) (fun le cell hs => ⟨_, hs, rfl, rfl, h5, h6, h7, h8, h9, h10.mono le cell⟩)⟩
theorem put_state {R : RsT} (m : MR R B0 ρ F w M) {l : Nat} {r : LRec} (hM : M.get l = some (.loop r)) (st : LoopState) :
    ∃ lp : Loop, w.heap[ρ l]? = some (.loop lp) ∧ lp.state = r.state ∧ lp.pending = r.pending ∧ Stp R B0 ρ F w M ρ F (w.putObj (ρ l) (.loop { lp with state := st })) (M.set l (.loop { r with state := st })) := by
  obtain ⟨lp, h1, h2, h3, h5, h6, h7, h8, h9, h10⟩ := m.obj l _ hM
  refine ⟨lp, h1, h2, h3, Stp.put m (by rw [hM]; simp) _ _ (fun cs e fr hc => by rw [h1] at hc; cases hc) (fun le cell hs => ⟨_, hs, rfl, h3, h5, h6, h7, h8, h9, h10.mono le cell⟩)⟩
theorem DR.nil_inv {dl : List Deferred} (h : DR ρ M dl []) : dl = [] := by cases h; rfl
/-- A yield: a round of the loop. -/
theorem yield_sound {rec : Task → Option Res} (K : Keeps P cx rec) (m : MR (Rr P) B0 ρ F w M) (g : GRel cx ρ F w M) {l : Nat} {lv : Nat} {args : List V} {vs : Array Value} {r : V} {ro : Option Nat} {n : Nat}
    (hl : VR ρ F w M (.func (.yield lv) #[] #[]) (.yld l)) (hv : VRs ρ F w M vs args) (h : doYield rec l args M = some (r, M')) :
    ∃ lf tmps assign body, (Instr.yield lv vs).run P w = .ok (.round lv lf tmps assign body) w ∧
      RoundIn (W ro) n P lv lf tmps assign body w (fun e w' => ∃ u ρ' F', e = .returned u ∧ Stp (Rr P) B0 ρ F w M ρ' F' w' M' ∧ VR ρ' F' w' M' u r) := by
  unfold doYield at h
  split at h
  · rename_i lr hM
    cases hl with
    | yld _ _ q1 q2 =>
      have := q2 (by rw [hM]; simp); subst this
      obtain ⟨lp, h1, h2, h3, h5, h6, h7, h8, h9, h10⟩ := m.obj l _ hM
      cases hb : Nat.beq args.length lr.params.length with
      | false => rw [hb, cond_false] at h; cases h
      | true =>
        rw [hb, cond_true] at h
        have hlen := Nat.eq_of_beq_eq_true hb
        have hsz : vs.size = lp.params.size := by rw [hv.1, hlen, ← h5]; simp
        have hy := run_yield (P := P) h1 hsz
        refine ⟨_, _, _, _, hy, ?_⟩
        split at h
        · rename_i E1 M1 hr1
          unfold yieldBody at h
          split at h
          · rename_i r1 hM1
            split at h
            · rename_i hst
              split at h
              · rename_i x E2 M2 hr2
                unfold yieldEnd at h
                split at h
                · rename_i r2 hM2
                  cases h
                  have hE0 : ER ρ F w M ((lp.params.zip vs).foldl (fun tmps p => tmps.setIfInBounds p.1 p.2) lp.tmps) (setPs lr.env lr.params args) := by
                    rw [← Array.foldl_toList, Array.toList_zip, h5]
                    exact setPs_sound lr.params vs.toList args lp.tmps lr.env (by simpa using hv.1) (fun i c d hc hd => hv.2 i c d (by simpa using hc) hd) h10
                  have c1 := K.code true lr.a _ [] M _ _ _ _ hr1 lp.assign (by rw [h6]; exact h8) (some (ρ l)) rfl B0 ρ F w ⟨_, []⟩ m g hE0 .nil
                  refine roundIn_of_wpIn (W_fn ro _) ?_
                  refine wpIn_mono (wpIn_n c1) ?_
                  rintro e a1 w1 ⟨rfl, ρ1, F1, st1, hE1, hD1⟩
                  show ∃ w₂, _
                  have hl0 : l < M.next := m.bound l (by rw [hM]; simp)
                  have e1 : ρ1 l = ρ l := (st1.le.live l hl0 (by rw [hM1]; simp)).2
                  obtain ⟨lp1, k1, k2, k3, st2⟩ := put_state st1.mr hM1 .busy
                  rw [e1] at k1 st2
                  refine ⟨_, run_beginRound k1 (by rw [k2]; exact hst), ?_⟩
                  have hd : a1.defers = [] := hD1.nil_inv
                  have st12 := st1.trans st2
                  have c2 := K.code true lr.b E1 [] _ _ _ _ _ hr2 lp.body (by rw [h7]; exact h9) (some (ρ l)) rfl B0 ρ1 F1 _ a1 st2.mr ((g.le st1.le m).le st2.le st1.mr) (hE1.le st2.le st1.mr) (by rw [hd]; exact .nil)
                  refine wpIn_mono (wpIn_n c2) ?_
                  rintro e a2 w2 ⟨rfl, ρ2, F2, st3, _, _⟩
                  have st13 := st12.trans st3
                  have e2 : ρ2 l = ρ l := (st13.le.live l hl0 (by rw [hM2]; simp)).2
                  obtain ⟨lp2, j1, j2, j3, st4⟩ := put_loop st3.mr hM2 (if x.jump.isNone then .ready else .done) x.jump
                  rw [e2] at j1 st4
                  have fin : ∃ v w', (Instr.endRound (ρ l) x.jump).run P w2 = .ok v w' ∧ (fun (e : Ending) w' => ∃ u ρ' F', e = Ending.returned u ∧ Stp (Rr P) B0 ρ F w M ρ' F' w' (M2.set l (.loop { r2 with state := if x.jump.isNone then .ready else .done, pending := x.jump })) ∧ VR ρ' F' w' (M2.set l (.loop { r2 with state := if x.jump.isNone then .ready else .done, pending := x.jump })) u (.bool x.jump.isNone)) (Ending.returned v) w' :=
                    ⟨_, _, run_endRound x.jump j1, _, ρ2, F2, rfl, st13.trans st4, .bool _⟩
                  cases x with
                  | nrm => exact fin
                  | ret => exact fin
                  | exit id => exact fin
                · cases h
              · cases h
            · cases h
          · cases h
        · cases h
  · cases h

end
end Go.Ax
