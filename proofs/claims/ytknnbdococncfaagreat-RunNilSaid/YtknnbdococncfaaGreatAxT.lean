/- Part T: whatever order the operations of a region come in, they come to what the plan comes to. -/
import Derived.Test.YtknnbdococncfaaGreatAxS
namespace Go.Ax
open Go
noncomputable section
set_option linter.unusedSimpArgs false
set_option linter.unusedVariables false

/-- What a plan that has been run says. -/
structure Facts (cx : Cx) (rec : Task → Option Res) (dis : List DI) (E : T V) (M : Mem) (E' : T V) (M' : Mem) where
  mem : Nat → Mem
  dn : Nat → Nat
  anU : Nat → Nat
  nx : Nat → Option Nat
  to : Nat → Nat
  rank : Nat → Nat
  ok : Nat → Prop
  val : Nat → V
  env : Nat → T V
  x0 : Nat
  ok0 : ok x0
  dn0 : dn x0 = 0
  mem0 : mem x0 = M
  anu : ∀ x, ok x → ∀ k, (anU x).testBit k = true → ∃ (m : Nat) (e : DI), (dn x).testBit m = true ∧ dis[m]? = some e ∧ e.anc.testBit k = true
  next : ∀ x i, ok x → nx x = some i → ok (to x) ∧ dn (to x) = Nat.lor (bit i) (dn x) ∧ rank (to x) < rank x ∧
    ∃ d : DI, dis[i]? = some d ∧ d.kd.isMv = true ∧ (dn x).testBit i = false ∧ exec1 rec cx.glob d.io (env i) (mem x) = some (val i, mem (to x))
  mov : ∀ (x i : Nat) (d : DI), ok x → dis[i]? = some d → possible dis i d (dn x) (anU x) (nx x) = true → d.kd = .mov → nx x = some i
  stay : ∀ (x i : Nat) (d : DI), ok x → dis[i]? = some d → possible dis i d (dn x) (anU x) (nx x) = true → d.kd.isMv = false → exec1 rec cx.glob d.io (env i) (mem x) = some (val i, mem x)
  fu : ∀ (x i : Nat) (d : DI), ok x → dis[i]? = some d → possible dis i d (dn x) (anU x) (nx x) = true → ∀ t ∈ d.ts, ∀ (j : Nat) (e : DI), dis[j]? = some e → e.kd = .flt → e.io.dst = some t → (dn x).testBit j = true
  fltv : ∀ (j : Nat) (e : DI), dis[j]? = some e → e.kd = .flt → e.io.guard = none ∧ (∃ t, e.io.dst = some t) ∧ ∃ cells f, fltOf cx.glob e.io.op (env j) = some (cells, f)
  envs : ∀ (i : Nat) (d : DI), dis[i]? = some d → ∀ t v, (env i).get t = some v → E.get t ≠ none ∧ (v = .any ∨ (t ∈ d.ts ∧ ∃ (j : Nat) (e : DI), dis[j]? = some e ∧ e.io.dst = some t ∧ d.anc.testBit j = true ∧ v = val j) ∨
    ((∀ (j : Nat) (e : DI), dis[j]? = some e → e.io.dst = some t → e.anc.testBit i = true) ∧ E.get t = some v))
  dists : ∀ (i j : Nat) (d e : DI) (t : Nat), dis[i]? = some d → dis[j]? = some e → d.io.dst = some t → e.io.dst = some t → i = j
  more : ∀ D : Nat → Prop, (∃ i, i < dis.length ∧ ¬ D i) → ∃ (i : Nat) (d : DI), dis[i]? = some d ∧ ¬ D i ∧ ∀ j, d.anc.testBit j = true → D j
  fin : ∀ x, ok x → nx x = none → mem x = M' ∧ ∀ (j : Nat) (e : DI), dis[j]? = some e → e.kd.isMv = true → (dn x).testBit j = true
  last : ∀ t v, E'.get t = some v → E.get t ≠ none ∧ ((∃ (j : Nat) (e : DI), dis[j]? = some e ∧ e.io.dst = some t ∧ v = val j) ∨ ((∀ (j : Nat) (e : DI), dis[j]? = some e → e.io.dst ≠ some t) ∧ E.get t = some v))

/-- How the operations' data stand to the operations. -/
structure DisR (P : Program) (ops : Array Oper) (dis : List DI) : Prop where
  len : dis.length = ops.size
  op : ∀ (i : Nat) (d : DI), dis[i]? = some d → ∃ o, ops[i]? = some o ∧ rsOper P ops o = some d.io ∧ d.kd = kdOf d.io.op ∧ (∀ e ∈ o.after, Region.binds .any e = true → d.anc.testBit e.on = true) ∧
    ∀ j, d.anc.testBit j = true → ∃ e ∈ o.after, Region.binds .any e = true ∧ (e.on = j ∨ (e.on < i ∧ ∃ d' : DI, dis[e.on]? = some d' ∧ d'.anc.testBit j = true))

def PendOK (w0 : World) (ρ : Nat → Nat) (F : Nat → Nat → Prop) (w : World) (M : Mem) (tmps : Array Value) (G : T V) (e : DI) (env : T V) (cb : Nat) : Prop :=
  w0.heap.size ≤ cb ∧ cb < w.heap.size ∧ (∀ b, M.get b ≠ none → ρ b ≠ cb) ∧ (∀ off, ¬ F cb off) ∧ ∃ cs ty cells f, fltOf G e.io.op env = some (cells, f) ∧ w.heap[cb]? = some (.cells cs ty (0, 0)) ∧
    VRs ρ F w M cs cells ∧ cells.all V.one = true ∧ ∀ t c, e.io.dst = some t → tmps[t]? = some c → Lnk cb cs c f

variable {P : Program} {R : RsT} {B0 : Nat} {ρ ρ' ρ'' ρ0 : Nat → Nat} {F F' F'' F0 : Nat → Nat → Prop} {w w' w'' w0 : World} {M M' M'' M0 : Mem} {a a' a0 : Act} {cx : Cx} {E E' : T V} {ds ds' : List Nat} {rec : Task → Option Res}

theorem PendOK.step {G : T V} {e : DI} {env : T V} {cb : Nat} {tmps tmps' : Array Value} (h : PendOK w0 ρ F w M tmps G e env cb) (st : Stp R B0 ρ F w M ρ' F' w' M') (m : MR R B0 ρ F w M) (ht : ∀ t, e.io.dst = some t → tmps'[t]? = tmps[t]?) :
    PendOK w0 ρ' F' w' M' tmps' G e env cb := by
  obtain ⟨h1, h2, h3, h4, cs, ty, cells, f, h5, h6, h7, h8, h9⟩ := h
  refine ⟨h1, Nat.lt_of_lt_of_le h2 st.le.heap, fun b hb e' => ?_, fun off hf => ?_, cs, ty, cells, f, h5, ?_, h7.le st.le m, h8, fun t c hd hc => h9 t c hd (by rw [← ht t hd]; exact hc)⟩
  · obtain ⟨c, hc, e2⟩ := st.le.img b hb (by rw [e']; exact h2)
    exact h3 c hc (e2.trans e')
  · rcases st.le.frn _ _ hf with h | h
    · exact h4 off h
    · omega
  · rw [st.le.keep cb h2 h3]; exact h6

section
variable {ops : Array Oper} {dis : List DI} (Y : Facts cx rec dis E M E' M')

structure InvW (P : Program) (B0 : Nat) (ops : Array Oper) (ρ0 : Nat → Nat) (F0 : Nat → Nat → Prop) (w0 : World) (a0 : Act) (listed : Array Bool) (a : Act) (w : World) (x : Nat) (ρ : Nat → Nat) (F : Nat → Nat → Prop) (cb : Nat → Nat) : Prop where
  ok : Y.ok x
  size : listed.size = ops.size
  closed : ∀ (i : Nat) (o : Oper), listed.getD i false = true → ops[i]? = some o → ∀ e ∈ o.after, Region.binds .any e = true → listed.getD e.on false = true
  mv : ∀ (i : Nat) (d : DI), dis[i]? = some d → d.kd = .mov → listed.getD i false = true → (Y.dn x).testBit i = true
  dnl : ∀ i, (Y.dn x).testBit i = true → listed.getD i false = true
  st : Stp (Rr P) B0 ρ0 F0 w0 M ρ F w (Y.mem x)
  dfr : a.defers = a0.defers
  tsz : a.tmps.size = a0.tmps.size
  old : ∀ t, (∀ (j : Nat) (e : DI), dis[j]? = some e → e.io.dst = some t → listed.getD j false = false) → a.tmps[t]? = a0.tmps[t]?
  vals : ∀ (j : Nat) (e : DI) (t : Nat) (c : Value), dis[j]? = some e → e.io.dst = some t → listed.getD j false = true → (e.kd = .flt → (Y.dn x).testBit j = true) → a.tmps[t]? = some c → VR ρ F w (Y.mem x) c (Y.val j)
  pend : ∀ (j : Nat) (e : DI), dis[j]? = some e → e.kd = .flt → listed.getD j false = true → (Y.dn x).testBit j = false → PendOK w0 ρ F w (Y.mem x) a.tmps cx.glob e (Y.env j) (cb j)
  pinj : ∀ (j k : Nat) (d e : DI), dis[j]? = some d → d.kd = .flt → listed.getD j false = true → (Y.dn x).testBit j = false → dis[k]? = some e → e.kd = .flt → listed.getD k false = true → (Y.dn x).testBit k = false → cb j = cb k → j = k

theorem isMv_cases {k : Kd} (h : k.isMv = true) : k = .mov ∨ k = .flt := by cases k <;> simp_all [Kd.isMv]
theorem testBit_bit {i j : Nat} : (bit i).testBit j = true ↔ i = j := by
  unfold bit
  show (2 ^ i).testBit j = true ↔ _
  rw [Nat.testBit_two_pow]; simp
theorem testBit_lor' {a b j : Nat} : (Nat.lor a b).testBit j = true ↔ a.testBit j = true ∨ b.testBit j = true := by
  show (a ||| b).testBit j = true ↔ _
  rw [Nat.testBit_or, Bool.or_eq_true]

/-- What is pending and may be known now becomes known. -/
theorem adopt_all (X : DisR P ops dis) (here : B0 ≤ w0.heap.size) : ∀ (k : Nat) {listed : Array Bool} {a : Act} {w : World} {x : Nat} {ρ : Nat → Nat} {F : Nat → Nat → Prop} {cb : Nat → Nat}, Y.rank x ≤ k → InvW Y P B0 ops ρ0 F0 w0 a0 listed a w x ρ F cb →
    ∃ x ρ F, InvW Y P B0 ops ρ0 F0 w0 a0 listed a w x ρ F cb ∧ ∀ i, Y.nx x = some i → listed.getD i false = false := by
  intro k
  induction k with
  | zero =>
    intro listed a w x ρ F cb hk I
    refine ⟨x, ρ, F, I, fun i hi => ?_⟩
    have := (Y.next x i I.ok hi).2.2.1
    omega
  | succ k ih =>
    intro listed a w x ρ F cb hk I
    by_cases hex : ∃ i, Y.nx x = some i ∧ listed.getD i false = true
    · obtain ⟨i, hi, hl⟩ := hex
      obtain ⟨ok', dn', rk, d, hd, hmv, hb, hex⟩ := Y.next x i I.ok hi
      have hflt : d.kd = .flt := by
        rcases isMv_cases hmv with h | h
        · rw [I.mv i d hd h hl] at hb; cases hb
        · exact h
      obtain ⟨hg, ⟨t, ht⟩, _⟩ := Y.fltv i d hd hflt
      obtain ⟨p1, p2, p3, p4, cs, ty, cells, f, p5, p6, p7, p8, p9⟩ := I.pend i d hd hflt hl hb
      obtain ⟨o, _, _, hkd, _, _⟩ := X.op i d hd
      unfold exec1 at hex
      rw [hg] at hex
      simp only [guardV] at hex
      obtain ⟨cells', f', q1, q2, q3⟩ := flt_spec (by rw [← hkd]; exact hflt) rec cx.glob (Y.env i) (Y.mem x) hex
      rw [p5] at q1; cases q1
      have hor : OR (Rr P) ρ F w (Y.mem x) (cb i) (.arr true cells) := ⟨cs, ty, p6, by have := p7.1; omega, fun _ => p7.1.symm, p7.ones p8⟩
      obtain ⟨ρ', lw, st', hn, hne⟩ := I.st.adopt here p1 p2 p3 p4 (.arr true cells) hor
      rw [← q3] at lw st'
      have hbit : ∀ j, (Y.dn (Y.to x)).testBit j = true ↔ i = j ∨ (Y.dn x).testBit j = true := fun j => by rw [dn', testBit_lor', testBit_bit]
      refine ih (x := Y.to x) (ρ := ρ') (F := F) (by omega) ⟨ok', I.size, I.closed, fun j e he hm hlj => (hbit j).2 (.inr (I.mv j e he hm hlj)), fun j hj => ?_, st', I.dfr, I.tsz, I.old, fun j e t' c he ht' hlj hdn hc => ?_, fun j e he hf hlj hnb => ?_, fun j k d' e hd' hf' hlj hnb he hf hlk hnk => ?_⟩
      · rcases (hbit j).1 hj with rfl | h
        · exact hl
        · exact I.dnl j h
      · by_cases hij : i = j
        · subst hij
          rw [hd] at he; cases he
          rw [q2]
          exact p9 t' c ht' hc ρ' F w (Y.mem (Y.to x)) _ ty p6 hn (by rw [q3]; simp)
        · exact (I.vals j e t' c he ht' hlj (fun hf => by
            rcases (hbit j).1 (hdn hf) with h | h
            · exact absurd h hij
            · exact h) hc).monoW lw (fun _ _ _ => rfl)
      · have hij : i ≠ j := fun h => by rw [(hbit j).2 (.inl h)] at hnb; cases hnb
        have hnb' : (Y.dn x).testBit j = false := by
          cases h : (Y.dn x).testBit j with
          | false => rfl
          | true => rw [(hbit j).2 (.inr h)] at hnb; cases hnb
        obtain ⟨r1, r2, r3, r4, cs', ty', cells', f', r5, r6, r7, r8, r9⟩ := I.pend j e he hf hlj hnb'
        refine ⟨r1, r2, fun b hb' e' => ?_, r4, cs', ty', cells', f', r5, r6, ⟨r7.1, fun i c d hc hd => (r7.2 i c d hc hd).monoW lw (fun _ _ _ => rfl)⟩, r8, r9⟩
        by_cases hbn : b = (Y.mem x).next
        · subst hbn
          rw [hn] at e'
          exact hij (I.pinj i j d e hd hflt hl hb he hf hlj hnb' e')
        · rw [hne b hbn] at e'
          refine r3 b ?_ e'
          rw [q3, Mem.get_alloc, if_neg hbn] at hb'
          exact hb'
      · have up : ∀ j, (Y.dn (Y.to x)).testBit j = false → (Y.dn x).testBit j = false := fun j hj => by
          cases h : (Y.dn x).testBit j with
          | false => rfl
          | true => rw [(hbit j).2 (.inr h)] at hj; cases hj
        exact I.pinj j k d' e hd' hf' hlj (up j hnb) he hf hlk (up k hnk)
    · exact ⟨x, ρ, F, I, fun i hi => by
        cases h : listed.getD i false with
        | false => rfl
        | true => exact absurd ⟨i, hi, h⟩ hex⟩
end
end
end Go.Ax
