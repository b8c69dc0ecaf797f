/- Part V: whatever order the operations of a region come in, they come to what the plan comes to (3). -/
import Derived.Test.YtknnbdococncfaaGreatAxU
namespace Go.Ax
open Go
noncomputable section
set_option linter.unusedSimpArgs false
set_option linter.unusedVariables false

variable {P : Program} {R : RsT} {B0 : Nat} {ρ ρ' ρ'' ρ0 ρ1 : Nat → Nat} {F F' F'' F0 F1 : Nat → Nat → Prop} {w w' w'' w0 w1 : World} {M M' M'' M0 : Mem} {a a' a0 : Act} {cx : Cx} {E E' : T V} {ds ds' : List Nat} {rec : Task → Option Res}
variable {ops : Array Oper} {dis : List DI} {Y : Facts cx rec dis E M E' M'} {listed : Array Bool} {x x1 : Nat} {cb : Nat → Nat} {i : Nat} {d : DI} {o : Oper}

theorem sub_of {a b : Nat} (h : ∀ j, a.testBit j = true → b.testBit j = true) : sub a b = true := by
  unfold sub
  have : Nat.land a b = a := by
    show a &&& b = a
    apply Nat.eq_of_testBit_eq
    intro j
    rw [Nat.testBit_and]
    cases ha : a.testBit j with
    | false => rfl
    | true => rw [h j ha]; rfl
  rw [this, Nat.beq_refl]
theorem sub_spec {a b : Nat} (h : sub a b = true) {j : Nat} (hj : a.testBit j = true) : b.testBit j = true := by
  have h : Nat.land a b = a := Nat.eq_of_beq_eq_true h
  have h : a &&& b = a := h
  rw [← h, Nat.testBit_and] at hj
  simp only [Bool.and_eq_true] at hj
  exact hj.2
theorem movM_spec : ∀ (l : List DI) (k j : Nat), (movM l k).testBit j = true → ∃ d : DI, k ≤ j ∧ l[j - k]? = some d ∧ d.kd.isMov = true
  | [], k, j, h => by simp [movM] at h
  | d :: l, k, j, h => by
    simp only [movM] at h
    have rest : (movM l (k + 1)).testBit j = true → ∃ d' : DI, k ≤ j ∧ (d :: l)[j - k]? = some d' ∧ d'.kd.isMov = true := fun h => by
      obtain ⟨d', h1, h2, h3⟩ := movM_spec l (k + 1) j h
      refine ⟨d', by omega, ?_, h3⟩
      rw [show j - k = (j - (k + 1)) + 1 by omega, List.getElem?_cons_succ]; exact h2
    cases hm : d.kd.isMov with
    | false => rw [hm, cond_false] at h; exact rest h
    | true =>
      rw [hm, cond_true, testBit_lor', testBit_bit] at h
      rcases h with rfl | h
      · exact ⟨d, Nat.le_refl _, by rw [Nat.sub_self]; rfl, hm⟩
      · exact rest h
theorem isMov_eq {k : Kd} (h : k.isMov = true) : k = .mov := by cases k <;> simp_all [Kd.isMov]

/-- What may come up by the plan, seen from what has come up. -/
theorem possible_of (X : DisR P ops dis) (I : InvW Y P B0 ops ρ0 F0 w0 a0 listed a w x ρ F cb) (hmax : ∀ i, Y.nx x = some i → listed.getD i false = false) (hi : dis[i]? = some d) (ho : ops[i]? = some o)
    (hni : listed.getD i false = false) (hp : ∀ e ∈ o.after, Region.binds .any e = true → listed.getD e.on false = true) : possible dis i d (Y.dn x) (Y.anU x) (Y.nx x) = true := by
  have anc := anc_in X I.closed i i d o (Nat.le_refl _) hi ho hp
  unfold possible
  simp only [Bool.and_eq_true, Bool.not_eq_true']
  refine ⟨sub_of fun j hj => ?_, ?_, ?_, ?_⟩
  · have hj : (d.anc &&& movM dis 0).testBit j = true := hj
    rw [Nat.testBit_and, Bool.and_eq_true] at hj
    obtain ⟨d', _, h2, h3⟩ := movM_spec dis 0 j hj.2
    exact I.mv j d' (by simpa using h2) (isMov_eq h3) (anc j hj.1)
  · cases h : (Y.dn x).testBit i with
    | false => rfl
    | true => rw [I.dnl i h] at hni; cases hni
  · cases h : (Y.anU x).testBit i with
    | false => rfl
    | true =>
      obtain ⟨m, e, h1, h2, h3⟩ := Y.anu x I.ok i h
      obtain ⟨om, hom, _⟩ := X.op m e h2
      have := anc_in X I.closed m m e om (Nat.le_refl _) h2 hom (fun e' he' hb => I.closed m om (I.dnl m h1) hom e' he' hb) i h3
      rw [this] at hni; cases hni
  · cases hx : Y.nx x with
    | none => rfl
    | some g =>
      simp only
      cases h : d.anc.testBit g with
      | false => rfl
      | true => have := anc g h; rw [hmax g hx] at this; cases this

theorem env_er (X : DisR P ops dis) (I : InvW Y P B0 ops ρ0 F0 w0 a0 listed a w x ρ F cb) (m0 : MR (Rr P) B0 ρ0 F0 w0 M) (e0 : ER ρ0 F0 w0 M a0.tmps E) (hi : dis[i]? = some d) (ho : ops[i]? = some o)
    (hni : listed.getD i false = false) (hp : ∀ e ∈ o.after, Region.binds .any e = true → listed.getD e.on false = true) (hpos : possible dis i d (Y.dn x) (Y.anU x) (Y.nx x) = true) : ER ρ F w (Y.mem x) a.tmps (Y.env i) := by
  intro t v hv
  have anc := anc_in X I.closed i i d o (Nat.le_refl _) hi ho hp
  obtain ⟨hE, h⟩ := Y.envs i d hi t v hv
  obtain ⟨u, hu⟩ := Option.ne_none_iff_exists'.1 hE
  obtain ⟨c0, hc0, hr0⟩ := e0 t u hu
  have hlt : t < a.tmps.size := by rw [I.tsz]; exact (Array.getElem?_eq_some_iff.1 hc0).1
  rcases h with rfl | ⟨hts, j, e, he, hd, ha, rfl⟩ | ⟨hw, hEt⟩
  · exact ⟨a.tmps[t], Array.getElem?_eq_getElem hlt, .any _⟩
  · refine ⟨a.tmps[t], Array.getElem?_eq_getElem hlt, I.vals j e t _ he hd (anc j ha) (fun hf => Y.fu x i d I.ok hi hpos t hts j e he hf hd) (Array.getElem?_eq_getElem hlt)⟩
  · refine ⟨c0, ?_, ?_⟩
    · rw [I.old t fun j e he hd => ?_]; exact hc0
      cases hlj : listed.getD j false with
      | false => rfl
      | true =>
        obtain ⟨oj, hoj, _⟩ := X.op j e he
        have := anc_in X I.closed j j e oj (Nat.le_refl _) he hoj (fun e' he' hb => I.closed j oj hlj hoj e' he' hb) i (hw j e he hd)
        rw [this] at hni; cases hni
    · rw [hEt] at hu; cases hu
      exact hr0.le I.st.le m0

theorem count_set {l : List Bool} {i : Nat} (h : l[i]? = some false) : (l.set i true).count false + 1 = l.count false := by
  induction l generalizing i with
  | nil => cases h
  | cons b l ih =>
    cases i with
    | zero => simp at h; subst h; simp
    | succ i =>
      simp at h
      have := ih h
      simp only [List.set_cons_succ, List.count_cons]
      omega

theorem any_sound (K : Keeps P cx rec) (X : DisR P ops dis) (Y : Facts cx rec dis E M E' M') (m0 : MR (Rr P) B0 ρ0 F0 w0 M) (g0 : GRel cx ρ0 F0 w0 M) (e0 : ER ρ0 F0 w0 M a0.tmps E) {Q : Exit → Act → World → Prop} {ro : Option Nat} {n : Nat}
    (hQ : ∀ a' ρ' F' w', Stp (Rr P) B0 ρ0 F0 w0 M ρ' F' w' M' → ER ρ' F' w' M' a'.tmps E' → a'.defers = a0.defers → Q .normal a' w') :
    ∀ (fuel : Nat) (listed : Array Bool) (a : Act) (w : World), listed.toList.count false = fuel → (∃ x ρ F cb, InvW Y P B0 ops ρ0 F0 w0 a0 listed a w x ρ F cb) → wpAnyIn (W ro) n P .any ops Q fuel listed a w := by
  have here := m0.here
  intro fuel
  induction fuel with
  | zero =>
    intro listed a w hc hI
    obtain ⟨x, ρ, F, cb, I0⟩ := hI
    obtain ⟨x, ρ, F, I, hmax⟩ := adopt_all Y X here _ (Nat.le_refl _) I0
    have all : ∀ j, j < ops.size → listed.getD j false = true := fun j hj => by
      have hj' : j < listed.size := by rw [I.size]; exact hj
      cases hb : listed[j] with
      | true => simp [Array.getD_eq_getD_getElem?, Array.getElem?_eq_getElem hj', hb]
      | false =>
        have : false ∈ listed.toList := by rw [← hb]; exact Array.getElem_mem_toList hj'
        have := List.count_pos_iff.2 this
        omega
    refine ⟨?_, ?_⟩
    · cases hr : Region.ready .any ops listed with
      | nil => rfl
      | cons j l =>
        have hj : j ∈ Region.ready .any ops listed := by rw [hr]; simp
        obtain ⟨h1, oj, h2, _⟩ := mem_ready.1 hj
        have h3 := all j (Array.getElem?_eq_some_iff.1 h2).1
        rw [Array.getD_eq_getD_getElem?] at h1 h3
        cases hg : listed[j]? with
        | none => rw [hg] at h3; cases h3
        | some b => rw [hg] at h1 h3; simp at h1 h3; rw [h1] at h3; cases h3
    · have hnx : Y.nx x = none := by
        cases h : Y.nx x with
        | none => rfl
        | some i =>
          obtain ⟨_, _, _, d, hd, _⟩ := Y.next x i I.ok h
          have h1 := all i (by rw [← X.len]; exact (List.getElem?_eq_some_iff.1 hd).1)
          rw [hmax i h] at h1; cases h1
      obtain ⟨hm, hfin⟩ := Y.fin x I.ok hnx
      have st := I.st
      rw [hm] at st
      refine hQ a ρ F w st (fun t v hv => ?_) I.dfr
      obtain ⟨hE, h⟩ := Y.last t v hv
      obtain ⟨u, hu⟩ := Option.ne_none_iff_exists'.1 hE
      obtain ⟨c0, hc0, hr0⟩ := e0 t u hu
      have hlt : t < a.tmps.size := by rw [I.tsz]; exact (Array.getElem?_eq_some_iff.1 hc0).1
      rcases h with ⟨j, e, he, hd, rfl⟩ | ⟨hno, hEt⟩
      · refine ⟨a.tmps[t], Array.getElem?_eq_getElem hlt, ?_⟩
        have := I.vals j e t _ he hd (all j (by rw [← X.len]; exact (List.getElem?_eq_some_iff.1 he).1)) (fun hf => hfin j e he (by rw [hf]; rfl)) (Array.getElem?_eq_getElem hlt)
        rw [hm] at this; exact this
      · rw [hEt] at hu; cases hu
        refine ⟨c0, ?_, hr0.le st.le m0⟩
        rw [I.old t fun j e he hd => absurd hd (hno j e he)]; exact hc0
  | succ fuel ih =>
    intro listed a w hc hI
    obtain ⟨x, ρ, F, cb, I0⟩ := hI
    obtain ⟨x, ρ, F, I, hmax⟩ := adopt_all Y X here _ (Nat.le_refl _) I0
    refine ⟨fun hr => ?_, fun i hi => ?_⟩
    · -- something is ready
      exfalso
      have : ∃ i, i < dis.length ∧ ¬ listed.getD i false = true := by
        have : false ∈ listed.toList := List.count_pos_iff.1 (by omega)
        obtain ⟨i, hi, he⟩ := List.mem_iff_getElem.1 this
        have hi' : i < listed.size := by simpa using hi
        refine ⟨i, by rw [X.len, ← I.size]; exact hi', ?_⟩
        have he' : listed[i] = false := by simpa using he
        simp [Array.getD_eq_getD_getElem?, Array.getElem?_eq_getElem hi', he']
      obtain ⟨i, d, hd, hn, hanc⟩ := Y.more (fun i => listed.getD i false = true) this
      obtain ⟨o, ho, _, _, hp, _⟩ := X.op i d hd
      have : i ∈ Region.ready .any ops listed := mem_ready.2 ⟨by
        have hi' : i < listed.size := by rw [I.size, ← X.len]; exact (List.getElem?_eq_some_iff.1 hd).1
        rw [Array.getD_eq_getD_getElem?, Array.getElem?_eq_getElem hi'] at hn ⊢
        simpa using hn, o, ho, fun e he hb => hanc _ (hp e he hb)⟩
      rw [hr] at this; cases this
    · obtain ⟨hil, o, ho, hp⟩ := mem_ready.1 hi
      have hlt : i < listed.size := by rw [I.size]; exact (Array.getElem?_eq_some_iff.1 ho).1
      have hni : listed.getD i false = false := by
        rw [Array.getD_eq_getD_getElem?, Array.getElem?_eq_getElem hlt] at hil ⊢; exact hil
      have hcnt : (listed.setIfInBounds i true).toList.count false = fuel := by
        rw [Array.toList_setIfInBounds]
        have : listed.toList[i]? = some false := by
          rw [Array.getElem?_toList, Array.getElem?_eq_getElem hlt]
          rw [Array.getD_eq_getD_getElem?, Array.getElem?_eq_getElem hlt] at hil
          simpa using hil
        have := count_set this
        omega
      obtain ⟨d, hd⟩ : ∃ d, dis[i]? = some d := ⟨dis[i]'(by rw [X.len]; exact (Array.getElem?_eq_some_iff.1 ho).1), List.getElem?_eq_getElem _⟩
      obtain ⟨o', ho', hrs, hkd, _, _⟩ := X.op i d hd
      rw [ho] at ho'; cases ho'
      have hpos := possible_of X I hmax hd ho hni hp
      have he := env_er X I m0 e0 hd ho hni hp hpos
      have g : GRel cx ρ F w (Y.mem x) := g0.le I.st.le (by have := m0; exact this)
      obtain ⟨h14, hdst, hgd⟩ := rsOper_op hrs
      show wpOpIn (W ro) n P ops Q i _ a w
      unfold wpOpIn
      simp only [ho]
      by_cases hf : d.kd = .flt
      · obtain ⟨hg, ⟨t, ht⟩, cells, f, hfl⟩ := Y.fltv i d hd hf
        have hgo : o.guard = none := by
          cases hgo : o.guard with
          | none => rfl
          | some p => rw [hgo, hg] at hgd; cases hgd
        have hw : Region.wanted o (yielded ops a.tmps) = true := by unfold Region.wanted; rw [hgo]
        rw [if_pos hw]
        have h1 := (h14.resolve_left (fun hb => by rw [hb] at hfl; cases hfl)).1
        obtain ⟨c, cs, ty, r1, r2, r3, r4⟩ := flt_sound h1 (evalA_sound he g) hfl
        refine ⟨fun f _ => W_fn ro f, ?_⟩
        rw [semAt_rs h1, r1]
        obtain ⟨cb', I'⟩ := I.early hd ho hf hil hp hdst hfl r2 r3 r4 (ty := ty)
        exact ih _ _ _ hcnt ⟨_, _, _, _, I'⟩
      · -- all others
        have key : ∃ x1, Y.ok x1 ∧ ((x1 = x ∧ d.kd.isMv = false) ∨ (Y.dn x1 = Nat.lor (bit i) (Y.dn x) ∧ d.kd = .mov)) ∧ exec1 rec cx.glob d.io (Y.env i) (Y.mem x) = some (Y.val i, Y.mem x1) := by
          cases hm : d.kd.isMv with
          | false => exact ⟨x, I.ok, .inl ⟨rfl, rfl⟩, Y.stay x i d I.ok hd hpos hm⟩
          | true =>
            have hmv : d.kd = .mov := (isMv_cases hm).resolve_right hf
            obtain ⟨h1, h2, _, d', hd', _, _, h3⟩ := Y.next x i I.ok (Y.mov x i d I.ok hd hpos hmv)
            rw [hd] at hd'; cases hd'
            exact ⟨Y.to x, h1, .inr ⟨h2, hmv⟩, h3⟩
        obtain ⟨x1, hok, hx1, hex⟩ := key
        unfold exec1 at hex
        split at hex
        · cases hex
        · rename_i hgv
          have hw := guardV_sound hrs he hgv
          rw [hw, if_neg (by simp)]
          simp only [Option.some.injEq, Prod.mk.injEq] at hex
          obtain ⟨hv, hm⟩ := hex
          refine ⟨fun f _ => W_fn ro f, ih _ _ _ hcnt ⟨x1, ρ, F, cb, I.step hd ho hf hil hp hok hx1 (hm ▸ Stp.refl I.st.mr) ?_ hdst⟩⟩
          rw [← hv]; exact VR.und
        · rename_i hgv
          have hw := guardV_sound hrs he hgv
          rw [hw, if_pos rfl]
          exact oper_sound K I.st.mr g he hrs hex fun v w1 ρ1 F1 st hv => ih _ _ _ hcnt ⟨x1, ρ1, F1, cb, I.step hd ho hf hil hp hok hx1 st hv hdst⟩

theorem draw_any (K : Keeps P cx rec) (X : DisR P ops dis) (Y : Facts cx rec dis E M E' M') (m0 : MR (Rr P) B0 ρ0 F0 w0 M) (g0 : GRel cx ρ0 F0 w0 M) (e0 : ER ρ0 F0 w0 M a0.tmps E) {Q : Exit → Act → World → Prop} {ro : Option Nat} {n : Nat}
    (hQ : ∀ a' ρ' F' w', Stp (Rr P) B0 ρ0 F0 w0 M ρ' F' w' M' → ER ρ' F' w' M' a'.tmps E' → a'.defers = a0.defers → Q .normal a' w') :
    wpAnyIn (W ro) n P .any ops Q ops.size (Array.replicate ops.size false) a0 w0 := by
  refine any_sound K X Y m0 g0 e0 hQ _ _ _ _ (by simp) ⟨Y.x0, ρ0, F0, fun _ => 0, ?_⟩
  have no : ∀ j, (Array.replicate ops.size false).getD j false = true → False := fun j h => by
    rw [Array.getD_eq_getD_getElem?, Array.getElem?_replicate] at h
    split at h <;> cases h
  have nod : ∀ j, (Y.dn Y.x0).testBit j = true → False := fun j h => by rw [Y.dn0] at h; simp at h
  exact ⟨Y.ok0, by simp, fun i o h => absurd h (no i), fun i d _ _ h => absurd h (no i), fun i h => absurd h (nod i), by rw [Y.mem0]; exact Stp.refl m0, rfl, rfl, fun _ _ => rfl,
    fun j e t c _ _ h => absurd h (no j), fun j e _ _ h => absurd h (no j), fun j k _ _ _ _ h => absurd h (no j)⟩

end
end Go.Ax
