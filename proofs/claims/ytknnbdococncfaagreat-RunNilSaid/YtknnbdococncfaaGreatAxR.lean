/- Part R: the executor is sound: code, calls, the whole. -/
import Derived.Test.YtknnbdococncfaaGreatAxY
import Derived.LoopNIn
namespace Go.Ax
open Go
noncomputable section
set_option linter.unusedSimpArgs false
set_option linter.unusedVariables false

variable {P : Program} {B0 : Nat} {ρ ρ' ρ'' : Nat → Nat} {F F' F'' : Nat → Nat → Prop} {w w' w'' : World} {M M' M'' : Mem} {a : Act} {cx : Cx} {E E' : T V} {ds ds' : List Nat} {rec : Task → Option Res}

theorem oneV_sound {vs : List Value} {l : List V} (h2 : vs.length = l.length) (h3 : ∀ (i : Nat) v d, vs[i]? = some v → l[i]? = some d → VR ρ F w M v d) :
    VR ρ F w M (if h : vs.toArray.size = 1 then vs.toArray[0] else .tuple vs.toArray) (oneV l) := by
  by_cases h : vs.toArray.size = 1
  · rw [dif_pos h]
    simp at h
    match vs, l, h2, h with
    | [v], [d], _, _ => exact h3 0 v d rfl rfl
  · rw [dif_neg h]
    simp at h
    match l, h2 with
    | [], h2 => exact .tuple _ _ (by simpa using h2) (fun i c d hc hd => h3 i c d (by simpa using hc) hd)
    | [d], h2 => exact absurd (by simpa using h2) h
    | d :: e :: l, h2 => exact .tuple _ _ (by simpa using h2) (fun i c d hc hd => h3 i c d (by simpa using hc) hd)

theorem leaves_sound {fn : Func} {ifn : IFn} {l : List V} {M2 : Mem} {R : Ending → World → Prop} (hres : ResR P fn.results.toList ifn.results) : ∀ (ns : List Nat) (dl : List Deferred) {ρ : Nat → Nat} {F : Nat → Nat → Prop} {w : World} {M : Mem}, DR ρ M dl ns → takeDs ns M = some M2 →
    MR (Rr P) B0 ρ F w M → GRel cx ρ F w M → ER ρ F w M a.tmps E → resV cx.glob E M2 ifn.results = some l → (∀ u ρ' F' w', Stp (Rr P) B0 ρ F w M ρ' F' w' M2 → VR ρ' F' w' M2 u (oneV l) → R (.returned u) w') → LeavesInM (W none) 0 P fn a.tmps R dl .returning w
  | [], dl, ρ, F, w, M, hd, ht, m, g, he, hr, hR => by
    cases hd
    cases ht
    obtain ⟨vs, h1, h2, h3⟩ := resV_sound he g m _ _ _ hres hr
    have h1' : (fn.results.mapM (resF a.tmps)).run P w = .ok vs.toArray w := by
      rw [Array.mapM_eq_mapM_toList, Sem.run_map, h1]; rfl
    refine ⟨(if h : vs.toArray.size = 1 then vs.toArray[0] else .tuple vs.toArray), ?_, ?_⟩
    · rw [results_eq, Sem.run_bind, h1', Result.andThen_ok]; rfl
    · exact hR _ ρ F w (Stp.refl m) (oneV_sound h2 h3)
  | n :: ns, dl, ρ, F, w, M, hd, ht, m, g, he, hr, hR => by
    cases hd with
    | cons cb _ dl _ h1 h2 h3 =>
    simp only [takeDs] at ht
    split at ht
    · rename_i hM
      have hl : M.get n ≠ none := by rw [hM]; simp
      have hcb := h2 hl; subst hcb
      have hb : w.heap[ρ n]? = some (.deferred (some [])) := m.obj n _ hM
      have st := Stp.kill m hl (.deferred none) (fun cs e fr h => by rw [hb] at h; cases h)
      exact ⟨by simp, .inl ⟨ρ n, _, rfl, run_takeDeferred hb, leaves_sound hres ns dl (h3.le st.le) ht st.mr (g.le st.le m) (he.le st.le m) hr (fun u ρ' F' w' st' hu => hR u ρ' F' w' (st.trans st') hu)⟩⟩
    · cases ht

theorem blank_get (n m : Nat) (d : V) (h : (blank n).get m = some d) : m < n ∧ d = .any := by
  induction n with
  | zero => have : (T.leaf : T V).get m = some d := h; rw [T.get_leaf] at this; cases this
  | succ n ih =>
    have h' : ((blank n).set n (some .any)).get m = some d := h
    clear h
    rw [T.get_set] at h'
    split at h'
    · rename_i hm; cases h'; exact ⟨by omega, rfl⟩
    · rename_i hm
      have h := h'
      obtain ⟨h1, h2⟩ := ih h; exact ⟨by omega, h2⟩
theorem blank_sound {n : Nat} {cs : Array Value} (h : n ≤ cs.size) : ER ρ F w M cs (blank n) := fun m d hd => by
  obtain ⟨h1, rfl⟩ := blank_get n m d hd
  exact ⟨cs[m]'(by omega), Array.getElem?_eq_getElem _, .any _⟩
/-- An argument's cell, written anew with what stands there. -/
theorem ER.putSame {cs : Array Value} (h : ER ρ F w M cs E) {v : Value} {r : V} (d : Nat) (hc : cs[d]? = some v) (hv : VR ρ F w M v r) : ER ρ F w M cs (putP (path d) r E) := by
  have := h.put d hv
  have e : cs.setIfInBounds d v = cs := by
    apply Array.ext_getElem?
    intro i
    rw [Array.getElem?_setIfInBounds]
    split
    · rename_i hi; subst hi
      split
      · exact hc.symm
      · rename_i hlt; rw [Array.getElem?_eq_none (by omega)]
    · rfl
  rw [e] at this; exact this
theorem putArgs_sound {cs : Array Value} : ∀ (args : List V) (k : Nat) (E : T V) (_ : True), True → (∀ (i : Nat) c d, cs[k + i]? = some c → args[i]? = some d → VR ρ F w M c d) → (∀ i, i < args.length → ∃ c, cs[k + i]? = some c) → ER ρ F w M cs E → ER ρ F w M cs (putArgs args k E)
  | [], _, _, _, _, _, _, h => h
  | a :: args, k, E, _, _, h1, h2, h => by
    obtain ⟨c, hc⟩ := h2 0 (by simp)
    refine putArgs_sound args (k + 1) _ trivial trivial (fun i c d hc hd => h1 (i + 1) c d (by rw [← hc]; congr 1; omega) (by simpa using hd)) (fun i hi => ?_) (h.putSame k hc (h1 0 c a hc rfl))
    obtain ⟨c, hc⟩ := h2 (i + 1) (by simpa using hi)
    exact ⟨c, by rw [← hc]; congr 1; omega⟩

/-- A call. -/
theorem call_sound (T : TR P cx) (K : Keeps P cx rec) {f : Nat} {args : List V} {v : V} (h : step cx rec (.call f args M) = some (.call v M')) {cargs : Array Value} (m : MR (Rr P) B0 ρ F w M) (g : GRel cx ρ F w M) (ha : VRs ρ F w M cargs args) :
    Calls P f cargs w (CallP P B0 ρ F w M v M') := by
  have h : sCall cx rec f args M = some (.call v M') := h
  unfold sCall at h
  split at h
  · rename_i ifn hfn
    obtain ⟨fn, c, q1, q2, q3, q4, q5, q6⟩ := T.fn f ifn hfn
    unfold sFn at h
    split at h
    · rename_i x E1 ds1 M1 hr
      have hx : (∀ id, x ≠ .exit id) ∧ ∃ M2 l, takeDs ds1 M1 = some M2 ∧ resV cx.glob E1 M2 ifn.results = some l ∧ v = oneV l ∧ M' = M2 := by
        unfold callEnd at h
        cases x with
        | exit id => cases h
        | nrm =>
          simp only at h
          split at h
          · rename_i M2 h2
            split at h
            · rename_i l h3; cases h; exact ⟨fun _ => by simp, _, l, h2, h3, rfl, rfl⟩
            · cases h
          · cases h
        | ret =>
          simp only at h
          split at h
          · rename_i M2 h2
            split at h
            · rename_i l h3; cases h; exact ⟨fun _ => by simp, _, l, h2, h3, rfl, rfl⟩
            · cases h
          · cases h
      obtain ⟨hx, M2, l, h2, h3, rfl, rfl⟩ := hx
      have hE : ER ρ F w M (cargs ++ Array.replicate (fn.ntmps - cargs.size) undef) (putArgs args 0 (blank ifn.ntmps)) :=
        putArgs_sound args 0 _ trivial trivial (fun i c d hc hd => by
          rw [Nat.zero_add] at hc
          have hi : i < cargs.size := by rw [ha.1]; exact (List.getElem?_eq_some_iff.1 hd).1
          rw [Array.getElem?_append_left hi] at hc
          exact ha.2 i c d hc hd) (fun i hi => ⟨cargs[i]'(by rw [ha.1]; exact hi), by rw [Nat.zero_add, Array.getElem?_append_left (by rw [ha.1]; exact hi)]; exact Array.getElem?_eq_getElem _⟩) (blank_sound (by rw [← q5]; simp; omega))
      have hw := K.code _ _ _ _ _ _ _ _ _ hr c q4 none rfl B0 ρ F w ⟨cargs ++ Array.replicate (fn.ntmps - cargs.size) undef, []⟩ m g hE .nil
      refine calls_of_W (n := 0) (callsIn_of_wp_marks q1 q2 (W_fn none f) (wpIn_mono hw ?_))
      rintro e a1 w1 ⟨rfl, ρ1, F1, st, hE1, hD1⟩
      have fin := leaves_sound (a := a1) (R := CallP P B0 ρ F w M (oneV l) M') q6 ds1 a1.defers hD1 h2 st.mr (g.le st.le m) hE1 h3 (fun u ρ' F' w' st' hu => ⟨u, ρ', F', rfl, st.trans st', hu⟩)
      cases x with
      | nrm => exact fin
      | ret => exact fin
      | exit id => exact absurd rfl (hx id)
    · cases h
  · cases h

/-- A run's claims are kept, its loops' rounds counted. -/
structure Keeps2 (P : Program) (cx : Cx) (rec : Task → Option Res) : Prop extends Keeps P cx rec where
  rounds : ∃ m : Nat, ∀ rd c E ds M x E' ds' M', rec (.code rd (.loop c) E ds M) = some (.code x E' ds' M') → ∀ code, rsCode P code = c → ∀ ro : Option Nat, ro.isSome = rd → ∀ B0 ρ F w a, MR (Rr P) B0 ρ F w M → GRel cx ρ F w M →
    ER ρ F w M a.tmps E → DR ρ M a.defers ds → Code.roundsIn (W ro) 0 P code (CodeP P B0 ρ F w M x E' ds' M') m a w

theorem roundsIn_mono {ro : Option Nat} {n : Nat} {c : Code} {Q Q' : Exit → Act → World → Prop} (hq : ∀ e a w, Q e a w → Q' e a w) : ∀ (m : Nat) (a : Act) (w : World), Code.roundsIn (W ro) n P c Q m a w → Code.roundsIn (W ro) n P c Q' m a w
  | 0, _, _, h => h
  | m + 1, a, w, h => wpIn_mono (show c.wpIn (W ro) n P (Exit.then (Code.roundsIn (W ro) n P c Q m) Q) a w from h) fun e a' w' q => by
      cases e with
      | normal => exact roundsIn_mono hq m a' w' q
      | _ => exact hq _ _ _ q

theorem loop_sound (K : Keeps P cx rec) {m0 : Nat} (Kr : ∀ rd c E ds M x E' ds' M', rec (.code rd (.loop c) E ds M) = some (.code x E' ds' M') → ∀ code, rsCode P code = c → ∀ ro : Option Nat, ro.isSome = rd → ∀ B0 ρ F w a, MR (Rr P) B0 ρ F w M → GRel cx ρ F w M →
      ER ρ F w M a.tmps E → DR ρ M a.defers ds → Code.roundsIn (W ro) 0 P code (CodeP P B0 ρ F w M x E' ds' M') m0 a w)
    {rd : Bool} {c : IC} {x : X} (h : step cx rec (.code rd (.loop c) E ds M) = some (.code x E' ds' M')) {code : Code} (hc : rsCode P code = c) {ro : Option Nat} (hro : ro.isSome = rd) (m : MR (Rr P) B0 ρ F w M) (g : GRel cx ρ F w M)
    (he : ER ρ F w M a.tmps E) (hd : DR ρ M a.defers ds) : Code.roundsIn (W ro) 0 P code (CodeP P B0 ρ F w M x E' ds' M') (m0 + 1) a w := by
  have h : sLoop rec rd c E ds M = some (.code x E' ds' M') := h
  unfold sLoop at h
  rw [roundsIn_succ]
  split at h
  · rename_i E1 ds1 M1 hr
    refine wpIn_mono (K.code _ _ _ _ _ _ _ _ _ hr code hc ro hro B0 ρ F w a m g he hd) ?_
    rintro e a1 w1 ⟨rfl, ρ1, F1, st, hE1, hD1⟩
    exact roundsIn_mono (fun e a' w' q => q.trans st) _ _ _ (Kr _ _ _ _ _ _ _ _ _ h code hc ro hro B0 ρ1 F1 w1 a1 st.mr (g.le st.le m) hE1 hD1)
  · rename_i hne
    refine wpIn_mono (K.code _ _ _ _ _ _ _ _ _ h code hc ro hro B0 ρ F w a m g he hd) ?_
    intro e a1 w1 q
    have hx : x ≠ .nrm := fun hx => by subst hx; exact hne _ _ _ h
    obtain ⟨rfl, q⟩ := q
    cases x with
    | nrm => exact absurd rfl hx
    | ret => exact ⟨rfl, q⟩
    | exit id => exact ⟨rfl, q⟩

theorem code_sound (T : TR P cx) (K : Keeps P cx rec) {m0 : Nat} (Kr : ∀ rd c E ds M x E' ds' M', rec (.code rd (.loop c) E ds M) = some (.code x E' ds' M') → ∀ code, rsCode P code = c → ∀ ro : Option Nat, ro.isSome = rd → ∀ B0 ρ F w a, MR (Rr P) B0 ρ F w M → GRel cx ρ F w M →
      ER ρ F w M a.tmps E → DR ρ M a.defers ds → Code.roundsIn (W ro) 0 P code (CodeP P B0 ρ F w M x E' ds' M') m0 a w)
    {rd : Bool} {x : X} {code : Code} (h : step cx rec (.code rd (rsCode P code) E ds M) = some (.code x E' ds' M')) {ro : Option Nat} (hro : ro.isSome = rd) (m : MR (Rr P) B0 ρ F w M) (g : GRel cx ρ F w M)
    (he : ER ρ F w M a.tmps E) (hd : DR ρ M a.defers ds) : code.wpIn (W ro) 0 P (CodeP P B0 ρ F w M x E' ds' M') a w := by
  cases code with
  | skip => cases h; exact wpIn_skip ⟨rfl, ρ, F, Stp.refl m, he, hd⟩
  | label l => cases h; exact wpIn_label ⟨rfl, ρ, F, Stp.refl m, he, hd⟩
  | exit id => cases h; exact wpIn_exit ⟨rfl, ρ, F, Stp.refl m, he, hd⟩
  | ret => cases h; exact wpIn_ret ⟨rfl, ρ, F, Stp.refl m, he, hd⟩
  | region id ops draw =>
    cases draw with
    | true => exact draw_sound T K h m g he hd
    | false =>
      simp only [rsCode] at h
      split at h
      · rename_i l hl
        have h : sReg cx rec l E ds M = some (.code x E' ds' M') := h
        unfold sReg at h
        split at h
        · rename_i E1 M1 hs
          cases h
          refine wpIn_region ?_
          rw [List.range_eq_range', ← Array.length_toList]
          refine ops_sound K ops.toList l 0 (fun j => by simp) hl m g he hd hs (fun a' ρ' F' w' st hv hdd => ⟨rfl, ρ', F', st, hv, by rw [hdd]; exact hd.le st.le⟩)
        · cases h
      · cases h
  | seq p q =>
    have h : sSeq rec rd (rsCode P p) (rsCode P q) E ds M = some (.code x E' ds' M') := h
    unfold sSeq at h
    refine wpIn_seq ?_
    split at h
    · rename_i E1 ds1 M1 hr
      refine wpIn_mono (K.code _ _ _ _ _ _ _ _ _ hr p rfl ro hro B0 ρ F w a m g he hd) ?_
      rintro e a1 w1 ⟨rfl, ρ1, F1, st, hE1, hD1⟩
      exact wpIn_mono (K.code _ _ _ _ _ _ _ _ _ h q rfl ro hro B0 ρ1 F1 w1 a1 st.mr (g.le st.le m) hE1 hD1) (fun e a' w' q => q.trans st)
    · rename_i hne
      refine wpIn_mono (K.code _ _ _ _ _ _ _ _ _ h p rfl ro hro B0 ρ F w a m g he hd) ?_
      rintro e a1 w1 ⟨rfl, q⟩
      cases x with
      | nrm => exact absurd h (hne _ _ _)
      | ret => exact ⟨rfl, q⟩
      | exit id => exact ⟨rfl, q⟩
  | cond o p q =>
    simp only [rsCode] at h
    split at h
    · rename_i xi hx
      have h : sCond cx rec rd xi (rsCode P p) (rsCode P q) E ds M = some (.code x E' ds' M') := h
      unfold sCond at h
      have hv := evalA_sound he g o xi hx
      split at h
      · rename_i t ht
        rw [ht] at hv
        refine wpIn_cond (t := t) hv.bool_inv ?_
        cases t with
        | true => exact K.code _ _ _ _ _ _ _ _ _ h p rfl ro hro B0 ρ F w a m g he hd
        | false => exact K.code _ _ _ _ _ _ _ _ _ h q rfl ro hro B0 ρ F w a m g he hd
      · cases h
    · cases h
  | block id p =>
    have h : sBlock rec rd id (rsCode P p) E ds M = some (.code x E' ds' M') := h
    unfold sBlock at h
    refine wpIn_block ?_
    split at h
    · rename_i i E1 ds1 M1 hr
      cases h
      refine wpIn_mono (K.code _ _ _ _ _ _ _ _ _ hr p rfl ro hro B0 ρ F w a m g he hd) ?_
      rintro e a1 w1 ⟨rfl, q⟩
      by_cases hi : i = id
      · subst hi
        simp only [X.exit', Exit.inBlock, if_true]
        rw [Nat.beq_refl, cond_true]; exact ⟨rfl, q⟩
      · have : Nat.beq i id = false := by rw [← Bool.not_eq_true]; exact fun h => hi (Nat.eq_of_beq_eq_true h)
        simp only [X.exit', Exit.inBlock, if_neg hi]
        rw [this, cond_false]; exact ⟨rfl, q⟩
    · rename_i hne
      refine wpIn_mono (K.code _ _ _ _ _ _ _ _ _ h p rfl ro hro B0 ρ F w a m g he hd) ?_
      rintro e a1 w1 ⟨rfl, q⟩
      cases x with
      | nrm => exact ⟨rfl, q⟩
      | ret => exact ⟨rfl, q⟩
      | exit id => exact absurd h (hne _ _ _ _)
  | loop p => exact wpIn_loop_rounds (m0 + 1) (loop_sound K Kr h rfl hro m g he hd)
  | rangeFunc gx ps p q =>
    simp only [rsCode] at h
    split at h
    · rename_i gi hg
      have h : sRange cx rec rd gi ps.toList p q (rsCode P p) (rsCode P q) E ds M = some (.code x E' ds' M') := h
      unfold sRange at h
      cases rd with
      | true => cases h
      | false =>
        cases ro with
        | some _ => cases hro
        | none =>
        simp only at h
        split at h
        · rename_i gf cap hgf
          split at h
          · rename_i v M3 hrec
            unfold rangeEnd at h
            split at h
            · rename_i r hM3
              split at h
              · cases h
              · rename_i hb
                have hb' : r.state ≠ .busy := hb
                split at h
                · rename_i hp; cases h; exact rangeF_sound (x := .nrm) K m g he hd hg hgf hrec hM3 hb' hp
                · rename_i hp; cases h; exact rangeF_sound (x := .ret) K m g he hd hg hgf hrec hM3 hb' hp
                · rename_i id hp; cases h; exact rangeF_sound (x := .exit id) K m g he hd hg hgf hrec hM3 hb' hp
                · cases h
            · cases h
          · cases h
        · cases h
    · cases h
  | _ => cases h

theorem keeps2_run (T : TR P cx) : ∀ k, Keeps2 P cx (run cx k)
  | 0 => { call := fun _ _ _ _ _ h => (nomatch h), code := fun _ _ _ _ _ _ _ _ _ h => (nomatch h), known := fun _ _ _ _ _ h => (nomatch h), rounds := ⟨0, fun _ _ _ _ _ _ _ _ _ h => (nomatch h)⟩ }
  | k + 1 => by
    have K := keeps2_run T k
    obtain ⟨m0, Kr⟩ := K.rounds
    exact
      { call := fun f args M v M' h B0 ρ F w cargs m g ha => call_sound T K.toKeeps h m g ha
        code := fun rd c E ds M x E' ds' M' h code hc ro hro B0 ρ F w a m g he hd => by subst hc; exact code_sound T K.toKeeps Kr h hro m g he hd
        known := fun f args M v M' h => by
          have h : sCall cx (run cx k) f args M = some (.call v M') := h
          unfold sCall at h
          split at h
          · rename_i ifn hfn
            obtain ⟨fn, c, q1, q2, q3, _⟩ := T.fn f ifn hfn
            exact ⟨fn, q1, by rw [q2]; rfl, q3⟩
          · cases h
        rounds := ⟨m0 + 1, fun rd c E ds M x E' ds' M' h code hc ro hro B0 ρ F w a m g he hd => loop_sound K.toKeeps Kr h hc hro m g he hd⟩ }

end
end Go.Ax
