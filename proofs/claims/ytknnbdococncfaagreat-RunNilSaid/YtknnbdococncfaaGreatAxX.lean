/- Part X: a plan that has been checked and run: what it says (2). -/
import Derived.Test.YtknnbdococncfaaGreatAxW
namespace Go.Ax
open Go
noncomputable section
set_option linter.unusedSimpArgs false
set_option linter.unusedVariables false

variable {P : Program} {M M' M'' M0 : Mem} {cx : Cx} {E E' Em : T V} {rec : Task → Option Res} {dis : List DI} {l : List (Bool × Nat)}

theorem eqO_iff {o : Option Nat} {t : Nat} : eqO o t = true ↔ o = some t := by
  cases o with
  | none => simp [eqO]
  | some a => simp only [eqO, Option.some.injEq]; exact ⟨Nat.eq_of_beq_eq_true, fun h => by rw [h]; exact Nat.beq_refl _⟩
theorem dstIn_spec {t : Nat} : ∀ (l : List DI), dstIn t l = false → ∀ (j : Nat) (e : DI), l[j]? = some e → e.io.dst ≠ some t
  | [], _, j, e, h => by simp at h
  | d :: l, h, j, e, he => by
    simp only [dstIn, Bool.or_eq_false_iff] at h
    cases j with
    | zero => simp at he; subst he; intro hd; rw [eqO_iff.2 hd] at h; cases h.1
    | succ j => exact dstIn_spec l h.2 j e (by simpa using he)
theorem dstsOk_spec : ∀ (l : List DI), dstsOk l = true → ∀ (i j : Nat) (d e : DI) (t : Nat), l[i]? = some d → l[j]? = some e → d.io.dst = some t → e.io.dst = some t → i = j
  | [], _, i, j, d, e, t, h, _, _, _ => by simp at h
  | c :: l, h, i, j, d, e, t, hi, hj, hd, he => by
    simp only [dstsOk, Bool.and_eq_true] at h
    cases i with
    | zero =>
      simp at hi; subst hi
      cases j with
      | zero => rfl
      | succ j => rw [hd] at h; simp only [Bool.not_eq_true'] at h; exact absurd he (dstIn_spec l h.1 j e (by simpa using hj))
    | succ i =>
      cases j with
      | zero => simp at hj; subst hj; rw [he] at h; simp only [Bool.not_eq_true'] at h; exact absurd hd (dstIn_spec l h.1 i d (by simpa using hi))
      | succ j => rw [dstsOk_spec l h.2 i j d e t (by simpa using hi) (by simpa using hj) hd he]
theorem tsOk1_spec {i : Nat} {d : DI} {t : Nat} : ∀ (l : List DI) (k : Nat), tsOk1 i d t l k = true → ∀ (j : Nat) (e : DI), l[j]? = some e → e.io.dst = some t → d.anc.testBit (k + j) = true ∨ e.anc.testBit i = true
  | [], k, _, j, e, h, _ => by simp at h
  | c :: l, k, h, j, e, he, ht => by
    simp only [tsOk1, Bool.and_eq_true] at h
    cases j with
    | zero => simp at he; subst he; have := h.1; rw [eqO_iff.2 ht] at this; simpa using this
    | succ j => have := tsOk1_spec l (k + 1) h.2 j e (by simpa using he) ht; rwa [show k + 1 + j = k + (j + 1) by omega] at this
theorem tsBefore1_spec {d : DI} {t : Nat} : ∀ (l : List DI) (k : Nat), tsBefore1 d t l k = true → ∀ (j : Nat) (e : DI), l[j]? = some e → e.io.dst = some t → d.anc.testBit (k + j) = true
  | [], k, _, j, e, h, _ => by simp at h
  | c :: l, k, h, j, e, he, ht => by
    simp only [tsBefore1, Bool.and_eq_true] at h
    cases j with
    | zero => simp at he; subst he; have := h.1; rw [eqO_iff.2 ht] at this; simpa using this
    | succ j => have := tsBefore1_spec l (k + 1) h.2 j e (by simpa using he) ht; rwa [show k + 1 + j = k + (j + 1) by omega] at this
theorem fuOk1_spec {dn t : Nat} : ∀ (l : List DI) (k : Nat), fuOk1 dn t l k = true → ∀ (j : Nat) (e : DI), l[j]? = some e → e.kd = .flt → e.io.dst = some t → dn.testBit (k + j) = true
  | [], k, _, j, e, h, _, _ => by simp at h
  | c :: l, k, h, j, e, he, hf, ht => by
    simp only [fuOk1, Bool.and_eq_true] at h
    cases j with
    | zero => simp at he; subst he; have := h.1; rw [eqO_iff.2 ht, hf] at this; simpa [Kd.isFlt] using this
    | succ j => have := fuOk1_spec l (k + 1) h.2 j e (by simpa using he) hf ht; rwa [show k + 1 + j = k + (j + 1) by omega] at this
theorem stage1_spec {dn ancU : Nat} {nx : Option Nat} {cov : Nat} : ∀ (l : List DI) (k : Nat), stage1 dis dn ancU nx cov l k = true → ∀ (j : Nat) (d : DI), l[j]? = some d → possible dis (k + j) d dn ancU nx = true →
    (d.kd = .mov → nx = some (k + j)) ∧ (d.kd = .read → cov.testBit (k + j) = true) ∧ fuOk dis dn d = true
  | [], k, _, j, d, h, _ => by simp at h
  | c :: l, k, h, j, d, hd, hp => by
    simp only [stage1, Bool.and_eq_true] at h
    cases j with
    | zero =>
      simp at hd; subst hd
      have h1 := h.1
      rw [Nat.add_zero] at hp ⊢
      rw [hp] at h1
      simp only [Bool.not_true, Bool.false_or, Bool.and_eq_true] at h1
      refine ⟨fun hm => ?_, fun hr => ?_, h1.2⟩
      · rw [hm] at h1; exact eqO_iff.1 h1.1
      · rw [hr] at h1; exact h1.1
    | succ j => have := stage1_spec l (k + 1) h.2 j d (by simpa using hd) (by rwa [show k + 1 + j = k + (j + 1) by omega]); rwa [show k + 1 + j = k + (j + 1) by omega] at this
theorem all1_spec : ∀ (l : List DI) (k : Nat), all1 dis l k = true → ∀ (j : Nat) (d : DI), l[j]? = some d → tsOk dis (k + j) d = true ∧ (d.kd = .flt → d.io.guard = none ∧ ∃ t, d.io.dst = some t)
  | [], k, _, j, d, h => by simp at h
  | c :: l, k, h, j, d, hd => by
    simp only [all1, Bool.and_eq_true] at h
    cases j with
    | zero =>
      simp at hd; subst hd
      refine ⟨h.1, fun hf => ?_⟩
      have h2 := h.2.1
      rw [hf] at h2
      simp only [Kd.isFlt, Bool.not_true, Bool.false_or] at h2
      cases hg : c.io.guard with
      | none => rw [hg] at h2; exact ⟨rfl, Option.isSome_iff_exists.1 h2⟩
      | some g => rw [hg] at h2; cases h2
    | succ j => have := all1_spec l (k + 1) h.2.2 j d (by simpa using hd); rwa [show k + 1 + j = k + (j + 1) by omega] at this

/-! ### Positions -/
def posOf (l : List (Bool × Nat)) (i : Nat) : Nat := by
  classical
  exact if h : ∃ k, l[k]? = some (false, i) then h.choose else 0
theorem pos_eq (h : walk dis l 0 0 0 0 = true) {k i : Nat} (hk : l[k]? = some (false, i)) : posOf l i = k := by
  unfold posOf
  have hex : ∃ k, l[k]? = some (false, i) := ⟨k, hk⟩
  rw [dif_pos hex]
  have hs := hex.choose_spec
  generalize hex.choose = q at hs
  rcases Nat.lt_trichotomy q k with hlt | rfl | hlt
  · obtain ⟨d, _, hd, _⟩ := walk_act h hk
    rw [(done_spec k i).2 ⟨q, hlt, hs⟩] at hd; cases hd
  · rfl
  · obtain ⟨d, _, hd, _⟩ := walk_act h hs
    rw [(done_spec q i).2 ⟨k, hlt, hk⟩] at hd; cases hd
def nextEnd (dis : List DI) (l : List (Bool × Nat)) : Nat → Nat → Nat
  | 0, k => k
  | f + 1, k => bif stopAt dis l k then k else nextEnd dis l f (k + 1)
theorem nextEnd_spec : ∀ (f k : Nat), k + f = l.length → k ≤ nextEnd dis l f k ∧ nextEnd dis l f k ≤ l.length ∧ (nextEnd dis l f k = l.length ∨ stopAt dis l (nextEnd dis l f k) = true) ∧ ∀ k'', k ≤ k'' → k'' < nextEnd dis l f k → stopAt dis l k'' = false
  | 0, k, h => ⟨Nat.le_refl _, by simp only [nextEnd]; omega, .inl (by simp only [nextEnd]; omega), fun k'' a b => by simp only [nextEnd] at b; omega⟩
  | f + 1, k, h => by
    simp only [nextEnd]
    cases hs : stopAt dis l k with
    | true => rw [cond_true]; exact ⟨Nat.le_refl _, by omega, .inr hs, fun k'' a b => by omega⟩
    | false =>
      rw [cond_false]
      obtain ⟨h1, h2, h3, h4⟩ := nextEnd_spec f (k + 1) (by omega)
      refine ⟨by omega, h2, h3, fun k'' a b => ?_⟩
      by_cases hk : k'' = k
      · subst hk; exact hs
      · exact h4 k'' (by omega) b

theorem facts_of (hchk : chk dis l = true) (hkd : ∀ (i : Nat) (d : DI), dis[i]? = some d → d.kd = kdOf d.io.op) (hrun : runD rec cx.glob (maskE (dis.filterMap (·.io.dst)) E) (l.map (toStep dis)) E M = some (E', M')) : Nonempty (Facts cx rec dis E M E' M') := by
  simp only [chk, Bool.and_eq_true] at hchk
  obtain ⟨hds, hall, hw⟩ := hchk
  have dists := dstsOk_spec dis hds
  obtain ⟨Es, Ms, q1, q2, q3, q4, hst⟩ := run_steps _ _ _ hrun
  rw [List.length_map] at q3 q4
  generalize hEm : maskE (dis.filterMap (·.io.dst)) E = Em at hst
  have steps : ∀ (k : Nat) (b : Bool) (i : Nat) (d : DI), l[k]? = some (b, i) → dis[i]? = some d → StepRel rec cx.glob Em ⟨b, d.io, d.ts⟩ (Es k) (Ms k) (Es (k + 1)) (Ms (k + 1)) := fun k b i d hk hd => by
    refine hst k _ ?_
    rw [List.getElem?_map, hk]; simp [toStep, hd]
  -- values, environments
  let env : Nat → T V := fun i => match dis[i]? with | some d => envF (Es (posOf l i)) d.ts Em | none => .leaf
  let val : Nat → V := fun i => match dis[i]? with | some d => (match exec1 rec cx.glob d.io (env i) (Ms (posOf l i)) with | some (r, _) => r | none => .any) | none => .any
  have henv : ∀ (i : Nat) (d : DI), dis[i]? = some d → env i = envF (Es (posOf l i)) d.ts Em := fun i d hd => by simp only [env, hd]
  have acts : ∀ (k i : Nat) (d : DI), l[k]? = some (false, i) → dis[i]? = some d → exec1 rec cx.glob d.io (env i) (Ms k) = some (val i, Ms (k + 1)) ∧ Es (k + 1) = putE d.io.dst (val i) (Es k) := fun k i d hk hd => by
    have hp := pos_eq hw hk
    obtain ⟨r, M1, h1, h2⟩ := steps k false i d hk hd
    rcases h2 with ⟨h, _⟩ | ⟨_, h2, h3⟩
    · cases h
    have he : env i = envF (Es k) d.ts Em := by rw [henv i d hd, hp]
    have hv : val i = r := by
      simp only [val, hd]; rw [hp, he, h1]
    rw [he, hv, h3]
    exact ⟨h1, h2⟩
  have agns : ∀ (k i : Nat) (d : DI), l[k]? = some (true, i) → dis[i]? = some d → (∃ r M', exec1 rec cx.glob d.io (envF (Es k) d.ts Em) (Ms k) = some (r, M') ∧ eqD r d.io.dst (Es k) = true) ∧ Es (k + 1) = Es k ∧ Ms (k + 1) = Ms k := fun k i d hk hd => by
    obtain ⟨r, M1, h1, h2⟩ := steps k true i d hk hd
    rcases h2 with ⟨_, h2, h3, h4⟩ | ⟨h, _⟩
    · exact ⟨⟨r, M1, h1, h2⟩, h3, h4⟩
    · cases h
  -- one step
  have disAt : ∀ (k : Nat) (b : Bool) (i : Nat), l[k]? = some (b, i) → ∃ d, dis[i]? = some d := fun k b i hk => by
    cases b with
    | false => obtain ⟨d, hd, _⟩ := walk_act hw hk; exact ⟨d, hd⟩
    | true => obtain ⟨d, hd, _⟩ := walk_agn hw hk; exact ⟨d, hd⟩
  have one : ∀ k, k < l.length → stopAt dis l k = false → Ms (k + 1) = Ms k ∧ (wsAt dis l (k + 1)).dn = (wsAt dis l k).dn ∧ (wsAt dis l (k + 1)).ancU = (wsAt dis l k).ancU := fun k hk hs => by
    have hg : l[k]? = some l[k] := List.getElem?_eq_getElem hk
    generalize l[k] = p at hg
    obtain ⟨b, i⟩ := p
    obtain ⟨d, hd⟩ := disAt k b i hg
    cases b with
    | false =>
      have hm : isMvAt dis i = false := by simpa [stopAt, hg] using hs
      have hm' : d.kd.isMv = false := by simpa [isMvAt, hd] using hm
      refine ⟨exec1_stay (by rw [← hkd i d hd]; exact hm') _ _ (acts k i d hg hd).1, ?_, ?_⟩ <;> simp only [wsAt, hg, nx1, hm, cond_false]
    | true =>
      refine ⟨(agns k i d hg hd).2.2, ?_, ?_⟩ <;> simp only [wsAt, hg, nx1]
  have keep : ∀ (n k : Nat), k + n ≤ l.length → (∀ k'', k ≤ k'' → k'' < k + n → stopAt dis l k'' = false) → Ms (k + n) = Ms k ∧ (wsAt dis l (k + n)).dn = (wsAt dis l k).dn ∧ (wsAt dis l (k + n)).ancU = (wsAt dis l k).ancU := fun n => by
    induction n with
    | zero => intro k _ _; exact ⟨rfl, rfl, rfl⟩
    | succ n ih =>
      intro k hk hs
      obtain ⟨a1, a2, a3⟩ := ih k (by omega) (fun k'' b1 b2 => hs k'' b1 (by omega))
      obtain ⟨b1, b2, b3⟩ := one (k + n) (by omega) (hs (k + n) (by omega) (by omega))
      exact ⟨b1.trans a1, b2.trans a2, b3.trans a3⟩
  have keep' : ∀ (k k' : Nat), k ≤ k' → k' ≤ l.length → (∀ k'', k ≤ k'' → k'' < k' → stopAt dis l k'' = false) → Ms k' = Ms k ∧ (wsAt dis l k').dn = (wsAt dis l k).dn ∧ (wsAt dis l k').ancU = (wsAt dis l k).ancU := fun k k' h1 h2 hs => by
    have := keep (k' - k) k (by omega) (fun k'' a b => hs k'' a (by omega))
    rwa [show k + (k' - k) = k' by omega] at this
  -- the environments of the run
  have stand : ∀ (k : Nat) (t : Nat), k ≤ l.length → (Es k).get t ≠ none → E.get t ≠ none := fun k => by
    induction k with
    | zero => intro t _ h; rwa [q1] at h
    | succ k ih =>
      intro t hk h
      have hg : l[k]? = some l[k] := List.getElem?_eq_getElem (by omega)
      generalize l[k] = p at hg
      obtain ⟨b, i⟩ := p
      obtain ⟨d, hd⟩ := disAt k b i hg
      cases b with
      | false =>
        rw [(acts k i d hg hd).2, putE_get] at h
        split at h
        · exact ih t (by omega) (by intro e; rw [e] at h; exact h rfl)
        · exact ih t (by omega) h
      | true => rw [(agns k i d hg hd).2.1] at h; exact ih t (by omega) h
  have stands : ∀ (k : Nat) (t : Nat), k ≤ l.length → E.get t ≠ none → (Es k).get t ≠ none := fun k => by
    induction k with
    | zero => intro t _ h; rwa [q1]
    | succ k ih =>
      intro t hk h
      have hg : l[k]? = some l[k] := List.getElem?_eq_getElem (by omega)
      generalize l[k] = p at hg
      obtain ⟨b, i⟩ := p
      obtain ⟨d, hd⟩ := disAt k b i hg
      have := ih t (by omega) h
      cases b with
      | false =>
        rw [(acts k i d hg hd).2, putE_get]
        split
        · intro e; exact this (Option.map_eq_none_iff.1 e)
        · exact this
      | true => rw [(agns k i d hg hd).2.1]; exact this
  have stay : ∀ (n k t : Nat), k + n ≤ l.length → (∀ (k'' j : Nat) (e : DI), k ≤ k'' → k'' < k + n → l[k'']? = some (false, j) → dis[j]? = some e → e.io.dst ≠ some t) → (Es (k + n)).get t = (Es k).get t := fun n => by
    induction n with
    | zero => intro k t _ _; rfl
    | succ n ih =>
      intro k t hk hs
      have h0 := ih k t (by omega) (fun k'' j e a b => hs k'' j e a (by omega))
      rw [← h0]
      have hg : l[k + n]? = some l[k + n] := List.getElem?_eq_getElem (by omega)
      generalize l[k + n] = p at hg
      obtain ⟨b, i⟩ := p
      obtain ⟨d, hd⟩ := disAt (k + n) b i hg
      show (Es (k + n + 1)).get t = _
      cases b with
      | false => rw [(acts (k + n) i d hg hd).2, putE_get, if_neg (hs (k + n) i d (by omega) (by omega) hg hd)]
      | true => rw [(agns (k + n) i d hg hd).2.1]
  have stay' : ∀ (k k' t : Nat), k ≤ k' → k' ≤ l.length → (∀ (k'' j : Nat) (e : DI), k ≤ k'' → k'' < k' → l[k'']? = some (false, j) → dis[j]? = some e → e.io.dst ≠ some t) → (Es k').get t = (Es k).get t := fun k k' t h1 h2 hs => by
    have := stay (k' - k) k t (by omega) (fun k'' j e a b => hs k'' j e a (by omega))
    rwa [show k + (k' - k) = k' by omega] at this
  have wrote : ∀ (k k' i : Nat) (d : DI) (t : Nat), l[k]? = some (false, i) → dis[i]? = some d → d.io.dst = some t → k < k' → k' ≤ l.length → E.get t ≠ none → (Es k').get t = some (val i) := fun k k' i d t hk hd ht h1 h2 hE => by
    rw [stay' (k + 1) k' t (by omega) h2 (fun k'' j e a b hj he hdt => by
      have hij := dists i j d e t hd he ht hdt
      subst hij
      have := pos_eq hw hk
      have := pos_eq hw hj
      omega)]
    rw [(acts k i d hk hd).2, putE_get, if_pos ht]
    obtain ⟨u, hu⟩ := Option.ne_none_iff_exists'.1 (stands k t (by omega) hE)
    rw [hu]; rfl
  have getEs : ∀ (k t : Nat) (v : V), k ≤ l.length → (Es k).get t = some v → E.get t ≠ none ∧ ((∃ (j : Nat) (e : DI) (k' : Nat), dis[j]? = some e ∧ e.io.dst = some t ∧ k' < k ∧ l[k']? = some (false, j) ∧ v = val j) ∨
      ((∀ (j : Nat) (e : DI) (k' : Nat), dis[j]? = some e → e.io.dst = some t → k' < k → l[k']? ≠ some (false, j)) ∧ E.get t = some v)) := fun k t v hk hv => by
    have hE := stand k t hk (by rw [hv]; simp)
    refine ⟨hE, ?_⟩
    by_cases hex : ∃ (j : Nat) (e : DI) (k' : Nat), dis[j]? = some e ∧ e.io.dst = some t ∧ k' < k ∧ l[k']? = some (false, j)
    · obtain ⟨j, e, k', h1, h2, h3, h4⟩ := hex
      have := wrote k' k j e t h4 h1 h2 h3 hk hE
      rw [hv] at this
      exact .inl ⟨j, e, k', h1, h2, h3, h4, by simpa using this⟩
    · refine .inr ⟨fun j e k' h1 h2 h3 h4 => hex ⟨j, e, k', h1, h2, h3, h4⟩, ?_⟩
      have := stay' 0 k t (by omega) hk (fun k'' j e _ b hj he hdt => hex ⟨j, e, k'', he, hdt, b, hj⟩)
      rw [q1] at this; rw [← this]; exact hv
  -- all are done
  have full : ∀ (i : Nat), i < dis.length → ∃ k, k < l.length ∧ l[k]? = some (false, i) := fun i hi => by
    have h1 := (walk_end hw).2
    have h2 : (wsAt dis l l.length).done.testBit i = true := by rw [h1, Nat.testBit_two_pow_sub_one]; simpa using hi
    obtain ⟨k, h3, h4⟩ := (done_spec l.length i).1 h2
    exact ⟨k, h3, h4⟩
  have lt_of : ∀ {i : Nat} {d : DI}, dis[i]? = some d → i < dis.length := fun h => (List.getElem?_eq_some_iff.1 h).1
  have ancs : ∀ (k i : Nat) (d : DI), l[k]? = some (false, i) → dis[i]? = some d → ∀ j, d.anc.testBit j = true → ∃ k', k' < k ∧ l[k']? = some (false, j) := fun k i d hk hd j hj => by
    obtain ⟨d', hd', _, hs, _⟩ := walk_act hw hk
    rw [hd] at hd'; cases hd'
    exact (done_spec k j).1 (sub_spec hs hj)
  let stg : Nat → Option Nat := fun x => match l[x]? with | some (false, i) => bif isMvAt dis i then some i else none | _ => none
  have stg_some : ∀ x i, stg x = some i → l[x]? = some (false, i) ∧ isMvAt dis i = true := fun x i h => by
    simp only [stg] at h
    split at h
    · rename_i j hj
      cases hm : isMvAt dis j with
      | true => rw [hm, cond_true] at h; cases h; exact ⟨hj, hm⟩
      | false => rw [hm, cond_false] at h; cases h
    · cases h
  have stop_stg : ∀ x, stopAt dis l x = true → ∃ i, stg x = some i := fun x h => by
    simp only [stopAt] at h
    split at h
    · rename_i j hj; exact ⟨j, by simp only [stg, hj, h, cond_true]⟩
    · cases h
  have hsok : ∀ x, x ≤ l.length → (x = l.length ∨ stopAt dis l x = true) → stageOk dis (wsAt dis l x).dn (wsAt dis l x).ancU (stg x) (wsAt dis l x).cov = true := fun x h1 h2 => by
    rcases h2 with rfl | h2
    · have : stg l.length = none := by simp [stg]
      rw [this]; exact (walk_end hw).1
    · obtain ⟨i, hi⟩ := stop_stg x h2
      obtain ⟨h3, h4⟩ := stg_some x i hi
      obtain ⟨d, hd, _, _, h5⟩ := walk_act hw h3
      rw [hi]; exact h5 (by simpa [isMvAt, hd] using h4)
  have sp : ∀ (x i : Nat) (d : DI), (x ≤ l.length ∧ (x = l.length ∨ stopAt dis l x = true)) → dis[i]? = some d → possible dis i d (wsAt dis l x).dn (wsAt dis l x).ancU (stg x) = true →
      (d.kd = .mov → stg x = some i) ∧ (d.kd = .read → (wsAt dis l x).cov.testBit i = true) ∧ fuOk dis (wsAt dis l x).dn d = true := fun x i d hx hd hp => by
    have := stage1_spec dis 0 (hsok x hx.1 hx.2) i d hd (by rwa [Nat.zero_add])
    rwa [Nat.zero_add] at this
  have ends : ∀ k, k ≤ l.length → _ := fun k hk => nextEnd_spec (dis := dis) (l := l) (l.length - k) k (by omega)
  refine ⟨{
    mem := Ms
    dn := fun x => (wsAt dis l x).dn
    anU := fun x => (wsAt dis l x).ancU
    nx := stg
    to := fun x => nextEnd dis l (l.length - (x + 1)) (x + 1)
    rank := fun x => l.length - x
    ok := fun x => x ≤ l.length ∧ (x = l.length ∨ stopAt dis l x = true)
    val := val
    env := env
    x0 := nextEnd dis l (l.length - 0) 0
    ok0 := ⟨(ends 0 (Nat.zero_le _)).2.1, (ends 0 (Nat.zero_le _)).2.2.1⟩
    dn0 := (keep' 0 _ (Nat.zero_le _) (ends 0 (Nat.zero_le _)).2.1 (ends 0 (Nat.zero_le _)).2.2.2).2.1
    mem0 := ((keep' 0 _ (Nat.zero_le _) (ends 0 (Nat.zero_le _)).2.1 (ends 0 (Nat.zero_le _)).2.2.2).1).trans q2
    anu := fun x _ k hk => ancU_spec hw x k hk
    next := ?_
    mov := fun x i d hx hd hp hm => (sp x i d hx hd hp).1 hm
    stay := ?_
    fu := ?_
    fltv := ?_
    envs := ?_
    dists := dists
    more := ?_
    fin := ?_
    last := ?_ }⟩
  · -- next
    intro x i hx hi
    obtain ⟨h1, h2⟩ := stg_some x i hi
    have hxl : x < l.length := (List.getElem?_eq_some_iff.1 h1).1
    obtain ⟨e1, e2, e3, e4⟩ := ends (x + 1) (by omega)
    obtain ⟨k1, k2, _⟩ := keep' (x + 1) _ e1 e2 e4
    obtain ⟨d, hd, hdn, _⟩ := walk_act hw h1
    refine ⟨⟨e2, e3⟩, ?_, by show l.length - _ < l.length - x; omega, d, hd, by simpa [isMvAt, hd] using h2, ?_, ?_⟩
    · show (wsAt dis l _).dn = _
      rw [k2]
      simp only [wsAt, h1, nx1, h2, cond_true]
    · show (wsAt dis l x).dn.testBit i = false
      cases hb : (wsAt dis l x).dn.testBit i with
      | false => rfl
      | true => rw [(done_spec x i).2 ((dn_spec x i).1 hb).2] at hdn; cases hdn
    · show exec1 rec cx.glob d.io (env i) (Ms x) = some (val i, Ms _)
      rw [k1]; exact (acts x i d h1 hd).1
  · -- stay
    intro x i d hx hd hp hm
    obtain ⟨k, hk, hki⟩ := full i (lt_of hd)
    have hpos := pos_eq hw hki
    have hex := (acts k i d hki hd).1
    have hk' := hkd i d hd
    cases hkk : d.kd with
    | mov => rw [hkk] at hm; cases hm
    | flt => rw [hkk] at hm; cases hm
    | pure => exact (exec1_pure (by rw [← hk', hkk]) _ _ hex).2 _
    | read =>
      obtain ⟨k', b, h1, h2, h3⟩ := cov_spec x i ((sp x i d hx hd hp).2.1 hkk)
      have hM := (keep' k' x (by omega) hx.1 h3).1
      show exec1 rec cx.glob d.io (env i) (Ms x) = some (val i, Ms x)
      rw [hM]
      cases b with
      | false =>
        obtain ⟨h4, _⟩ := acts k' i d h2 hd
        have := exec1_read (by rw [← hk', hkk]) _ _ h4
        rw [this] at h4; exact h4
      | true =>
        obtain ⟨⟨r, M1, h4, h5⟩, _⟩ := agns k' i d h2 hd
        obtain ⟨d', hd', _, ⟨t, ht⟩, hdone, htb⟩ := walk_agn hw h2
        rw [hd] at hd'; cases hd'
        have hk'l : k' < l.length := (List.getElem?_eq_some_iff.1 h2).1
        obtain ⟨k2, hk2, hk2i⟩ := (done_spec k' i).1 hdone
        have := pos_eq hw hk2i
        have hkk2 : k2 = k := by omega
        subst hkk2
        have hev : envF (Es k') d.ts Em = env i := by
          rw [henv i d hd, hpos]
          refine envF_congr _ _ _ _ fun t' ht' => stay' k2 k' t' (by omega) (by omega) (fun k'' j e a b hj he hdt => ?_)
          have hb := tsBefore1_spec dis 0 (List.all_eq_true.1 htb t' ht') j e he hdt
          rw [Nat.zero_add] at hb
          obtain ⟨k3, hk3, hk3j⟩ := ancs k2 i d hk2i hd j hb
          have := pos_eq hw hk3j
          have := pos_eq hw hj
          omega
        rw [hev] at h4
        have hM1 := exec1_read (by rw [← hk', hkk]) _ _ h4
        rw [hM1] at h4
        have hr : r = val i := by
          rw [ht] at h5
          simp only [eqD] at h5
          split at h5
          · rename_i d' hd'
            have hE := stand k' t (by omega) (by rw [hd']; simp)
            have := wrote k2 k' i d t hk2i hd ht hk2 (by omega) hE
            rw [hd'] at this
            rw [sameA_eq h5]; simpa using this
          · cases h5
        rw [hr] at h4; exact h4
  · -- fu
    intro x i d hx hd hp t ht j e he hf hdt
    have h := (sp x i d hx hd hp).2.2
    have := fuOk1_spec dis 0 (List.all_eq_true.1 h t ht) j e he hf hdt
    rwa [Nat.zero_add] at this
  · -- fltv
    intro j e he hf
    obtain ⟨hg, ht⟩ := (all1_spec dis 0 hall j e he).2 hf
    obtain ⟨k, hk, hkj⟩ := full j (lt_of he)
    have hex := (acts k j e hkj he).1
    unfold exec1 at hex
    rw [hg] at hex
    simp only [guardV] at hex
    obtain ⟨cells, f, h1, _⟩ := flt_spec (by rw [← hkd j e he]; exact hf) rec cx.glob _ _ hex
    exact ⟨hg, ht, cells, f, h1⟩
  · -- envs
    intro i d hd t v hv
    obtain ⟨k, hk, hki⟩ := full i (lt_of hd)
    have hpos := pos_eq hw hki
    have hv : (env i).get t = some v := hv
    rw [henv i d hd, hpos] at hv
    obtain ⟨h1, h2⟩ := envF_get _ _ _ _ _ hv
    obtain ⟨u, hu⟩ := Option.ne_none_iff_exists'.1 h1
    rw [← hEm] at hu
    obtain ⟨hE, hmask⟩ := maskE_get _ _ _ _ hu
    refine ⟨hE, ?_⟩
    rcases h2 with ⟨hts, rfl⟩ | ⟨hts, h2⟩
    · cases hg : (Es k).get t with
      | none => exact .inl rfl
      | some v' =>
        simp only [Option.getD_some]
        obtain ⟨_, h3⟩ := getEs k t v' (by omega) hg
        rcases h3 with ⟨j, e, k', a1, a2, a3, a4, rfl⟩ | ⟨a1, a2⟩
        · refine .inr (.inl ⟨hts, j, e, a1, a2, ?_, rfl⟩)
          have := tsOk1_spec dis 0 (List.all_eq_true.1 (by have := (all1_spec dis 0 hall i d hd).1; rw [Nat.zero_add] at this; exact this) t hts) j e a1 a2
          rw [Nat.zero_add] at this
          rcases this with h | h
          · exact h
          · obtain ⟨k3, b1, b2⟩ := ancs k' j e a4 a1 i h
            have := pos_eq hw b2
            omega
        · refine .inr (.inr ⟨fun j e he hdt => ?_, a2⟩)
          have := tsOk1_spec dis 0 (List.all_eq_true.1 (by have := (all1_spec dis 0 hall i d hd).1; rw [Nat.zero_add] at this; exact this) t hts) j e he hdt
          rw [Nat.zero_add] at this
          rcases this with h | h
          · obtain ⟨k3, b1, b2⟩ := ancs k i d hki hd j h
            exact absurd b2 (a1 j e k3 he hdt b1)
          · exact h
    · rw [← hEm] at h2
      rw [hu] at h2; cases h2
      rcases hmask with ⟨_, rfl⟩ | ⟨hn, hEt⟩
      · exact .inl rfl
      · exact .inr (.inr ⟨fun j e he hdt => absurd (List.mem_filterMap.2 ⟨e, List.mem_of_getElem? he, hdt⟩) hn, hEt⟩)
  · -- more
    intro D hex
    have : ∀ (n k i : Nat), k ≤ n → l[k]? = some (false, i) → ¬ D i → ∃ (i : Nat) (d : DI), dis[i]? = some d ∧ ¬ D i ∧ ∀ j, d.anc.testBit j = true → D j := fun n => by
      induction n with
      | zero =>
        intro k i hk hki hD
        obtain ⟨d, hd⟩ := disAt k false i hki
        refine ⟨i, d, hd, hD, fun j hj => ?_⟩
        obtain ⟨k', h1, _⟩ := ancs k i d hki hd j hj
        omega
      | succ n ih =>
        intro k i hk hki hD
        obtain ⟨d, hd⟩ := disAt k false i hki
        by_cases hall : ∀ j, d.anc.testBit j = true → D j
        · exact ⟨i, d, hd, hD, hall⟩
        · simp only [Classical.not_forall] at hall
          obtain ⟨j, hj, hDj⟩ := hall
          obtain ⟨k', h1, h2⟩ := ancs k i d hki hd j hj
          exact ih k' j (by omega) h2 hDj
    obtain ⟨i, hi, hD⟩ := hex
    obtain ⟨k, _, hki⟩ := full i hi
    exact this k k i (Nat.le_refl _) hki hD
  · -- fin
    intro x hx hn
    have hxl : x = l.length := by
      rcases hx.2 with h | h
      · exact h
      · obtain ⟨i, hi⟩ := stop_stg x h
        have hn : stg x = none := hn
        rw [hi] at hn; cases hn
    subst hxl
    refine ⟨q4, fun j e he hm => ?_⟩
    obtain ⟨k, h1, h2⟩ := full j (lt_of he)
    exact (dn_spec l.length j).2 ⟨by simpa [isMvAt, he] using hm, k, h1, h2⟩
  · -- last
    intro t v hv
    rw [← q3] at hv
    obtain ⟨h1, h2⟩ := getEs l.length t v (Nat.le_refl _) hv
    refine ⟨h1, ?_⟩
    rcases h2 with ⟨j, e, k', a1, a2, _, _, a3⟩ | ⟨a1, a2⟩
    · exact .inl ⟨j, e, a1, a2, a3⟩
    · refine .inr ⟨fun j e he hdt => ?_, a2⟩
      obtain ⟨k, h3, h4⟩ := full j (lt_of he)
      exact a1 j e k he hdt h3 h4

end
end Go.Ax
