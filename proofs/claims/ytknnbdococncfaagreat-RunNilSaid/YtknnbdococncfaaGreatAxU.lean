/- Part U: whatever order the operations of a region come in, they come to what the plan comes to (2). -/
import Derived.Test.YtknnbdococncfaaGreatAxT
namespace Go.Ax
open Go
noncomputable section
set_option linter.unusedSimpArgs false
set_option linter.unusedVariables false

variable {P : Program} {R : RsT} {B0 : Nat} {ρ ρ' ρ'' ρ0 ρ1 : Nat → Nat} {F F' F'' F0 F1 : Nat → Nat → Prop} {w w' w'' w0 w1 : World} {M M' M'' M0 : Mem} {a a' a0 : Act} {cx : Cx} {E E' : T V} {ds ds' : List Nat} {rec : Task → Option Res}
variable {ops : Array Oper} {dis : List DI} {Y : Facts cx rec dis E M E' M'} {listed : Array Bool} {x x1 : Nat} {cb : Nat → Nat} {i : Nat} {d : DI} {o : Oper}

theorem put_get (dst : Option Nat) (v : Value) (t : Nat) : (a.put dst v).tmps[t]? = if dst = some t then (a.tmps[t]?).map (fun _ => v) else a.tmps[t]? := by
  cases dst with
  | none => simp [Act.put]
  | some d =>
    show (a.tmps.setIfInBounds d v)[t]? = _
    rw [Array.getElem?_setIfInBounds]
    by_cases h : d = t
    · subst h
      rw [if_pos rfl, if_pos rfl]
      by_cases hlt : d < a.tmps.size
      · rw [if_pos hlt, Array.getElem?_eq_getElem hlt]; rfl
      · rw [if_neg hlt, Array.getElem?_eq_none (by omega)]; rfl
    · rw [if_neg h, if_neg (by simpa using h)]
theorem put_size (dst : Option Nat) (v : Value) : (a.put dst v).tmps.size = a.tmps.size := by cases dst <;> simp [Act.put]
theorem set_getD {i j : Nat} (h : listed.getD i true = false) : (listed.setIfInBounds i true).getD j false = true ↔ i = j ∨ listed.getD j false = true := by
  have hi : i < listed.size := by
    rcases Nat.lt_or_ge i listed.size with h' | h'
    · exact h'
    · rw [Array.getD_eq_getD_getElem?, Array.getElem?_eq_none h'] at h; cases h
  rw [Array.getD_eq_getD_getElem?, Array.getElem?_setIfInBounds]
  by_cases hij : i = j
  · subst hij; rw [if_pos rfl, if_pos hi]; simp
  · rw [if_neg hij]; simp [hij]

theorem anc_in (X : DisR P ops dis) (closed : ∀ (i : Nat) (o : Oper), listed.getD i false = true → ops[i]? = some o → ∀ e ∈ o.after, Region.binds .any e = true → listed.getD e.on false = true) :
    ∀ (k i : Nat) (d : DI) (o : Oper), i ≤ k → dis[i]? = some d → ops[i]? = some o → (∀ e ∈ o.after, Region.binds .any e = true → listed.getD e.on false = true) → ∀ j, d.anc.testBit j = true → listed.getD j false = true := by
  intro k
  induction k with
  | zero =>
    intro i d o hk hd ho hp j hj
    obtain ⟨o', ho', _, _, _, h⟩ := X.op i d hd
    rw [ho] at ho'; cases ho'
    obtain ⟨e, he, hb, rfl | ⟨hlt, _⟩⟩ := h j hj
    · exact hp e he hb
    · omega
  | succ k ih =>
    intro i d o hk hd ho hp j hj
    obtain ⟨o', ho', _, _, _, h⟩ := X.op i d hd
    rw [ho] at ho'; cases ho'
    obtain ⟨e, he, hb, rfl | ⟨hlt, d', hd', hj'⟩⟩ := h j hj
    · exact hp e he hb
    · obtain ⟨o2, ho2, _⟩ := X.op _ d' hd'
      exact ih e.on d' o2 (by omega) hd' ho2 (closed _ _ (hp e he hb) ho2) j hj'

theorem InvW.step (I : InvW Y P B0 ops ρ0 F0 w0 a0 listed a w x ρ F cb) (hi : dis[i]? = some d) (ho : ops[i]? = some o) (hnf : d.kd ≠ .flt) (hil : listed.getD i true = false)
    (hp : ∀ e ∈ o.after, Region.binds .any e = true → listed.getD e.on false = true) (hok : Y.ok x1) (hx1 : (x1 = x ∧ d.kd.isMv = false) ∨ (Y.dn x1 = Nat.lor (bit i) (Y.dn x) ∧ d.kd = .mov))
    (st1 : Stp (Rr P) B0 ρ F w (Y.mem x) ρ1 F1 w1 (Y.mem x1)) {v : Value} (hv : VR ρ1 F1 w1 (Y.mem x1) v (Y.val i)) (hdst : d.io.dst = o.dst) :
    InvW Y P B0 ops ρ0 F0 w0 a0 (listed.setIfInBounds i true) (a.put o.dst v) w1 x1 ρ1 F1 cb := by
  have L1 : ∀ j, (listed.setIfInBounds i true).getD j false = true ↔ i = j ∨ listed.getD j false = true := fun j => set_getD hil
  have hbit : ∀ j, (Y.dn x1).testBit j = true ↔ (d.kd = .mov ∧ i = j) ∨ (Y.dn x).testBit j = true := fun j => by
    rcases hx1 with ⟨rfl, hm⟩ | ⟨hdn, hm⟩
    · constructor
      · exact .inr
      · rintro (⟨h, _⟩ | h)
        · rw [h] at hm; cases hm
        · exact h
    · rw [hdn, testBit_lor', testBit_bit]; simp [hm]
  have nl : ∀ j, (listed.setIfInBounds i true).getD j false = false → i ≠ j ∧ listed.getD j false = false := fun j hj => by
    constructor
    · intro e; rw [(L1 j).2 (.inl e)] at hj; cases hj
    · cases h : listed.getD j false with
      | false => rfl
      | true => rw [(L1 j).2 (.inr h)] at hj; cases hj
  have nb : ∀ j, (Y.dn x1).testBit j = false → (Y.dn x).testBit j = false := fun j hj => by
    cases h : (Y.dn x).testBit j with
    | false => rfl
    | true => rw [(hbit j).2 (.inr h)] at hj; cases hj
  have other : ∀ (j : Nat) (e : DI) (t : Nat), dis[j]? = some e → e.io.dst = some t → i ≠ j → (a.put o.dst v).tmps[t]? = a.tmps[t]? := fun j e t he ht hij => by
    rw [put_get, if_neg (fun h => hij (Y.dists i j d e t hi he (hdst.trans h) ht))]
  have oldl : ∀ j e, dis[j]? = some e → e.kd = .flt → (listed.setIfInBounds i true).getD j false = true → i ≠ j ∧ listed.getD j false = true := fun j e he hf hl => by
    have hij : i ≠ j := fun h => by subst h; rw [hi] at he; cases he; exact hnf hf
    exact ⟨hij, ((L1 j).1 hl).resolve_left hij⟩
  refine ⟨hok, by simp [I.size], fun j oj hj hoj e he hb => ?_, fun j e he hm hj => ?_, fun j hj => ?_, I.st.trans st1, (put_defers ..).trans I.dfr, (put_size ..).trans I.tsz, fun t ht => ?_, fun j e t c he ht hj hdn hc => ?_, fun j e he hf hl hn => ?_, fun j k dj ek hdj hfj hlj hnj hek hfk hlk hnk => ?_⟩
  · refine (L1 _).2 (.inr ?_)
    rcases (L1 j).1 hj with rfl | h
    · rw [ho] at hoj; cases hoj; exact hp e he hb
    · exact I.closed j oj h hoj e he hb
  · rcases (L1 j).1 hj with rfl | h
    · rw [hi] at he; cases he; exact (hbit _).2 (.inl ⟨hm, rfl⟩)
    · exact (hbit _).2 (.inr (I.mv j e he hm h))
  · rcases (hbit j).1 hj with ⟨_, h⟩ | h
    · exact (L1 j).2 (.inl h)
    · exact (L1 j).2 (.inr (I.dnl j h))
  · rw [put_get, if_neg (fun h => ?_)]
    · exact I.old t fun j e he hd => (nl j (ht j e he hd)).2
    · exact (nl i (ht i d hi (hdst.trans h))).1 rfl
  · by_cases hij : i = j
    · subst hij
      rw [hi] at he; cases he
      rw [put_get, if_pos (hdst.symm.trans ht)] at hc
      rw [Option.map_eq_some_iff] at hc
      obtain ⟨_, _, rfl⟩ := hc
      exact hv
    · rw [other j e t he ht hij] at hc
      exact (I.vals j e t c he ht (((L1 j).1 hj).resolve_left hij) (fun hf => ((hbit j).1 (hdn hf)).resolve_left (fun h => hij h.2)) hc).le st1.le I.st.mr
  · obtain ⟨hij, hl'⟩ := oldl j e he hf hl
    exact (I.pend j e he hf hl' (nb j hn)).step st1 I.st.mr (fun t ht => other j e t he ht hij)
  · exact I.pinj j k dj ek hdj hfj (oldl j dj hdj hfj hlj).2 (nb j hnj) hek hfk (oldl k ek hek hfk hlk).2 (nb k hnk)

theorem InvW.early (I : InvW Y P B0 ops ρ0 F0 w0 a0 listed a w x ρ F cb) (hi : dis[i]? = some d) (ho : ops[i]? = some o) (hf : d.kd = .flt) (hil : listed.getD i true = false)
    (hp : ∀ e ∈ o.after, Region.binds .any e = true → listed.getD e.on false = true) (hdst : d.io.dst = o.dst) {c : Value} {cs : Array Value} {ty : TypeId} {cells : List V} {f : Nat → V}
    (h1 : fltOf cx.glob d.io.op (Y.env i) = some (cells, f)) (h2 : VRs ρ F w (Y.mem x) cs cells) (h3 : cells.all V.one = true) (h4 : Lnk w.heap.size cs c f) :
    ∃ cb', InvW Y P B0 ops ρ0 F0 w0 a0 (listed.setIfInBounds i true) (a.put o.dst c) (w.alloc (.cells cs ty (0, 0))) x ρ F cb' := by
  have L1 : ∀ j, (listed.setIfInBounds i true).getD j false = true ↔ i = j ∨ listed.getD j false = true := fun j => set_getD hil
  have nl : ∀ j, (listed.setIfInBounds i true).getD j false = false → i ≠ j ∧ listed.getD j false = false := fun j hj => by
    constructor
    · intro e; rw [(L1 j).2 (.inl e)] at hj; cases hj
    · cases h : listed.getD j false with
      | false => rfl
      | true => rw [(L1 j).2 (.inr h)] at hj; cases hj
  have hni : listed.getD i false = false := by
    have : listed.getD i false = true → False := fun h => by
      rw [Array.getD_eq_getD_getElem?] at h hil
      cases hg : listed[i]? with
      | none => rw [hg] at h; cases h
      | some b => rw [hg] at h hil; simp at h hil; rw [h] at hil; cases hil
    cases h : listed.getD i false with
    | false => rfl
    | true => exact absurd h this
  have hdi : (Y.dn x).testBit i = false := by
    cases h : (Y.dn x).testBit i with
    | false => rfl
    | true => rw [I.dnl i h] at hni; cases hni
  have other : ∀ (j : Nat) (e : DI) (t : Nat), dis[j]? = some e → e.io.dst = some t → i ≠ j → (a.put o.dst c).tmps[t]? = a.tmps[t]? := fun j e t he ht hij => by
    rw [put_get, if_neg (fun h => hij (Y.dists i j d e t hi he (hdst.trans h) ht))]
  have st1 := Stp.garbage I.st.mr (.cells cs ty (0, 0))
  have m := I.st.mr
  refine ⟨fun j => if j = i then w.heap.size else cb j, I.ok, by simp [I.size], fun j oj hj hoj e he hb => ?_, fun j e he hm hj => ?_, fun j hj => (L1 j).2 (.inr (I.dnl j hj)), I.st.trans st1, (put_defers ..).trans I.dfr, (put_size ..).trans I.tsz, fun t ht => ?_, fun j e t c' he ht hj hdn hc => ?_, fun j e he hfj hl hn => ?_, fun j k dj ek hdj hfj hlj hnj hek hfk hlk hnk => ?_⟩
  · refine (L1 _).2 (.inr ?_)
    rcases (L1 j).1 hj with rfl | h
    · rw [ho] at hoj; cases hoj; exact hp e he hb
    · exact I.closed j oj h hoj e he hb
  · rcases (L1 j).1 hj with rfl | h
    · rw [hi] at he; cases he; rw [hf] at hm; cases hm
    · exact I.mv j e he hm h
  · rw [put_get, if_neg (fun h => ?_)]
    · exact I.old t fun j e he hd => (nl j (ht j e he hd)).2
    · exact (nl i (ht i d hi (hdst.trans h))).1 rfl
  · have hij : i ≠ j := fun h => by subst h; rw [hi] at he; cases he; rw [hdn hf] at hdi; cases hdi
    rw [other j e t he ht hij] at hc
    exact (I.vals j e t c' he ht (((L1 j).1 hj).resolve_left hij) hdn hc).le st1.le m
  · by_cases hij : i = j
    · subst hij
      rw [hi] at he; cases he
      simp only [if_true]
      refine ⟨I.st.le.heap, by rw [World.size_alloc]; omega, fun b hb e' => ?_, fun off hF => ?_, cs, ty, cells, f, h1, World.alloc_heap_new w _, h2.le st1.le m, h3, fun t c' ht hc => ?_⟩
      · have := m.lt b hb; omega
      · have := m.frolt _ _ hF; omega
      · rw [put_get, if_pos (hdst.symm.trans ht), Option.map_eq_some_iff] at hc
        obtain ⟨_, _, rfl⟩ := hc
        exact h4
    · simp only [if_neg (Ne.symm hij)]
      exact (I.pend j e he hfj (((L1 j).1 hl).resolve_left hij) hn).step st1 m (fun t ht => other j e t he ht hij)
  · have lt : ∀ (j : Nat) (e : DI), dis[j]? = some e → e.kd = .flt → (listed.setIfInBounds i true).getD j false = true → (Y.dn x).testBit j = false → i ≠ j → cb j < w.heap.size := fun j e he hfj hl hn hij =>
      (I.pend j e he hfj (((L1 j).1 hl).resolve_left hij) hn).2.1
    intro hcb
    by_cases hj : j = i <;> by_cases hk : k = i
    · rw [hj, hk]
    · simp only [if_pos hj, if_neg hk] at hcb
      have := lt k ek hek hfk hlk hnk (Ne.symm hk); omega
    · simp only [if_neg hj, if_pos hk] at hcb
      have := lt j dj hdj hfj hlj hnj (Ne.symm hj); omega
    · simp only [if_neg hj, if_neg hk] at hcb
      exact I.pinj j k dj ek hdj hfj (((L1 j).1 hlj).resolve_left (Ne.symm hj)) hnj hek hfk (((L1 k).1 hlk).resolve_left (Ne.symm hk)) hnk hcb

end
end Go.Ax
