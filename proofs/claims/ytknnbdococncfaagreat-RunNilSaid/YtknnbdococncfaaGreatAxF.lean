/- Part F: the operations that look at no memory are sound (2). -/
import Derived.Test.YtknnbdococncfaaGreatAxE
namespace Go.Ax
open Go
set_option linter.unusedSimpArgs false
set_option linter.unusedVariables false

variable {P : Program} {R : RsT} {B0 : Nat} {ρ ρ' : Nat → Nat} {F F' : Nat → Nat → Prop} {w w' : World} {M M' : Mem} {a : Act} {ev : Ev}

theorem VRs.sub {cs : Array Value} {ds : List V} (h : VRs ρ F w M cs ds) (off n : Nat) (hle : off + n ≤ ds.length) : VRs ρ F w M (cs.extract off (off + n)) ((ds.drop off).take n) := by
  refine ⟨by simp [h.1]; omega, fun i c d hc hd => ?_⟩
  rw [List.getElem?_take] at hd
  split at hd
  · rename_i hi
    rw [List.getElem?_drop] at hd
    rw [Array.getElem?_extract] at hc
    split at hc
    · exact h.2 _ c d hc hd
    · cases hc
  · cases hd

theorem subV_sound {t : TypeId} {g : Bool} {n off : Nat} {cs : Array Value} {ds : List V} {r : V} (hg : aggOf P t = some g) (hn : szOf P t = some n) (hv : VRs ρ F w M cs ds)
    (h : subV g ds off n = some r) : ∃ v, (∀ w0, (part t cs off).run P w0 = .ok v w0) ∧ VR ρ F w M v r := by
  unfold subV at h
  unfold part
  cases g with
  | true =>
    rw [cond_true] at h
    cases hb : Nat.ble (off + n) ds.length with
    | false => rw [hb, cond_false] at h; cases h
    | true =>
      rw [hb, cond_true] at h; cases h
      have hle := Nat.le_of_ble_eq_true hb
      exact ⟨_, fun w0 => by simp [run_aggOf hg, run_szOf hn], .of_agg (hv.sub off n hle)⟩
  | false =>
    rw [cond_false] at h
    obtain ⟨c, hc, r⟩ := hv.get h
    exact ⟨c, fun w0 => by simp [run_aggOf hg, hc], r⟩

theorem sEq_sound {kd : Nat} {d e : V} {b : Bool} {x y : Value} (hx : VR ρ F w M x d) (hy : VR ρ F w M y e) (h : sEq kd d e = some b) {t : TypeId} (ht : scalarK P t = some kd)
    (k : Nat) (w0 : World) : (Op.equalIn (k + 1) t x y).run P w0 = .ok b w0 := by
  unfold scalarK at ht
  unfold sEq at h
  split at h
  · split at h
    · rename_i hk; subst hk; cases h
      have := hx.int_inv; subst this
      have := hy.int_inv; subst this
      cases hu : P.underlying t with
      | none => simp [hu] at ht
      | some d => cases d <;> simp [hu] at ht <;> simp [Op.equalIn, run_underlying hu]
    · cases h
  · cases h
    have := hx.bool_inv; subst this
    have := hy.bool_inv; subst this
    cases hu : P.underlying t with
    | none => simp [hu] at ht
    | some d => cases d <;> simp [hu] at ht <;> simp [Op.equalIn, run_underlying hu]
  · cases h
    obtain ⟨s, rfl, rfl⟩ := hx.str_inv
    obtain ⟨s', rfl, rfl⟩ := hy.str_inv
    cases hu : P.underlying t with
    | none => simp [hu] at ht
    | some d =>
      cases d <;> simp [hu] at ht <;> simp only [Op.equalIn, Sem.run_bind, run_underlying hu, Result.andThen_ok, Sem.run_pure]
      rw [beq_toListBytes, toList_ba, toList_ba]
  · cases h

/-- The fields of a flat struct, one by one. -/
theorem eqFields_flat {k : Nat} {xs ys : Array Value} {ds es : List V} (hx : VRs ρ F w M xs ds) (hy : VRs ρ F w M ys es) (w0 : World) :
    ∀ (fs : List Field) (ks : List Nat) (n : Nat) (b : Bool), (∀ (i : Nat) f, fs[i]? = some f → f.name ≠ "_" ∧ f.offset = n + i) → fs.mapM (fun f => scalarK P f.type) = some ks → sEqs ks (ds.drop n) (es.drop n) = some b →
      (Op.eqFields (k + 1) xs ys fs).run P w0 = .ok b w0 := by
  intro fs
  induction fs with
  | nil =>
    intro ks n b _ hm h
    simp at hm; subst hm
    unfold sEqs at h
    split at h <;> simp_all [Op.eqFields]
  | cons f fs ih =>
    intro ks n b hf hm h
    obtain ⟨hl, hget⟩ := mapM_get hm
    simp only [List.mapM_cons, Option.bind_eq_bind, Option.bind_eq_some_iff, Option.pure_def, Option.some.injEq] at hm
    obtain ⟨kd, hkd, ks', hks', rfl⟩ := hm
    obtain ⟨hnm, hoff⟩ := hf 0 f rfl
    rw [Nat.add_zero] at hoff
    unfold sEqs at h
    split at h
    · rename_i heq _ _; simp at heq
    · rename_i kd' ks'' x xs' y ys' h1 h2 h3
      simp only [List.cons.injEq] at h1
      obtain ⟨rfl, rfl⟩ := h1
      have dx : ds[n]? = some x := by have := congrArg List.head? h2; simpa [List.head?_drop] using this
      have ey : es[n]? = some y := by have := congrArg List.head? h3; simpa [List.head?_drop] using this
      have dt : ds.drop (n + 1) = xs' := by have := congrArg List.tail h2; simpa [List.tail_drop] using this
      have et : es.drop (n + 1) = ys' := by have := congrArg List.tail h3; simpa [List.tail_drop] using this
      obtain ⟨vx, hvx, rx⟩ := hx.get dx
      obtain ⟨vy, hvy, ry⟩ := hy.get ey
      have ag : aggOf P f.type = some false := by
        unfold scalarK at hkd
        unfold aggOf
        cases hu : P.underlying f.type with
        | none => simp [hu] at hkd
        | some d => cases d <;> simp [hu] at hkd <;> rfl
      have p1 : (part f.type xs f.offset).run P w0 = .ok vx w0 := by unfold part; simp [run_aggOf ag, hoff, hvx]
      have p2 : (part f.type ys f.offset).run P w0 = .ok vy w0 := by unfold part; simp [run_aggOf ag, hoff, hvy]
      have hrest : ∀ b', sEqs ks' xs' ys' = some b' → (Op.eqFields (k + 1) xs ys fs).run P w0 = .ok b' w0 := fun b' hb' =>
        ih ks' (n + 1) b' (fun i g hg => by obtain ⟨a1, a2⟩ := hf (i + 1) g (by simpa using hg); exact ⟨a1, by omega⟩) hks' (by rw [dt, et]; exact hb')
      cases hq : sEq kd x y with
      | none => rw [hq] at h; cases h
      | some q =>
        have hrun := sEq_sound rx ry hq hkd k w0
        rw [hq] at h
        cases q with
        | true => simp [Op.eqFields, hnm, p1, p2, hrun, hrest b h]
        | false => cases h; simp [Op.eqFields, hnm, p1, p2, hrun]
    · cases h

theorem cutOne_sound {dflt most : Nat} {o : Option Operand} {o' : Option IArg} {n : Nat} (he : EvR ρ F w M a ev) (ho : rsOpt o = some o') (h : cutOne ev dflt most o' = some n) :
    match (generalizing := false) o with
    | none => n = dflt
    | some x => ∃ (k : IntKind) (i : Int), a.eval x = .int k i ∧ 0 ≤ i ∧ i ≤ most ∧ n = i.toNat := by
  cases o with
  | none => simp [rsOpt] at ho; subst ho; simp [cutOne] at h; exact h.symm
  | some x =>
    simp only [rsOpt, Option.map_eq_some_iff] at ho
    obtain ⟨xi, hxi, rfl⟩ := ho
    simp only [cutOne] at h
    split at h
    · rename_i k i hev
      split at h
      · rename_i hb
        have hx := he x xi hxi
        rw [hev] at hx
        exact ⟨k, i, hx.int_inv, hb.1, hb.2, by simpa using h.symm⟩
      · cases h
    · cases h
theorem cutB_sound {isS : Bool} {len cap : Nat} {lo hi : Option Operand} {lo' hi' : Option IArg} {l h' : Nat} (he : EvR ρ F w M a ev) (hlo : rsOpt lo = some lo') (hhi : rsOpt hi = some hi')
    (h : cutB ev len lo' hi' = some (l, h')) (hc : len ≤ cap) (w0 : World) :
    (Instr.sliceBounds isS len cap (lo.map a.eval) (hi.map a.eval) none).run P w0 = .ok (l, h', cap) w0 ∧ l ≤ h' ∧ h' ≤ len := by
  unfold cutB at h
  cases h1 : cutOne ev len len hi' with
  | none => rw [h1] at h; cases h
  | some hv =>
    rw [h1] at h
    simp only at h
    cases h2 : cutOne ev 0 hv lo' with
    | none => rw [h2] at h; cases h
    | some lv =>
      rw [h2] at h
      cases h
      have s1 := cutOne_sound he hhi h1
      have s2 := cutOne_sound he hlo h2
      have hle : h' ≤ len := by
        cases hi with
        | none => simp only at s1; omega
        | some x => obtain ⟨k, i, _, _, _, rfl⟩ := s1; omega
      have lle : l ≤ h' := by
        cases lo with
        | none => simp only at s2; omega
        | some x => obtain ⟨k, i, _, _, _, rfl⟩ := s2; omega
      refine ⟨?_, lle, hle⟩
      unfold Instr.sliceBounds
      cases hi with
      | none =>
        simp only at s1; subst s1
        cases lo with
        | none => simp only at s2; subst s2; rfl
        | some y =>
          obtain ⟨k, i, e1, e2, e3, e4⟩ := s2
          simp only [Option.map_none, Option.map_some, Sem.run_bind, Sem.run_pure, Result.andThen_ok, e1, Instr.sliceBound, asIntOf]
          rw [if_pos ⟨e2, e3⟩, e4]; rfl
      | some x =>
        obtain ⟨k, i, e1, e2, e3, e4⟩ := s1
        have e3' : i ≤ (cap : Int) := by omega
        cases lo with
        | none =>
          simp only at s2; subst s2
          simp only [Option.map_none, Option.map_some, Sem.run_bind, Sem.run_pure, Result.andThen_ok, e1, Instr.sliceBound, asIntOf]
          rw [if_pos ⟨e2, e3'⟩, e4]; rfl
        | some y =>
          obtain ⟨k', j, f1, f2, f3, f4⟩ := s2
          simp only [Option.map_some, Sem.run_bind, Sem.run_pure, Result.andThen_ok, e1, f1, Instr.sliceBound, asIntOf]
          rw [if_pos ⟨e2, e3'⟩, ← e4]
          simp only [Sem.run_pure, Result.andThen_ok]
          rw [if_pos ⟨f2, f3⟩, f4]; rfl

end Go.Ax
