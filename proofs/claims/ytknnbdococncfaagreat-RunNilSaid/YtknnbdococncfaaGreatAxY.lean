/- Part Y: a region that draws its order is sound. -/
import Derived.Test.YtknnbdococncfaaGreatAxX
namespace Go.Ax
open Go
noncomputable section
set_option linter.unusedSimpArgs false
set_option linter.unusedVariables false

variable {P : Program} {B0 : Nat} {ρ ρ' ρ'' : Nat → Nat} {F F' F'' : Nat → Nat → Prop} {w w' w'' : World} {M M' M'' : Mem} {a : Act} {cx : Cx} {E E' : T V} {ds ds' : List Nat} {rec : Task → Option Res}

theorem edgeM_sound {acc : List Nat} {j : Nat} : ∀ (l : List Edge), (edgeM acc l).testBit j = true → ∃ e ∈ l, Region.binds .any e = true ∧ (e.on = j ∨ (acc.getD e.on 0).testBit j = true)
  | [], h => by simp [edgeM] at h
  | e :: l, h => by
    have rest : (edgeM acc l).testBit j = true → ∃ e' ∈ e :: l, Region.binds .any e' = true ∧ (e'.on = j ∨ (acc.getD e'.on 0).testBit j = true) := fun h => by
      obtain ⟨e', h1, h2⟩ := edgeM_sound l h
      exact ⟨e', by simp [h1], h2⟩
    simp only [edgeM] at h
    split at h
    · rename_i hb
      rw [testBit_lor', testBit_lor'] at h
      rcases h with h | h | h
      · exact ⟨e, by simp, hb, .inl (testBit_bit.1 h)⟩
      · exact ⟨e, by simp, hb, .inr h⟩
      · exact rest h
    · exact rest h
theorem edgeM_complete {acc : List Nat} : ∀ (l : List Edge) (e : Edge), e ∈ l → Region.binds .any e = true → (edgeM acc l).testBit e.on = true
  | [], e, h, _ => by simp at h
  | c :: l, e, h, hb => by
    simp only [edgeM]
    rcases List.mem_cons.1 h with rfl | h
    · rw [hb]
      simp only
      rw [testBit_lor']; exact .inl (testBit_bit.2 rfl)
    · have := edgeM_complete (acc := acc) l e h hb
      split
      · rw [testBit_lor', testBit_lor']; exact .inr (.inr this)
      · exact this
theorem mkDIs_spec : ∀ (os : List Oper) (ios : List IOper) (acc : List Nat) (j : Nat) (d : DI), (mkDIs os ios acc)[j]? = some d → ∃ o io acc', os[j]? = some o ∧ ios[j]? = some io ∧ d = mkDI o io acc' ∧ acc'.length = acc.length + j ∧
    (∀ m, m < acc.length → acc'[m]? = acc[m]?) ∧ ∀ m, m < j → ∃ d' : DI, (mkDIs os ios acc)[m]? = some d' ∧ acc'[acc.length + m]? = some d'.anc
  | o :: os, io :: ios, acc, j, d, h => by
    simp only [mkDIs] at h ⊢
    cases j with
    | zero =>
      simp at h; subst h
      exact ⟨o, io, acc, rfl, rfl, rfl, rfl, fun _ _ => rfl, fun m hm => absurd hm (by omega)⟩
    | succ j =>
      obtain ⟨o', io', acc', h1, h2, h3, h4, h5, h6⟩ := mkDIs_spec os ios _ j d (by simpa using h)
      simp only [List.length_append, List.length_singleton] at h4 h5 h6
      refine ⟨o', io', acc', by simpa using h1, by simpa using h2, h3, by omega, fun m hm => ?_, fun m hm => ?_⟩
      · rw [h5 m (by omega), List.getElem?_append_left hm]
      · cases m with
        | zero =>
          refine ⟨_, rfl, ?_⟩
          rw [Nat.add_zero, h5 acc.length (by omega)]
          simp [mkDI]
        | succ m =>
          obtain ⟨d', a1, a2⟩ := h6 m (by omega)
          exact ⟨d', by simpa using a1, by rw [← a2]; congr 1; omega⟩
  | [], _, _, j, d, h => by simp [mkDIs] at h
  | _ :: _, [], _, j, d, h => by simp [mkDIs] at h
theorem mkDIs_length : ∀ (os : List Oper) (ios : List IOper) (acc : List Nat), os.length = ios.length → (mkDIs os ios acc).length = os.length
  | [], [], _, _ => rfl
  | o :: os, io :: ios, acc, h => by simp only [mkDIs, List.length_cons]; rw [mkDIs_length os ios _ (by simpa using h)]
  | [], _ :: _, _, h => by simp at h
  | _ :: _, [], _, h => by simp at h

theorem disR_of {ops : Array Oper} {ios : List IOper} (h : rsOps P ops = some ios) : DisR P ops (mkDIs ops.toList ios []) := by
  obtain ⟨h1, h2⟩ := mapM_get h
  refine ⟨by rw [mkDIs_length _ _ _ h1]; simp, fun i d hd => ?_⟩
  obtain ⟨o, io, acc, a1, a2, rfl, a4, _, a6⟩ := mkDIs_spec _ _ _ _ _ hd
  simp only [List.length_nil, Nat.zero_add] at a4 a6
  refine ⟨o, by simpa using a1, h2 i o io a1 a2, rfl, fun e he hb => edgeM_complete _ e (by simpa using he) hb, fun j hj => ?_⟩
  obtain ⟨e, he, hb, hj'⟩ := edgeM_sound _ hj
  refine ⟨e, by simpa using he, hb, hj'.imp id fun hj' => ?_⟩
  rcases Nat.lt_or_ge e.on i with hlt | hge
  · obtain ⟨d', b1, b2⟩ := a6 e.on hlt
    refine ⟨hlt, d', b1, ?_⟩
    rw [List.getD_eq_getElem?_getD, b2] at hj'
    exact hj'
  · rw [List.getD_eq_getElem?_getD, List.getElem?_eq_none (by omega)] at hj'
    simp at hj'

theorem draw_sound (T : TR P cx) (K : Keeps P cx rec) {id : Nat} {ops : Array Oper} {rd : Bool} {x : X} (h : step cx rec (.code rd (rsCode P (.region id ops true)) E ds M) = some (.code x E' ds' M')) {ro : Option Nat} (m : MR (Rr P) B0 ρ F w M) (g : GRel cx ρ F w M)
    (he : ER ρ F w M a.tmps E) (hd : DR ρ M a.defers ds) : (Code.region id ops true).wpIn (W ro) 0 P (CodeP P B0 ρ F w M x E' ds' M') a w := by
  simp only [rsCode] at h
  split at h
  · rename_i ios hios
    unfold drawOf drawWith at h
    split at h
    · rename_i hchk
      have h : sDraw cx rec ((planOf (mkDIs ops.toList ios [])).map (toStep (mkDIs ops.toList ios []))) ((mkDIs ops.toList ios []).filterMap (·.io.dst)) E ds M = some (.code x E' ds' M') := h
      unfold sDraw at h
      split at h
      · rename_i E1 M1 hr
        cases h
        have X := disR_of hios
        obtain ⟨Y⟩ := facts_of hchk (fun i d hd => (X.op i d hd).choose_spec.2.2.1) hr
        have st0 : Stp (Rr P) B0 ρ F w M ρ F { w with drawn := w.drawn + 1 } M := Stp.same m rfl rfl rfl rfl
        refine wpIn_region_any T.mixed (draw_any K X Y st0.mr (g.le st0.le m) (he.le st0.le m) fun a' ρ' F' w' st hv hdd => ⟨rfl, ρ', F', st0.trans st, hv, ?_⟩)
        rw [hdd]; exact hd.le (st0.trans st).le
      · cases h
    · cases h
  · cases h

end
end Go.Ax
