/- Part J: append. -/
import Derived.Test.YtknnbdococncfaaGreatAxI
namespace Go.Ax
open Go
set_option linter.unusedSimpArgs false
set_option linter.unusedVariables false

variable {P : Program} {R : RsT} {B0 : Nat} {ρ ρ' : Nat → Nat} {F F' : Nat → Nat → Prop} {w w' : World} {M M' : Mem} {a : Act} {ev : Ev}

theorem flatMap_get {sz : Nat} (h0 : 0 < sz) : ∀ (es : List V) (k : Nat), (∀ d ∈ es, d.cells.length = sz) → (es.flatMap V.cells)[k]? = (es[k / sz]?).bind fun d => d.cells[k % sz]?
  | [], k, _ => by simp
  | d :: es, k, h => by
    have hd : d.cells.length = sz := h d (by simp)
    rw [List.flatMap_cons]
    by_cases hk : k < sz
    · rw [List.getElem?_append_left (by omega), Nat.div_eq_of_lt hk, Nat.mod_eq_of_lt hk]; rfl
    · rw [List.getElem?_append_right (by omega), hd, flatMap_get h0 es (k - sz) (fun x hx => h x (by simp [hx]))]
      have e1 : k / sz = (k - sz) / sz + 1 := by rw [← Nat.div_eq_sub_div h0 (by omega)]
      rw [e1, List.getElem?_cons_succ, Nat.mod_eq_sub_mod (by omega : k ≥ sz)]
theorem flatMap_length {sz : Nat} : ∀ (es : List V), (∀ d ∈ es, d.cells.length = sz) → (es.flatMap V.cells).length = es.length * sz
  | [], _ => by simp
  | d :: es, h => by
    have hd : d.cells.length = sz := h d (by simp)
    rw [List.flatMap_cons, List.length_append, hd, flatMap_length es (fun x hx => h x (by simp [hx])), List.length_cons, Nat.succ_mul]; omega

theorem cell_heap {w1 : World} (h : w1.heap = w.heap) (p : Addr) : w1.cell? p = w.cell? p := by simp only [World.cell?, h]

/-- The cells of a row's elements, as the machine reads them. -/
theorem rowCells_sound (m : MR R B0 ρ F w M) {v : Value} {d : V} {sz n : Nat} {yc : List V} (h0 : sz ≠ 0) (hv : VR ρ F w M v d) (h : rowCells M sz d = some (yc, n)) :
    ∃ vs : List Value, (∀ w1, (Builtin.lenOf v).run P w1 = .ok n w1) ∧ (∀ w1, w1.heap = w.heap → (Builtin.firstCells sz n v).run P w1 = .ok vs.toArray w1) ∧ vs.length = yc.length ∧ yc.length = n * sz ∧ yc.all V.one = true ∧
      ∀ (i : Nat) c e, vs[i]? = some c → yc[i]? = some e → VR ρ F w M c e := by
  have rd : ∀ (cb off k : Nat) (vs : List Value) (w1 : World), vs.length = k → w1.heap = w.heap → (∀ (j : Nat) c, vs[j]? = some c → w.cell? ⟨cb, off + j, none⟩ = some c) → (loadCells ⟨cb, off, none⟩ k).run P w1 = .ok vs.toArray w1 := fun cb off k vs w1 hk hw hc => by
    have := run_loadCells_list (P := P) w1 ⟨cb, off, none⟩ vs (fun j c hj => by rw [addr_add, cell_heap hw]; exact hc j c hj)
    rw [← hk]; exact this
  unfold rowCells at h
  split at h
  · cases h; cases hv
    exact ⟨[], fun _ => rfl, fun _ _ => rfl, rfl, by simp, rfl, fun i c e hc => by simp at hc⟩
  · rename_i b off len s
    split at h
    · rename_i hs; subst hs
      split at h
      · rename_i ex cells hM
        cases hb : Nat.ble (off + len * s) cells.length with
        | false => rw [hb, cond_false] at h; cases h
        | true =>
          rw [hb, cond_true] at h; cases h
          have hle := Nat.le_of_ble_eq_true hb
          obtain ⟨cs, e, h1, h2, h3, h5⟩ := m.arr hM
          cases hv with
          | sref p cap _ _ _ _ q1 q0 q2 =>
            obtain ⟨r1, _⟩ := q2 (by rw [hM]; simp)
            have hlen : ((cells.drop off).take (n * s)).length = n * s := by simp; omega
            have hvl : ((cs.toList.drop off).take (n * s)).length = n * s := by simp; omega
            refine ⟨(cs.toList.drop off).take (n * s), fun _ => rfl, fun w1 hw => ?_, by omega, hlen, ?_, fun i c e hc he => ?_⟩
            · simp only [Builtin.firstCells]
              by_cases hn : n = 0
              · subst hn; simp [loadCells, loadCellsFrom]
              · rw [r1 (by omega)]
                exact rd _ _ _ _ w1 hvl hw (fun j c hj => by
                  rw [List.getElem?_take] at hj
                  split at hj
                  · rw [List.getElem?_drop] at hj
                    rw [cell_of h1]; simpa using hj
                  · cases hj)
            · rw [List.all_eq_true]
              intro x hx
              obtain ⟨i, hi⟩ := List.mem_iff_getElem?.1 (List.mem_of_mem_drop (List.mem_of_mem_take hx))
              obtain ⟨_, _, _, q⟩ := h5 i x hi
              exact q
            · rw [List.getElem?_take] at hc he
              split at hc
              · rw [if_pos (by assumption), List.getElem?_drop] at he
                rw [List.getElem?_drop] at hc
                obtain ⟨v, a1, a2, _⟩ := h5 _ e he
                have : c = v := by
                  have : cs[off + i]? = some c := by simpa using hc
                  rw [this] at a1; cases a1; rfl
                subst this; exact a2
              · cases hc
      · cases h
    · cases h
  · rename_i es
    cases hb : es.all (fun d => Nat.beq d.cells.length sz && d.cells.all V.one) with
    | false => rw [hb, cond_false] at h; cases h
    | true =>
      rw [hb, cond_true] at h; cases h
      rw [List.all_eq_true] at hb
      have hsz : ∀ d ∈ es, d.cells.length = sz := fun d hd => by
        have := hb d hd; rw [Bool.and_eq_true] at this; exact Nat.eq_of_beq_eq_true this.1
      have hlen := flatMap_length es hsz
      have hpos : 0 < sz := by omega
      cases hv with
      | fsl cb off cap sz' _ xx hle hc hr =>
        have hget : ∀ (k : Nat) c, (es.flatMap V.cells)[k]? = some c → ∃ d, es[k / sz]? = some d ∧ d.cells[k % sz]? = some c := fun k c hk => by
          rw [flatMap_get hpos es k hsz] at hk
          cases hd : es[k / sz]? with
          | none => simp [hd] at hk
          | some d => simp [hd] at hk; exact ⟨d, rfl, hk⟩
        have hs : ∀ i d, es[i]? = some d → sz' = sz := fun i d hd => by rw [← (hc i d hd).1]; exact hsz d (List.mem_of_getElem? hd)
        refine ⟨(List.range (es.length * sz)).map fun k => xx (k / sz) (k % sz), fun _ => rfl, fun w1 hw => ?_, by simp [hlen], hlen, ?_, fun i c e hc' he => ?_⟩
        · simp only [Builtin.firstCells]
          refine rd _ _ _ _ w1 (by simp) hw (fun j c hj => ?_)
          simp only [List.getElem?_map, Option.map_eq_some_iff] at hj
          obtain ⟨k, hk, rfl⟩ := hj
          have hlt : j < es.length * sz := by have := (List.getElem?_eq_some_iff.1 hk).1; simpa using this
          have : k = j := by rw [List.getElem?_range hlt] at hk; simpa using hk.symm
          subst this
          obtain ⟨d, d1, d2⟩ := hget k _ (List.getElem?_eq_getElem (by omega))
          have := ((hc _ d d1).2 _ _ d2).2
          rw [hs _ d d1] at this
          rw [← this]
          have := Nat.div_add_mod k sz
          rw [Nat.mul_comm] at this
          rw [Nat.add_assoc, this]
        · rw [List.all_eq_true]
          intro x hx
          obtain ⟨d, d1, d2⟩ := List.mem_flatMap.1 hx
          have := hb d d1; rw [Bool.and_eq_true] at this
          exact List.all_eq_true.1 this.2 x d2
        · obtain ⟨d, d1, d2⟩ := hget i e he
          simp only [List.getElem?_map, Option.map_eq_some_iff] at hc'
          obtain ⟨k, hk, rfl⟩ := hc'
          have hlt : i < es.length * sz := by have := (List.getElem?_eq_some_iff.1 hk).1; simpa using this
          have : k = i := by rw [List.getElem?_range hlt] at hk; simpa using hk.symm
          subst this
          exact hr _ d _ e d1 d2
  · rename_i s
    split at h
    · rename_i hs; subst hs
      cases h
      obtain ⟨s', rfl, rfl⟩ := hv.str_inv
      refine ⟨s'.data.toList.map fun b => .int .u8 b.toNat, fun _ => rfl, fun w1 _ => ?_, by simp, by simp, by rw [List.all_eq_true]; intro x hx; obtain ⟨b, _, rfl⟩ := List.mem_map.1 hx; rfl, fun i c e hc he => ?_⟩
      · simp only [Builtin.firstCells, Sem.run_pure]
        congr 1
        apply Array.ext'
        have hl : s'.data.toList.length = s'.data.size := Array.length_toList
        rw [ByteArray.data_extract, Array.toList_map, Array.toList_extract, List.extract_eq_take_drop, List.drop_zero, Nat.sub_zero, hl, List.take_of_length_le (by rw [hl]; exact Nat.le_refl _)]
      · simp only [List.getElem?_map, Option.map_eq_some_iff] at hc he
        obtain ⟨x, hx, rfl⟩ := hc
        obtain ⟨y, hy, rfl⟩ := he
        rw [hx] at hy; cases hy
        exact .int _ _
    · cases h
  · cases h

end Go.Ax

namespace Go.Ax
open Go
variable {P : Program} {R : RsT} {B0 : Nat} {ρ ρ' : Nat → Nat} {F F' : Nat → Nat → Prop} {w w' : World} {M M' : Mem} {a : Act} {ev : Ev}

theorem nextcap_le (n c : Nat) (h : c < n) : Builtin.nextslicecap n c ≤ 2 * n + 192 := by
  have grow : ∀ (k c : Nat), c ≤ 2 * n + 192 → Builtin.growBy n k c ≤ 2 * n + 192 := by
    intro k
    induction k with
    | zero => intro c hc; exact hc
    | succ k ih =>
      intro c hc
      unfold Builtin.growBy
      split
      · exact hc
      · exact ih _ (by omega)
  unfold Builtin.nextslicecap
  split
  · omega
  · split
    · omega
    · exact grow 4 c (by omega)

theorem run_ti {t : TypeId} {i : TypeInfo} (h : P.info? t = some i) (w : World) : (typeInfo t).run P w = .ok i w := by simp [typeInfo, h]

structure AppTys (P : Program) (tys : Array TypeId) (e : TypeId) (sz bytes : Nat) (z : List V) : Prop where
  t0 : ∃ t, tys[0]? = some t ∧ P.underlying t = some (.slice e)
  t1 : ∃ t d, tys[1]? = some t ∧ P.underlying t = some d ∧ (match d with | .int _ => false | _ => true) = true
  hsz : szOf P e = some sz
  hbytes : bytesOf' P e = some bytes
  hzero : zeroCells' P e = some z
  zlen : z.length = sz
  sz0 : sz ≠ 0
  b0 : bytes ≠ 0
  b1 : bytes ≤ 1048576

theorem append_run {tys : Array TypeId} {ty e : TypeId} {sz bytes : Nat} {z : List V} (T : AppTys P tys e sz bytes z) (base : Option Addr) (len cap n : Nat) (y : Value) (hl : ∀ w1, (Builtin.lenOf y).run P w1 = .ok n w1) :
    (len + n ≤ cap → (Builtin.append_ tys ty #[.slice base len cap, y]).run P w = ((Builtin.firstCells sz n y).run P w).andThen fun new w1 =>
      match base with
      | some p => ((storeCells (p.add (len * sz)) new.toList).run P w1).andThen fun _ w2 => .ok (.slice base (len + n) cap) w2
      | none => .ok (.slice base (len + n) cap) w1) ∧
    (¬ len + n ≤ cap → (len + n) * bytes ≤ c46 → ∀ old new, (∀ w1, w1.heap = w.heap → (Builtin.firstCells sz len (.slice base len cap)).run P w1 = .ok old w1) → (∀ w1, w1.heap = w.heap → (Builtin.firstCells sz n y).run P w1 = .ok new w1) →
      ∃ (nc : Nat) (rest : Array Value), len + n ≤ nc ∧ rest.size = (nc - (len + n)) * sz ∧
        (Builtin.append_ tys ty #[.slice base len cap, y]).run P w = .ok (.slice (some ⟨w.drew.heap.size, 0, none⟩) (len + n) nc) (w.drew.alloc (.cells (old ++ new ++ rest) e (0, 0)))) := by
  obtain ⟨⟨t, ht, hu⟩, ⟨t', d, ht', hd, hnint⟩, hsz, hb, hz, hzl, h0, hb0, hb1⟩ := T
  unfold bytesOf' at hb
  simp only [Option.map_eq_some_iff] at hb
  obtain ⟨i, hi, hb⟩ := hb
  have hz01 : (do pure ((← underlying t') matches .int _) : Sem Bool).run P w = .ok false w := by
    simp only [Sem.run_bind, run_underlying hd, Result.andThen_ok, Sem.run_pure]
    congr 1
    cases d <;> simp_all
  have a0 : (#[.slice base len cap, y] : Array Value)[0]? = some (.slice base len cap) := rfl
  have a1 : (#[.slice base len cap, y] : Array Value)[1]? = some y := rfl
  have e46 : (c46 : Int) = 70368744177664 := by decide
  have e46' : c46 = 70368744177664 := rfl
  constructor
  · intro hle
    unfold Builtin.append_
    simp only [ht, a0, a1, ht', Sem.run_bind, run_underlying hu, Result.andThen_ok, run_szOf hsz, run_underlying hd, Sem.run_pure]
    cases d <;> first | (simp at hnint; done) | skip
    all_goals
      simp only [Bool.false_eq_true, if_false, Sem.run_bind, hl, Result.andThen_ok]
      rw [if_pos hle]
      simp only [Bool.not_false, if_true, Sem.run_bind]
      congr 1
      funext new w1
      cases base with
      | none => rfl
      | some p => simp only [Sem.run_bind, Sem.run_pure]
  · intro hle hbig old new hold hnew
    have hcap : cap < len + n := by omega
    have hnc := nextcap_le (len + n) cap hcap
    have h1 : Builtin.nextslicecap (len + n) cap * bytes ≤ 2 ^ 48 := by
      have : Builtin.nextslicecap (len + n) cap * bytes ≤ (2 * (len + n) + 192) * bytes := Nat.mul_le_mul_right _ hnc
      have e1 : (2 * (len + n) + 192) * bytes = 2 * ((len + n) * bytes) + 192 * bytes := by rw [Nat.add_mul, Nat.mul_assoc]
      omega
    have hlen : len + n ≤ c46 := Nat.le_trans (Nat.le_mul_of_pos_right _ (by omega)) hbig
    let q : Question := .appendCap (len + n) cap e
    obtain ⟨zval, z1, z2, z3⟩ := zero_run (P := P) hz (fun b => b) (fun _ _ => False) w Mem.empty
    let nc := q.cut (w.tape w.drawn q)
    have hnc' : len + n ≤ nc := by
      show len + n ≤ len + n + _
      omega
    refine ⟨nc, Builtin.zeroCells zval.cells (nc - (len + n)), hnc', by simp [Builtin.zeroCells, z2.1, hzl], ?_⟩
    unfold Builtin.append_
    simp only [ht, a0, a1, ht', Sem.run_bind, run_underlying hu, Result.andThen_ok, run_szOf hsz, run_underlying hd, Sem.run_pure]
    cases d <;> first | (simp at hnint; done) | skip
    all_goals
      simp only [Bool.false_eq_true, if_false, Sem.run_bind, hl, Result.andThen_ok]
      rw [if_neg hle]
      simp only [Sem.run_bind, run_ti hi, Result.andThen_ok]
      rw [if_neg (by rintro ⟨_, h | h⟩; cases h; exact hb0 (hb.symm.trans h))]
      simp only [Sem.run_bind, run_ti hi, Result.andThen_ok]
      rw [if_neg (by rw [hb]; omega)]
      simp only [Sem.run_bind, run_choose_drew, Result.andThen_ok, run_ti hi, run_askRoom, Bool.not_false, if_true, z1, run_newRow', Sem.run_pure]
      rw [if_neg (by rw [show (Question.appendCap (len + n) cap e).forced = false from rfl]; exact Bool.false_ne_true)]
      simp only [Result.andThen_ok, hold w.drew rfl, hnew w.drew rfl]
      rfl

theorem mul_split {k nc s : Nat} (h : k ≤ nc) : nc * s = k * s + (nc - k) * s := by rw [← Nat.add_mul]; congr 1; omega
theorem drew_stp (m : MR R B0 ρ F w M) : Stp R B0 ρ F w M ρ F w.drew M := Stp.same m rfl rfl rfl rfl

/-- The new row of an append that grows: old cells, new ones, spare ones. -/
theorem grown_row (m : MR R B0 ρ F w M) {e : TypeId} {old new rest : Array Value} {oc nc : List V} (ho : VRs ρ F w M old oc) (hn : VRs ρ F w M new nc) (o1 : oc.all V.one = true) (n1 : nc.all V.one = true) :
    ∃ ρ', Stp R B0 ρ F w M ρ' F (w.alloc (.cells (old ++ new ++ rest) e (0, 0))) (M.alloc (.arr false (oc ++ nc))) ∧
      ∀ sz n cap, n ≤ cap → cap * sz = (old ++ new ++ rest).size → VR ρ' F (w.alloc (.cells (old ++ new ++ rest) e (0, 0))) (M.alloc (.arr false (oc ++ nc))) (.slice (some ⟨w.heap.size, 0, none⟩) n cap) (.sref M.next 0 n sz) := by
  obtain ⟨ρ', st, _, h⟩ := alloc_arr m (e := e) (ex := false) (cells := oc ++ nc) (cs := old ++ new ++ rest) (by have := ho.1; have := hn.1; simp; omega) (fun h => by cases h) (fun i c hi => by
    by_cases hlt : i < oc.length
    · rw [List.getElem?_append_left hlt] at hi
      obtain ⟨v, a1, a2, a3⟩ := ho.ones o1 i c hi
      refine ⟨v, ?_, a2, a3⟩
      rw [Array.append_assoc, Array.getElem?_append_left (by have := ho.1; omega)]; exact a1
    · rw [List.getElem?_append_right (by omega)] at hi
      obtain ⟨v, a1, a2, a3⟩ := hn.ones n1 _ c hi
      refine ⟨v, ?_, a2, a3⟩
      have := (Array.getElem?_eq_some_iff.1 a1).1
      have := ho.1
      rw [Array.append_assoc, Array.getElem?_append_right (by omega), Array.getElem?_append_left (by omega), ho.1]; exact a1)
  exact ⟨ρ', st, h⟩

theorem app_sound (m : MR R B0 ρ F w M) {tys : Array TypeId} {ty e : TypeId} {sz bytes : Nat} {z : List V} (T : AppTys P tys e sz bytes z) {x y : Value} {dx dy r : V} {yc : List V} {n : Nat} (hx : VR ρ F w M x dx) (hy : VR ρ F w M y dy)
    (hr : rowCells M sz dy = some (yc, n)) (h : appV M sz bytes dx yc n = some (r, M')) :
    ∃ v w' ρ' F', (Builtin.append_ tys ty #[x, y]).run P w = .ok v w' ∧ Stp R B0 ρ F w M ρ' F' w' M' ∧ VR ρ' F' w' M' v r := by
  obtain ⟨vs, l1, l2, l3, l4, l5, l6⟩ := rowCells_sound (P := P) m T.sz0 hy hr
  have hnew : VRs ρ F w M vs.toArray yc := VRs.of_list l3 l6
  unfold appV at h
  split at h
  · cases hx
    obtain ⟨run1, run2⟩ := append_run (P := P) (w := w) (ty := ty) T none 0 0 n y l1
    cases h0 : Nat.beq n 0 with
    | true =>
      rw [h0, cond_true] at h; cases h
      have hn := Nat.eq_of_beq_eq_true h0; subst hn
      refine ⟨.slice none 0 0, w, ρ, F, ?_, Stp.refl m, .nils⟩
      rw [run1 (by omega), l2 w rfl]; rfl
    | false =>
      have hn : n ≠ 0 := Nat.ne_of_beq_eq_false h0
      rw [h0, cond_false] at h
      cases hb : Nat.ble (n * bytes) c46 with
      | false => rw [hb] at h; cases h
      | true =>
        rw [hb, cond_true] at h; cases h
        have hb := Nat.le_of_ble_eq_true hb
        obtain ⟨nc, rest, e1, e2, e3⟩ := run2 (by omega) (by rw [Nat.zero_add]; exact hb) #[] vs.toArray (fun _ _ => rfl) l2
        have st0 := drew_stp m
        obtain ⟨ρ', st, hs⟩ := grown_row (rest := rest) st0.mr (e := e) (oc := []) (nc := yc) VRs.nil (hnew.le st0.le m) rfl l5
        rw [Nat.zero_add] at e1 e2 e3
        refine ⟨_, _, ρ', F, e3, st0.trans st, hs sz n nc e1 ?_⟩
        simp only [Array.size_append, e2, List.size_toArray, l3, l4, List.length_nil, Nat.zero_add]
        exact mul_split e1
  · rename_i b off len s
    split at h
    · rename_i hs; subst hs
      split at h
      · rename_i ex cells hM
        obtain ⟨cs, e', h1, h2, h3, h5⟩ := m.arr hM
        cases hx with
        | sref p cap _ _ _ _ q1 q0 q2 =>
          obtain ⟨r1, cs', e'', fr, r2, r3⟩ := q2 (by rw [hM]; simp)
          rw [h1] at r2; cases r2
          obtain ⟨run1, run2⟩ := append_run (P := P) (w := w) (ty := ty) T (some p) len cap n y l1
          cases h0 : Nat.beq n 0 with
          | true =>
            rw [h0, cond_true] at h; cases h
            have hn := Nat.eq_of_beq_eq_true h0; subst hn
            have : vs = [] := List.eq_nil_of_length_eq_zero (by omega)
            subst this
            refine ⟨.slice (some p) len cap, w, ρ, F, ?_, Stp.refl m, .sref _ _ _ _ _ _ q1 q0 q2⟩
            rw [run1 (by omega), l2 w rfl]; rfl
          | false =>
            have hn : n ≠ 0 := Nat.ne_of_beq_eq_false h0
            rw [h0, cond_false] at h
            have hpos : 0 < s := by have := T.sz0; omega
            cases hin : Nat.ble (off + (len + n) * s) cells.length with
            | true =>
              rw [hin, cond_true] at h; cases h
              have hin := Nat.le_of_ble_eq_true hin
              have hcap : len + n ≤ cap := by
                have : (len + n) * s ≤ cap * s := by omega
                exact Nat.le_of_mul_le_mul_right this hpos
              have hp := r1 (by omega); subst hp
              obtain ⟨w', s1, s2⟩ := write_cells (P := P) m (off := off + len * s) (vs := vs) hM l3 l6 l5 (by rw [l4, Nat.add_assoc, ← Nat.add_mul]; exact hin)
              refine ⟨.slice (some ⟨ρ b, off, none⟩) (len + n) cap, w', ρ, F, ?_, s2, ?_⟩
              · rw [run1 hcap, l2 w rfl]
                simp only [Result.andThen_ok, addr_add]
                rw [s1]; rfl
              · refine .sref _ _ _ _ _ _ q1 hcap fun _ => ⟨fun _ => rfl, ?_⟩
                obtain ⟨cs2, fr2, a1, a2⟩ := s2.le.size _ _ _ _ h1
                exact ⟨cs2, e', fr2, a1, by omega⟩
            | false =>
              rw [hin, cond_false] at h
              have hin : ¬ off + (len + n) * s ≤ cells.length := fun hle => by rw [Nat.ble_eq_true_of_le hle] at hin; cases hin
              cases hc : (Nat.ble ((len + n) * bytes) c46 && Nat.ble (off + len * s) cells.length) with
              | false => rw [hc, cond_false] at h; cases h
              | true =>
                rw [hc, cond_true] at h
                rw [Bool.and_eq_true] at hc
                have hc1 := Nat.le_of_ble_eq_true hc.1
                have hc2 := Nat.le_of_ble_eq_true hc.2
                -- the old cells, as the machine reads them
                have hold : VRs ρ F w M (cs.extract off (off + len * s)) ((cells.drop off).take (len * s)) := by
                  refine ⟨by simp; omega, fun i c d hc' hd => ?_⟩
                  rw [List.getElem?_take] at hd
                  split at hd
                  · rename_i hlt
                    rw [List.getElem?_drop] at hd
                    obtain ⟨v, a1, a2, _⟩ := h5 _ d hd
                    rw [Array.getElem?_extract] at hc'
                    split at hc'
                    · rw [a1] at hc'; cases hc'; exact a2
                    · cases hc'
                  · cases hd
                have hold1 : ((cells.drop off).take (len * s)).all V.one = true := by
                  rw [List.all_eq_true]
                  intro x hx
                  obtain ⟨i, hi⟩ := List.mem_iff_getElem?.1 (List.mem_of_mem_drop (List.mem_of_mem_take hx))
                  obtain ⟨_, _, _, q⟩ := h5 i x hi
                  exact q
                have hrd : ∀ w1, w1.heap = w.heap → (Builtin.firstCells s len (.slice (some p) len cap)).run P w1 = .ok (cs.extract off (off + len * s)) w1 := fun w1 hw => by
                  simp only [Builtin.firstCells]
                  by_cases hl0 : len = 0
                  · subst hl0; simp [loadCells, loadCellsFrom]; omega
                  · rw [r1 (by omega)]
                    have := run_loadCells_list (P := P) w1 ⟨ρ b, off, none⟩ (cs.extract off (off + len * s)).toList (fun j c hj => by
                      rw [addr_add, cell_heap hw, cell_of h1]
                      have hj : (cs.extract off (off + len * s))[j]? = some c := by rw [← Array.getElem?_toList]; exact hj
                      rw [Array.getElem?_extract] at hj
                      split at hj
                      · exact hj
                      · cases hj)
                    rw [show (cs.extract off (off + len * s)).toList.length = len * s by simp; omega, Array.toArray_toList] at this
                    exact this
                have grow : ¬ len + n ≤ cap → ∃ v w' ρ', (Builtin.append_ tys ty #[.slice (some p) len cap, y]).run P w = .ok v w' ∧ Stp R B0 ρ F w M ρ' F w' (M.alloc (.arr false ((cells.drop off).take (len * s) ++ yc))) ∧
                    VR ρ' F w' (M.alloc (.arr false ((cells.drop off).take (len * s) ++ yc))) v (.sref M.next 0 (len + n) s) := fun hncap => by
                  obtain ⟨nc, rest, e1, e2, e3⟩ := run2 hncap hc1 _ vs.toArray hrd l2
                  have st0 := drew_stp m
                  obtain ⟨ρ', st, hs⟩ := grown_row (rest := rest) st0.mr (e := e) (hold.le st0.le m) (hnew.le st0.le m) hold1 l5
                  refine ⟨_, _, ρ', e3, st0.trans st, hs s (len + n) nc e1 ?_⟩
                  simp only [Array.size_append, e2, List.size_toArray, l3, l4]
                  rw [show (cs.extract off (off + len * s)).size = len * s by simp; omega, ← Nat.add_mul]
                  exact mul_split e1
                cases ex with
                | true =>
                  rw [cond_true] at h; cases h
                  have h3 := h3 rfl
                  obtain ⟨v, w', ρ', g1, g2, g3⟩ := grow (fun hle => by
                    have : (len + n) * s ≤ cap * s := Nat.mul_le_mul_right _ hle
                    omega)
                  exact ⟨v, w', ρ', F, g1, g2, g3⟩
                | false =>
                  rw [cond_false] at h
                  cases ho : Nat.beq off 0 with
                  | false => rw [ho, cond_false] at h; cases h
                  | true =>
                    rw [ho, cond_true] at h; cases h
                    have ho := Nat.eq_of_beq_eq_true ho; subst ho
                    by_cases hcap : len + n ≤ cap
                    · -- there is room: the block goes on under a new name
                      have hp := r1 (by omega); subst hp
                      have hfit : len * s + vs.length ≤ cs.size := by
                        rw [l3, l4, ← Nat.add_mul, ← r3, Nat.zero_add]
                        exact Nat.mul_le_mul_right _ hcap
                      have hone : ∀ v ∈ vs, v.oneCell' = true := fun v hvm => by
                        obtain ⟨i, hi⟩ := List.mem_iff_getElem?.1 hvm
                        have hlt : i < yc.length := by rw [← l3]; exact (List.getElem?_eq_some_iff.1 hi).1
                        exact (l6 i v _ hi (List.getElem?_eq_getElem hlt)).one (List.all_eq_true.1 l5 _ (List.getElem_mem hlt))
                      have hrun := run_storeCells_at (P := P) (ρ b) (len * s) e' vs 0 cs w h1 (by omega) hone
                      rw [Nat.add_zero, setRow_putObj h1] at hrun
                      obtain ⟨ρ', st, hn'⟩ := Stp.rename m (b := b) (by rw [hM]; simp) (.cells (cs.toList.take (len * s) ++ vs ++ cs.toList.drop (len * s + vs.length)).toArray e' (0, 0)) (.arr false (cells.take (len * s) ++ yc))
                        (fun cs2 e2 fr2 hc => by rw [h1] at hc; cases hc; exact ⟨_, _, rfl, by simp; omega⟩)
                        (fun ρ' le cell hs hn => ⟨_, e', hs, by simp; omega, fun h => (by cases h), fun i c hi => by
                          have hlen1 : (cells.take (len * s)).length = len * s := by simp; omega
                          have hlen2 : (cs.toList.take (len * s)).length = len * s := by simp; omega
                          simp only [List.getElem?_toArray]
                          by_cases c1 : i < len * s
                          · rw [List.getElem?_append_left (by omega), List.getElem?_take, if_pos c1] at hi
                            obtain ⟨v, a1, a2, a3⟩ := h5 i c hi
                            refine ⟨v, ?_, a2.mono le cell, a3⟩
                            rw [List.append_assoc, List.getElem?_append_left (by omega), List.getElem?_take, if_pos c1]
                            simpa using a1
                          · rw [List.getElem?_append_right (by omega), hlen1] at hi
                            have hlt := (List.getElem?_eq_some_iff.1 hi).1
                            have hv' : vs[i - len * s]? = some (vs[i - len * s]'(by omega)) := List.getElem?_eq_getElem _
                            refine ⟨_, ?_, (l6 _ _ _ hv' hi).mono le cell, List.all_eq_true.1 l5 c (List.mem_of_getElem? hi)⟩
                            rw [List.append_assoc, List.getElem?_append_right (by omega), List.getElem?_append_left (by omega), hlen2]
                            exact hv'⟩)
                      refine ⟨.slice (some ⟨ρ b, 0, none⟩) (len + n) cap, _, ρ', F, ?_, st, ?_⟩
                      · rw [run1 hcap, l2 w rfl]
                        simp only [Result.andThen_ok, addr_add, Nat.zero_add]
                        rw [hrun]; rfl
                      · refine .sref _ _ _ _ _ _ (by simp) hcap fun _ => ⟨fun _ => by rw [hn'], ?_⟩
                        obtain ⟨cs2, fr2, a1, a2⟩ := st.le.size _ _ _ _ h1
                        exact ⟨cs2, e', fr2, by rw [hn']; exact a1, by omega⟩
                    · obtain ⟨nc, rest, e1, e2, e3⟩ := run2 hcap hc1 _ vs.toArray hrd l2
                      have st1 := Stp.drop m b
                      have st0 := drew_stp st1.mr
                      obtain ⟨ρ', st, hs⟩ := grown_row (rest := rest) st0.mr (e := e) ((hold.le st1.le m).le st0.le st1.mr) ((hnew.le st1.le m).le st0.le st1.mr) hold1 l5
                      rw [List.drop_zero] at st hs
                      refine ⟨_, _, ρ', F, e3, (st1.trans st0).trans st, hs s (len + n) nc e1 ?_⟩
                      simp only [Array.size_append, e2, List.size_toArray, l3, l4]
                      rw [show (cs.extract 0 (0 + len * s)).size = len * s by simp; omega, ← Nat.add_mul]
                      exact mul_split e1
      · cases h
    · cases h
  · rename_i es
    cases h0 : Nat.beq n 0 with
    | false => rw [h0, cond_false] at h; cases h
    | true =>
      rw [h0, cond_true] at h; cases h
      have hn := Nat.eq_of_beq_eq_true h0; subst hn
      have : vs = [] := List.eq_nil_of_length_eq_zero (by omega)
      subst this
      cases hx with
      | fsl cb off cap sz' _ xx hle hc hr =>
        obtain ⟨run1, run2⟩ := append_run (P := P) (w := w) (ty := ty) T (some ⟨cb, off, none⟩) es.length cap 0 y l1
        refine ⟨_, w, ρ, F, ?_, Stp.refl m, .fsl cb off cap sz' _ xx hle hc hr⟩
        rw [run1 (by omega), l2 w rfl]; rfl
  · cases h
end Go.Ax
