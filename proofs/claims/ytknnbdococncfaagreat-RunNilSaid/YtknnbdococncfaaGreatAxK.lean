/- Part K: maps; all operations on memory. -/
import Derived.Test.YtknnbdococncfaaGreatAxJ
import Derived.Laws.BytesString
namespace Go.Ax
open Go
set_option linter.unusedSimpArgs false
set_option linter.unusedVariables false

variable {P : Program} {R : RsT} {B0 : Nat} {ρ ρ' : Nat → Nat} {F F' : Nat → Nat → Prop} {w w' : World} {M M' : Mem} {a : Act} {ev : Ev}

theorem flatS_inv {t : TypeId} {ks : List Nat} (h : flatS P t = some ks) : ∃ fs : Array Field, P.underlying t = some (.struct fs) ∧ (∀ (i : Nat) f, fs.toList[i]? = some f → f.name ≠ "_" ∧ f.offset = i) ∧ P.stoodInHeld t = false ∧ fs.toList.mapM (fun f => scalarK P f.type) = some ks := by
  unfold flatS at h
  split at h
  · rename_i fs hu
    split at h
    · rename_i hc
      simp only [Bool.and_eq_true, beq_iff_eq] at hc
      obtain ⟨⟨hc1, hc2⟩, hc3⟩ := hc
      refine ⟨fs, hu, fun i f hf => ?_, hc3, h⟩
      have := (List.all_eq_true.1 hc1) (f, i) (List.mem_iff_getElem?.2 ⟨i, by simpa using hf⟩)
      simp at this
      exact ⟨this.1, this.2⟩
    · cases h
  · cases h
/-- What a map's keys are. -/
inductive KD (P : Program) (kt : TypeId) : KM → Prop
  | num (k) : P.underlying kt = some (.int k) → KD P kt .num
  | text : P.underlying kt = some .string → KD P kt .text
  | flat (ks) : flatS P kt = some ks → KD P kt (.flat ks)
theorem kd_of {kt : TypeId} {km : KM} (h : kmOf P kt = some km) : KD P kt km := by
  unfold kmOf at h
  split at h
  · rename_i k hu; cases h; exact .num k hu
  · rename_i hu; cases h; exact .text hu
  · simp only [Option.map_eq_some_iff] at h
    obtain ⟨ks, h1, rfl⟩ := h
    exact .flat ks h1

theorem sEq_same {kd : Nat} {d e : V} {x y : Value} (hx : VR ρ F w M x d) (hy : VR ρ F w M y e) (h : sEq kd d e = some true) (n : Nat) : Instr.sameBits n y x = true := by
  unfold sEq at h
  split at h
  · split at h
    · rename_i hk; subst hk
      have h := by simpa using h
      subst h
      rw [hx.int_inv, hy.int_inv]; cases n <;> simp [Instr.sameBits]
    · cases h
  · have h := by simpa using h
    subst h
    rw [hx.bool_inv, hy.bool_inv]; cases n <;> simp [Instr.sameBits]
  · have h := by simpa using h
    subst h
    obtain ⟨s, rfl, e1⟩ := hx.str_inv
    obtain ⟨s', rfl, e2⟩ := hy.str_inv
    have : (s' == s) = true := by rw [beq_toListBytes, toList_ba, toList_ba, e1, e2]; simp
    cases n <;> simpa [Instr.sameBits] using this
  · cases h
theorem sEqs_same (n : Nat) : ∀ (ks : List Nat) (xs ys : List V) (cs es : List Value), cs.length = xs.length → es.length = ys.length → (∀ (i : Nat) c d, cs[i]? = some c → xs[i]? = some d → VR ρ F w M c d) → (∀ (i : Nat) c d, es[i]? = some c → ys[i]? = some d → VR ρ F w M c d) →
    sEqs ks xs ys = some true → es.length = cs.length ∧ (es.zip cs).all (fun p => Instr.sameBits n p.1 p.2) = true
  | [], [], [], cs, es, h1, h2, _, _, _ => by
    have : cs = [] := by simpa using h1
    have : es = [] := by simpa using h2
    subst_vars; exact ⟨rfl, rfl⟩
  | k :: ks, x :: xs, y :: ys, c :: cs, e :: es, h1, h2, hx, hy, h => by
    simp only [sEqs] at h
    split at h
    · rename_i hq
      obtain ⟨i1, i2⟩ := sEqs_same n ks xs ys cs es (by simpa using h1) (by simpa using h2) (fun i c d a b => hx (i + 1) c d (by simpa using a) (by simpa using b)) (fun i c d a b => hy (i + 1) c d (by simpa using a) (by simpa using b)) h
      exact ⟨by simp [i1], by simp only [List.zip_cons_cons, List.all_cons, i2, Bool.and_true]; exact sEq_same (hx 0 c x rfl rfl) (hy 0 e y rfl rfl) hq n⟩
    · cases h
    · cases h
  | _ :: _, _ :: _, _ :: _, [], _, h1, _, _, _, _ => by simp at h1
  | _ :: _, _ :: _, _ :: _, _ :: _, [], _, h2, _, _, _ => by simp at h2
  | [], [], _ :: _, _, _, _, _, _, _, h => by cases h
  | [], _ :: _, _, _, _, _, _, _, _, h => by cases h
  | _ :: _, [], _, _, _, _, _, _, _, h => by cases h
  | _ :: _, _ :: _, [], _, _, _, _, _, _, h => by cases h

theorem keyEq_same {km : KM} {x y : Value} {dx dy : V} (hx : VR ρ F w M x dx) (hy : VR ρ F w M y dy) (h : keyEq km dx dy = some true) : Instr.sameBits 10000 y x = true := by
  unfold keyEq at h
  split at h
  · exact sEq_same (kd := 1) hx hy h 10000
  · exact sEq_same (kd := 2) hx hy h 10000
  · rename_i ks xs ys
    obtain ⟨cs, rfl, h1⟩ := hx.agg_inv
    obtain ⟨es, rfl, h2⟩ := hy.agg_inv
    obtain ⟨a1, a2⟩ := sEqs_same 9999 ks xs ys cs.toList es.toList (by simpa using h1.1) (by simpa using h2.1) (fun i c d hc hd => h1.2 i c d (by simpa using hc) hd) (fun i c d hc hd => h2.2 i c d (by simpa using hc) hd) h
    show (es.size == cs.size && (es.toList.zip cs.toList).all fun (x, y) => Instr.sameBits 9999 x y) = true
    rw [Bool.and_eq_true]
    exact ⟨by simpa using a1, a2⟩
  · cases h

theorem keyEq_now {km : KM} {kt : TypeId} {d : TypeDesc} (hd : KD P kt km) (hu : P.underlying kt = some d) (hf : ∀ ks, km ≠ .flat ks) {x y : Value} {dx dy : V} {b : Bool} (hx : VR ρ F w M x dx) (hy : VR ρ F w M y dy) (h : keyEq km dx dy = some b) : Instr.sameNow d x y = some b := by
  unfold keyEq at h
  split at h
  · cases hd with
    | num k hk =>
      rw [hk] at hu; cases hu
      split at h
      · rename_i hkk; subst hkk; cases h
        rw [hx.int_inv, hy.int_inv]; simp [Instr.sameNow]
      · cases h
  · cases hd with
    | text hk =>
      rw [hk] at hu; cases hu
      cases h
      obtain ⟨s, rfl, rfl⟩ := hx.str_inv
      obtain ⟨s', rfl, rfl⟩ := hy.str_inv
      have e : (s == s') = (s.data.toList == s'.data.toList) := by rw [beq_toListBytes, toList_ba, toList_ba]
      simp only [Instr.sameNow, e]
  · exact absurd rfl (hf _)
  · cases h
theorem keyEq_ask {ks : List Nat} {kt : TypeId} (hk : flatS P kt = some ks) {x y : Value} {dx dy : V} {b : Bool} (hx : VR ρ F w M x dx) (hy : VR ρ F w M y dy) (h : keyEq (.flat ks) dx dy = some b) (w0 : World) : (Op.equal kt x y).run P w0 = .ok b w0 := by
  unfold keyEq at h
  split at h
  · rename_i heq; cases heq
  · rename_i heq; cases heq
  · rename_i ks' xs ys h1
    cases h1
    obtain ⟨cx, rfl, vx⟩ := hx.agg_inv
    obtain ⟨cy, rfl, vy⟩ := hy.agg_inv
    obtain ⟨fs, hu, hfs, hs, hm⟩ := flatS_inv hk
    have hfo : P.fieldsOf kt = fs := by unfold Program.fieldsOf; rw [hu]
    show (Op.equalIn 10000 kt (.agg cx) (.agg cy)).run P w0 = .ok b w0
    rw [run_equalIn_struct w0 9999 kt cx cy (by rw [hfo]; exact hu) hs, hfo]
    exact eqFields_flat (k := 9998) vx vy w0 fs.toList ks 0 b (fun i f hf => by rw [Nat.zero_add]; exact hfs i f hf) hm (by simpa using h)
  · cases h

def MapR (ρ : Nat → Nat) (F : Nat → Nat → Prop) (w : World) (M : Mem) (ms : List MapEntry) (es : List (V × V)) : Prop :=
  ms.length = es.length ∧ ∀ (i : Nat) (me : MapEntry) (p : V × V), ms[i]? = some me → es[i]? = some p → VR ρ F w M me.key p.1 ∧ VR ρ F w M me.val p.2

/-- What was found. -/
def Fnd (ρ : Nat → Nat) (F : Nat → Nat → Prop) (w : World) (M : Mem) (x : Value) (ms : List MapEntry) (i : Nat) (res : Option (Nat × Value)) : Option (Nat × V) → Prop
  | none => res = none
  | some p => ∃ (me : MapEntry), i ≤ p.1 ∧ ms[p.1 - i]? = some me ∧ res = some (p.1, me.val) ∧ VR ρ F w M me.val p.2 ∧ Instr.sameBits 10000 me.key x = true
theorem findM_sound {km : KM} {x : Value} {dx : V} (hx : VR ρ F w M x dx) : ∀ (ms : List MapEntry) (es : List (V × V)) (i : Nat) (r : Option (Nat × V)), MapR ρ F w M ms es → findM km dx es i = some r →
    ∃ res : Option (Nat × Value), (∀ kt d, KD P kt km → P.underlying kt = some d → (∀ ks, km ≠ .flat ks) → Instr.findNow d x ms i = some res) ∧ (∀ ks kt, km = .flat ks → flatS P kt = some ks → ∀ w0, (Instr.findAsking kt x ms i).run P w0 = .ok res w0) ∧
      Fnd ρ F w M x ms i res r
  | [], [], i, r, _, h => by simp [findM] at h; subst h; exact ⟨none, fun _ _ _ _ _ => rfl, fun _ _ _ _ _ => rfl, rfl⟩
  | me :: ms, (k', v) :: es, i, r, hm, h => by
    obtain ⟨hl, hm⟩ := hm
    obtain ⟨h1, h2⟩ := hm 0 me (k', v) rfl rfl
    simp only [findM] at h
    cases hk : keyEq km dx k' with
    | none => rw [hk] at h; cases h
    | some b =>
      rw [hk] at h
      cases b with
      | true =>
        cases h
        refine ⟨some (i, me.val), fun kt d hd hu hf => ?_, fun ks kt hkm hfl w0 => ?_, me, Nat.le_refl _, by simp, rfl, h2, keyEq_same hx h1 hk⟩
        · simp [Instr.findNow, keyEq_now hd hu hf hx h1 hk]
        · subst hkm; simp [Instr.findAsking, keyEq_ask hfl hx h1 hk w0]
      | false =>
        obtain ⟨res, e1, e2, e3⟩ := findM_sound hx ms es (i + 1) r ⟨by simpa using hl, fun i me p a b => hm (i + 1) me p (by simpa using a) (by simpa using b)⟩ h
        refine ⟨res, fun kt d hd hu hf => ?_, fun ks kt hkm hfl w0 => ?_, ?_⟩
        · simp [Instr.findNow, keyEq_now hd hu hf hx h1 hk, e1 kt d hd hu hf]
        · have := e2 ks kt hkm hfl w0
          subst hkm; simp [Instr.findAsking, keyEq_ask hfl hx h1 hk w0, this]
        · cases r with
          | none => exact e3
          | some jv =>
            obtain ⟨j, v⟩ := jv
            obtain ⟨me', q1, q2, q3, q4, q5⟩ := e3
            simp only at q1 q2 q3 q4
            refine ⟨me', by omega, ?_, q3, q4, q5⟩
            rw [show j - i = (j - (i + 1)) + 1 by omega, List.getElem?_cons_succ]; exact q2
  | [], _ :: _, _, _, hm, _ => by have := hm.1; simp at this
  | _ :: _, [], _, _, hm, _ => by have := hm.1; simp at this

theorem findNow_struct {fs : Array Field} {x : Value} {me : MapEntry} {ms : List MapEntry} (i : Nat) : Instr.findNow (.struct fs) x (me :: ms) i = none := by simp [Instr.findNow, Instr.sameNow]
theorem findKey_sound {km : KM} {kt : TypeId} (hd : kmOf P kt = some km) {x : Value} {dx : V} (hx : VR ρ F w M x dx) {ms : List MapEntry} {es : List (V × V)} {r : Option (Nat × V)} (hm : MapR ρ F w M ms es) (h : findK km dx es = some r) :
    (∀ b w0, (Instr.checkKey b 10000 kt x).run P w0 = .ok () w0) ∧ ∃ res : Option (Nat × Value), (∀ w0, (Instr.findKey kt x ms).run P w0 = .ok res w0) ∧
      Fnd ρ F w M x ms 0 res r := by
  unfold findK at h
  cases hok : keyOK km dx with
  | false => rw [hok] at h; cases h
  | true =>
    rw [hok, cond_true] at h
    obtain ⟨res, e1, e2, e3⟩ := findM_sound (P := P) hx ms es 0 r hm h
    have hkd := kd_of hd
    have simple : ∀ d, P.underlying kt = some d → (∀ ks, km ≠ .flat ks) → ∀ w0, (Instr.findKey kt x ms).run P w0 = .ok res w0 := fun d hu hf w0 => by
      simp [Instr.findKey, run_underlying hu, e1 kt d hkd hu hf]
    cases hkd with
    | num k hu =>
      refine ⟨fun b w0 => ?_, res, simple _ hu (fun ks hq => by cases hq), e3⟩
      unfold Instr.checkKey; simp only [Sem.run_bind, run_underlying hu, Result.andThen_ok]; rfl
    | text hu =>
      refine ⟨fun b w0 => ?_, res, simple _ hu (fun ks hq => by cases hq), e3⟩
      unfold Instr.checkKey; simp only [Sem.run_bind, run_underlying hu, Result.andThen_ok]; rfl
    | flat ks hfl =>
      obtain ⟨fs, hu, hfs, hs, hmm⟩ := flatS_inv hfl
      refine ⟨fun b w0 => ?_, res, fun w0 => ?_, e3⟩
      · obtain ⟨xs, hdx, hlen⟩ : ∃ xs, dx = .agg xs ∧ xs.length = ks.length := by
          cases dx with
          | agg xs => exact ⟨xs, rfl, Nat.eq_of_beq_eq_true hok⟩
          | _ => cases hok
        subst hdx
        · obtain ⟨cx, rfl, vx⟩ := hx.agg_inv
          unfold Instr.checkKey
          simp only [Sem.run_bind, run_underlying hu, Result.andThen_ok]
          rw [← Array.forIn_toList]
          have loop : ∀ (l : List Field) (ks : List Nat) (n : Nat), (∀ (i : Nat) f, l[i]? = some f → f.name ≠ "_" ∧ f.offset = n + i) → l.mapM (fun f => scalarK P f.type) = some ks → n + l.length ≤ xs.length →
              (forIn l PUnit.unit fun f __s => if f.name ≠ "_" then do
                let v ← part f.type cx f.offset
                Instr.checkKey b 9999 f.type v
                pure (ForInStep.yield PUnit.unit)
              else pure (ForInStep.yield PUnit.unit) : Sem PUnit).run P w0 = .ok PUnit.unit w0 := by
            intro l
            induction l with
            | nil => intro ks n _ _ _; rfl
            | cons f l ih =>
              intro ks n hf hm hle
              simp only [List.mapM_cons, Option.bind_eq_bind, Option.bind_eq_some_iff, Option.pure_def, Option.some.injEq] at hm
              obtain ⟨kd, hkd, ks', hks', rfl⟩ := hm
              obtain ⟨hnm, hoff⟩ := hf 0 f rfl
              rw [Nat.add_zero] at hoff
              simp at hle
              obtain ⟨vx', hvx⟩ : ∃ v, cx[n]? = some v := ⟨cx[n]'(by rw [vx.1]; omega), Array.getElem?_eq_getElem _⟩
              have rest := ih ks' (n + 1) (fun i g hg => by obtain ⟨a1, a2⟩ := hf (i + 1) g (by simpa using hg); exact ⟨a1, by omega⟩) hks' (by omega)
              unfold scalarK at hkd
              cases hfu : P.underlying f.type with
              | none => simp [hfu] at hkd
              | some d =>
                have ag : aggOf P f.type = some false := by
                  unfold aggOf; rw [hfu]
                  cases d <;> simp [hfu] at hkd <;> rfl
                have p1 : (part f.type cx f.offset).run P w0 = .ok vx' w0 := by unfold part; simp [run_aggOf ag, hoff, hvx]
                have p2 : (Instr.checkKey b 9999 f.type vx').run P w0 = .ok () w0 := by
                  unfold Instr.checkKey
                  simp only [Sem.run_bind, run_underlying hfu, Result.andThen_ok]
                  cases d <;> simp [hfu] at hkd <;> rfl
                simp only [List.forIn_cons, Sem.run_bind, hnm, ne_eq, not_false_eq_true, if_true, Result.andThen_ok, p1, p2, Sem.run_pure]
                exact rest
          rw [loop fs.toList ks 0 (fun i f hf => by rw [Nat.zero_add]; exact hfs i f hf) hmm (by rw [Nat.zero_add, hlen]; exact Nat.le_of_eq (mapM_get hmm).1)]
          rfl
      · unfold Instr.findKey
        simp only [Sem.run_bind, run_underlying hu, Result.andThen_ok]
        cases ms with
        | nil =>
          have h1 := e2 ks kt rfl hfl w0
          simpa [Instr.findAsking, Instr.findNow] using h1
        | cons me ms => rw [findNow_struct]; exact e2 ks kt rfl hfl w0

theorem MR.map (m : MR R B0 ρ F w M) {b : Nat} {es} (h : M.get b = some (.map es)) : ∃ ms clock, w.heap[ρ b]? = some (.map ms clock) ∧ MapR ρ F w M ms.toList es := by
  obtain ⟨ms, clock, h1, h2, h3⟩ := m.obj b _ h
  exact ⟨ms, clock, h1, by simpa using h2, fun i me p hi hp => h3 i me p (by simpa using hi) hp⟩
theorem run_getObj_map {cb : Nat} {ms clock} (h : w.heap[cb]? = some (.map ms clock)) : (getObj cb).run P w = .ok (.map ms clock) w := by simp [getObj, Sem.run, h]
theorem run_setObj_map {cb : Nat} {ms clock} (o : Obj) (h : w.heap[cb]? = some (.map ms clock)) : (setObj cb o).run P w = .ok () (w.putObj cb o) := by simp [setObj, Sem.run, h, World.putObj]
theorem lookup_sound (m : MR R B0 ρ F w M) {t kt e : TypeId} {km : KM} {ok : Bool} {z r : V} {x k : Value} {dx dk : V} {es : List (V × V)} (hu : P.underlying t = some (.map kt e)) (hk : kmOf P kt = some km) (hz : zeroV P e = some z)
    (hx : VR ρ F w M x dx) (hkv : VR ρ F w M k dk) (hes : mapOf M dx = some es)
    (h : (match findK km dk es with
      | some (some (_, v)) => some (bif ok then .tuple [v, .bool true] else v, M)
      | some none => some (bif ok then .tuple [z, .bool false] else z, M)
      | none => none) = some (r, M')) : M' = M ∧ ∃ v, (Instr.lookup t x k ok).run P w = .ok v w ∧ VR ρ F w M v r := by
  obtain ⟨ms, hms, hmr⟩ : ∃ ms : Array MapEntry, ((x = .map none ∧ ms = #[]) ∨ ∃ cb clock, x = .map (some cb) ∧ w.heap[cb]? = some (.map ms clock)) ∧ MapR ρ F w M ms.toList es := by
    unfold mapOf at hes
    split at hes
    · cases hes; cases hx
      exact ⟨#[], .inl ⟨rfl, rfl⟩, rfl, fun i me p h => by simp at h⟩
    · split at hes
      · rename_i hM; cases hes
        cases hx with
        | mref cb _ q1 q2 =>
          have := q2 (by rw [hM]; simp); subst this
          obtain ⟨ms, clock, h1, h2⟩ := m.map hM
          exact ⟨ms, .inr ⟨_, clock, rfl, h1⟩, h2⟩
      · cases hes
    · cases hes
  have pair : ∀ (v : Value) (dv : V) (b : Bool), VR ρ F w M v dv → VR ρ F w M (if ok then .tuple #[v, .bool b] else v) (bif ok then .tuple [dv, .bool b] else dv) := fun v dv b hv => by
    cases ok with
    | false => exact hv
    | true => exact .of_tuple (VRs.of_list (cs := [v, .bool b]) rfl fun i c d hc hd => by
        match i with
        | 0 => simp at hc hd; subst hc; subst hd; exact hv
        | 1 => simp at hc hd; subst hc; subst hd; exact .bool _
        | i + 2 => simp at hc)
  cases hf : findK km dk es with
  | none => rw [hf] at h; cases h
  | some o =>
    rw [hf] at h
    obtain ⟨hck, res, hfk, hres⟩ := findKey_sound hk hkv hmr hf
    have rest : (Instr.lookup t x k ok).run P w = ((match (generalizing := false) res with
      | some (_, v) => pure (v, true)
      | none => do pure (← zeroValue e, false) : Sem (Value × Bool)).run P w).andThen fun p w' => .ok (if ok then .tuple #[p.1, .bool p.2] else p.1) w' := by
      unfold Instr.lookup
      simp only [Sem.run_bind, run_underlying hu, Result.andThen_ok]
      rcases hms with ⟨rfl, rfl⟩ | ⟨cb, clock, rfl, hh⟩
      · simp only [Sem.run_bind, Sem.run_pure, Result.andThen_ok, hck, hfk]
        cases res with
        | none => simp only [Sem.run_bind, Sem.run_pure]; cases (zeroValue e).run P w <;> rfl
        | some p => rfl
      · simp only [Sem.run_bind, Sem.run_pure, Result.andThen_ok, run_getObj_map hh, hck, hfk]
        cases res with
        | none => simp only [Sem.run_bind, Sem.run_pure]; cases (zeroValue e).run P w <;> rfl
        | some p => rfl
    cases o with
    | none =>
      cases h
      have hres : res = none := hres
      subst hres
      refine ⟨rfl, ?_⟩
      unfold zeroV at hz
      simp only [Option.bind_eq_some_iff] at hz
      obtain ⟨zval, ⟨i, hi, h0⟩, hc⟩ := hz
      exact ⟨_, by rw [rest]; simp [zeroValue, typeInfo, hi, h0], pair zval z false (constV_sound hc)⟩
    | some jv =>
      obtain ⟨j, v⟩ := jv
      cases h
      obtain ⟨me, _, _, rfl, e4, _⟩ := hres
      exact ⟨rfl, _, by rw [rest]; rfl, pair me.val v true e4⟩

theorem mapset_sound (m : MR R B0 ρ F w M) {t kt e : TypeId} {km : KM} {r : V} {x k v : Value} {b : Nat} {dk dv : V} {es : List (V × V)} (hu : P.underlying t = some (.map kt e)) (hk : kmOf P kt = some km)
    (hx : VR ρ F w M x (.mref b)) (hkv : VR ρ F w M k dk) (hv : VR ρ F w M v dv) (hM : M.get b = some (.map es))
    (h : (match findK km dk es with
        | some (some (i, _)) => some (.any, M.set b (.map (es.set i (dk, dv))))
        | some none => some (.any, M.set b (.map (es ++ [(dk, dv)])))
        | none => none) = some (r, M')) : r = .any ∧ ∃ w', (Instr.mapUpdate t x k v).run P w = .ok () w' ∧ Stp R B0 ρ F w M ρ F w' M' := by
  cases hx with
  | mref cb _ q1 q2 =>
    have := q2 (by rw [hM]; simp); subst this
    obtain ⟨ms, clock, h1, hmr⟩ := m.map hM
    have nocells : ∀ cs e fr, w.heap[ρ b]? = some (.cells cs e fr) → ∀ o : Obj, ∃ cs' fr', o = .cells cs' e fr' ∧ cs'.size = cs.size := fun cs e fr hc => by rw [h1] at hc; cases hc
    cases hf : findK km dk es with
    | none => rw [hf] at h; cases h
    | some o =>
      rw [hf] at h
      obtain ⟨hck, res, hfk, hres⟩ := findKey_sound hk hkv hmr hf
      have hrun : (Instr.mapUpdate t (.map (some (ρ b))) k v).run P w = (match (generalizing := false) res with
        | some (i, _) => (do
          let key ← Instr.keyThatStays (((ms[i]?).map (·.key)).getD k) k
          setObj (ρ b) (.map (ms.modify i fun e => { e with key, val := v }) clock))
        | none => setObj (ρ b) (.map (ms.push { key := k, val := v, born := clock }) (clock + 1)) : Sem Unit).run P w := by
        unfold Instr.mapUpdate
        simp only [Sem.run_bind, run_underlying hu, Result.andThen_ok, run_getObj_map h1, hck, hfk]
        cases res with
        | none => rfl
        | some p => rfl
      cases o with
      | none =>
        cases h
        have hres : res = none := hres
        subst hres
        refine ⟨rfl, _, by rw [hrun, run_setObj_map _ h1], Stp.put m (by rw [hM]; simp) _ _ (fun cs e fr hc => nocells cs e fr hc _) (fun le cell hs => ⟨_, _, hs, by simp [← hmr.1], fun i me p hme hp => ?_⟩)⟩
        by_cases hlt : i < es.length
        · rw [List.getElem?_append_left hlt] at hp
          rw [Array.getElem?_push, if_neg (by have := hmr.1; simp at this; omega)] at hme
          obtain ⟨a1, a2⟩ := hmr.2 i me p (by simpa using hme) hp
          exact ⟨a1.mono le cell, a2.mono le cell⟩
        · rw [List.getElem?_append_right (by omega)] at hp
          have hi : i = es.length := by
            have := (List.getElem?_eq_some_iff.1 hp).1
            simp at this; omega
          subst hi
          rw [Array.getElem?_push, if_pos (by have := hmr.1; simp at this; omega)] at hme
          simp at hp hme
          subst hp; subst hme
          exact ⟨hkv.mono le cell, hv.mono le cell⟩
      | some jv =>
        obtain ⟨j, v0⟩ := jv
        cases h
        obtain ⟨me, _, e2, rfl, e4, e5⟩ := hres
        simp only [Nat.sub_zero] at e2
        have e2' : ms[j]? = some me := by simpa using e2
        have hks : (Instr.keyThatStays (((ms[j]?).map (·.key)).getD k) k).run P w = .ok k w := by
          rw [e2']
          simp [Instr.keyThatStays, e5]
        refine ⟨rfl, _, by rw [hrun, Sem.run_bind, hks, Result.andThen_ok, run_setObj_map _ h1], Stp.put m (by rw [hM]; simp) _ _ (fun cs e fr hc => nocells cs e fr hc _) (fun le cell hs => ⟨_, _, hs, by have := hmr.1; simpa using this, fun i me' p hme hp => ?_⟩)⟩
        rw [Array.getElem?_modify] at hme
        by_cases hij : j = i
        · subst hij
          rw [if_pos rfl, e2'] at hme
          rw [List.getElem?_set_self'] at hp
          simp at hme
          cases hes : es[j]? with
          | none => simp [hes] at hp
          | some q =>
            simp [hes] at hp
            subst hp; subst hme
            exact ⟨hkv.mono le cell, hv.mono le cell⟩
        · rw [if_neg hij] at hme
          rw [List.getElem?_set_ne hij] at hp
          obtain ⟨a1, a2⟩ := hmr.2 i me' p (by simpa using hme) hp
          exact ⟨a1.mono le cell, a2.mono le cell⟩

theorem mkmap_sound (m : MR R B0 ρ F w M) (t : TypeId) : ∃ v w' ρ' F', (Instr.makeMap t none).run P w = .ok v w' ∧ Stp R B0 ρ F w M ρ' F' w' (M.alloc (.map [])) ∧ VR ρ' F' w' (M.alloc (.map [])) v (.mref M.next) := by
  obtain ⟨ρ', st, hn⟩ := Stp.alloc m (.map #[] 0) (.map []) (fun ρ' le cell hn => ⟨#[], 0, World.alloc_heap_new w _, rfl, fun i me p h => by simp at h⟩)
  exact ⟨.map (some w.heap.size), w.alloc (.map #[] 0), ρ', F, rfl, st, .mref _ _ (by simp) fun _ => hn.symm⟩


theorem mlen_sound (m : MR R B0 ρ F w M) {tys : Array TypeId} {ty t kt e : TypeId} {x : Value} {dx : V} {es : List (V × V)} (ht : tys[0]? = some t) (hu : P.underlying t = some (.map kt e)) (hx : VR ρ F w M x dx) (h : mapOf M dx = some es) :
    (Builtin.len_ tys ty #[x]).run P w = .ok (.int .i64 es.length) w := by
  unfold mapOf at h
  split at h
  · cases h; cases hx
    simp [Builtin.len_, ht, run_underlying hu, goInt]
  · split at h
    · rename_i hM; cases h
      cases hx with
      | mref cb _ q1 q2 =>
        have := q2 (by rw [hM]; simp); subst this
        obtain ⟨ms, clock, h1, h2⟩ := m.map hM
        have : ms.size = es.length := by have := h2.1; simpa using this
        simp [Builtin.len_, ht, run_underlying hu, goInt, run_getObj_map h1, this]
    · cases h
  · cases h

theorem bytesAll_sound : ∀ (vs : List Value) (yc : List V) (l : List UInt8), vs.length = yc.length → (∀ (i : Nat) c e, vs[i]? = some c → yc[i]? = some e → VR ρ F w M c e) → bytesAll yc = some l →
    ∃ ns : List Int, vs = ns.map (Value.int .u8) ∧ l = ns.map (fun n => UInt8.ofNat n.toNat)
  | [], [], l, _, _, h => by cases h; exact ⟨[], rfl, rfl⟩
  | v :: vs, y :: yc, l, hl, hr, h => by
    simp only [bytesAll] at h
    split at h
    · rename_i b hb
      split at h
      · rename_i l' hl'
        cases h
        obtain ⟨ns, rfl, rfl⟩ := bytesAll_sound vs yc l' (by simpa using hl) (fun i c e a b => hr (i + 1) c e (by simpa using a) (by simpa using b)) hl'
        unfold byteOf at hb
        split at hb
        · rename_i n
          cases hb
          have := (hr 0 v _ rfl rfl).int_inv
          subst this
          exact ⟨n :: ns, rfl, rfl⟩
        · cases hb
      · cases h
    · cases h
  | [], _ :: _, _, hl, _, _ => by simp at hl
  | _ :: _, [], _, hl, _, _ => by simp at hl

theorem foldl_push (f : Int → UInt8) : ∀ (ns : List Int) (s : ByteArray), (ns.foldl (fun r n => r.push (f n)) s).data.toList = s.data.toList ++ ns.map f
  | [], s => by simp
  | n :: ns, s => by
    rw [List.foldl_cons, foldl_push f ns]
    simp [ByteArray.push]

theorem b2s_sound (m : MR R B0 ρ F w M) {src dst e : TypeId} {x : Value} {dx : V} {l : List UInt8} (hs : P.underlying src = some (.slice e)) (he : P.underlying e = some (.int .u8)) (hd : P.underlying dst = some .string) (hx : VR ρ F w M x dx) (h : bytesOfV M dx = some l) :
    ∃ v, (convert src dst x).run P w = .ok v w ∧ VR ρ F w M v (.str l) := by
  unfold bytesOfV at h
  split at h
  · cases h
  · rename_i d hns
    split at h
    · rename_i yc n hr
      obtain ⟨vs, h1, h2, h3, h4, h5, h6⟩ := rowCells_sound (P := P) m (by omega) hx hr
      obtain ⟨ns, rfl, rfl⟩ := bytesAll_sound vs yc l h3 h6 h
      have some_case : ∀ a len cap, x = .slice (some a) len cap → ∃ v, (convert src dst x).run P w = .ok v w ∧ VR ρ F w M v (.str (ns.map (fun n => UInt8.ofNat n.toNat))) := fun a len cap hxe => by
        subst hxe
        have hn : len = n := by have := h1 w; simpa [Builtin.lenOf] using this
        subst hn
        have hl := h2 w rfl
        simp only [Builtin.firstCells, Nat.mul_one] at hl
        refine ⟨.string (ns.foldl (fun r n => r.push (UInt8.ofNat n.toNat)) ByteArray.empty), ?_, .str _ _ ?_⟩
        · rw [run_convert_bytes_string w src dst e _ len cap hs he hd, run_bytesToString w a len cap ns hl]
        · rw [foldl_push]; rfl
      have hx' := hx
      cases hx with
      | nils =>
        cases hr
        have h0 : ns.map (fun n => UInt8.ofNat n.toNat) = [] := by have := h; simpa [bytesAll] using this.symm
        have : ns = [] := by simpa using h0
        subst this
        exact ⟨.string ByteArray.empty, by rw [run_convert_bytes_string w src dst e _ 0 0 hs he hd]; simp [Conv.bytesToString], .str _ _ rfl⟩
      | sref a cap b off len sz _ _ _ => exact some_case _ _ _ rfl
      | fsl cb off cap sz es x _ _ _ => exact some_case _ _ _ rfl
      | str s l _ => exact absurd rfl (hns l)
      | _ => cases hr
    · cases h

end Go.Ax
