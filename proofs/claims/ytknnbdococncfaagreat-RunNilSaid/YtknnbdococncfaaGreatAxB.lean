/- Part B: the relation of abstract memory and world; what a step keeps. -/
import Derived.Test.YtknnbdococncfaaGreatAxA
namespace Go.Ax
open Go

theorem VR.cells_one {ρ F w M v d} (h : VR ρ F w M v d) (h1 : d.one = true) : ∀ cs, v ≠ .agg cs := by
  cases h <;> simp_all [V.one]

/-- A program's code and the small code that stands for it. -/
abbrev RsT := Code → IC → Prop

def OR (R : RsT) (ρ : Nat → Nat) (F : Nat → Nat → Prop) (w : World) (M : Mem) (cb : Nat) : AObj → Prop
  | .arr ex cells => ∃ cs e, w.heap[cb]? = some (.cells cs e (0, 0)) ∧ cells.length ≤ cs.size ∧ (ex = true → cells.length = cs.size) ∧ ∀ (i : Nat) c, cells[i]? = some c → ∃ v, cs[i]? = some v ∧ VR ρ F w M v c ∧ c.one = true
  | .map es => ∃ ms clock, w.heap[cb]? = some (.map ms clock) ∧ ms.size = es.length ∧
      ∀ (i : Nat) (me : MapEntry) (p : V × V), ms[i]? = some me → es[i]? = some p → VR ρ F w M me.key p.1 ∧ VR ρ F w M me.val p.2
  | .loop r => ∃ lp : Loop, w.heap[cb]? = some (.loop lp) ∧ lp.state = r.state ∧ lp.pending = r.pending ∧ lp.params.toList = r.params ∧
      lp.assign = r.ca ∧ lp.body = r.cb ∧ R r.ca r.a ∧ R r.cb r.b ∧ ER ρ F w M lp.tmps r.env
  | .dfr => w.heap[cb]? = some (.deferred (some []))

structure MR (R : RsT) (B0 : Nat) (ρ : Nat → Nat) (F : Nat → Nat → Prop) (w : World) (M : Mem) : Prop where
  obj : ∀ b o, M.get b = some o → OR R ρ F w M (ρ b) o
  inj : ∀ b c, M.get b ≠ none → M.get c ≠ none → ρ b = ρ c → b = c
  base : ∀ b, M.get b ≠ none → B0 ≤ ρ b
  bound : ∀ b, M.get b ≠ none → b < M.next
  lt : ∀ b, M.get b ≠ none → ρ b < w.heap.size
  nofro : ∀ b off, M.get b ≠ none → ¬ F (ρ b) off
  frolt : ∀ cb off, F cb off → cb < w.heap.size
  here : B0 ≤ w.heap.size

/-- What a step keeps. -/
structure Le (ρ : Nat → Nat) (F : Nat → Nat → Prop) (w : World) (M : Mem) (ρ' : Nat → Nat) (F' : Nat → Nat → Prop) (w' : World) (M' : Mem) : Prop where
  next : M.next ≤ M'.next
  live : ∀ b, b < M.next → M'.get b ≠ none → M.get b ≠ none ∧ ρ' b = ρ b
  heap : w.heap.size ≤ w'.heap.size
  os : w'.os = w.os
  tape : w'.tape = w.tape
  output : w'.output = w.output
  size : ∀ (cb : Nat) cs e fr, w.heap[cb]? = some (.cells cs e fr) → ∃ cs' fr', w'.heap[cb]? = some (.cells cs' e fr') ∧ cs'.size = cs.size
  keep : ∀ cb, cb < w.heap.size → (∀ b, M.get b ≠ none → ρ b ≠ cb) → w'.heap[cb]? = w.heap[cb]?
  fro : ∀ cb off, F cb off → F' cb off
  img : ∀ b, M'.get b ≠ none → ρ' b < w.heap.size → ∃ c, M.get c ≠ none ∧ ρ c = ρ' b
  frn : ∀ cb off, F' cb off → F cb off ∨ w.heap.size ≤ cb

variable {R : RsT} {B0 : Nat} {ρ ρ' ρ'' : Nat → Nat} {F F' F'' : Nat → Nat → Prop} {w w' w'' : World} {M M' M'' : Mem}

theorem Le.refl (ρ F w M) : Le ρ F w M ρ F w M :=
  ⟨Nat.le_refl _, fun _ _ h => ⟨h, rfl⟩, Nat.le_refl _, rfl, rfl, rfl, fun _ cs _ fr h => ⟨cs, fr, h, rfl⟩, fun _ _ _ => rfl, fun _ _ h => h, fun b hb _ => ⟨b, hb, rfl⟩, fun _ _ h => .inl h⟩

theorem Le.trans (h : Le ρ F w M ρ' F' w' M') (k : Le ρ' F' w' M' ρ'' F'' w'' M'') : Le ρ F w M ρ'' F'' w'' M'' := by
  refine ⟨Nat.le_trans h.next k.next, fun b hb hl => ?_, Nat.le_trans h.heap k.heap, k.os.trans h.os, k.tape.trans h.tape, k.output.trans h.output, fun cb cs e fr hc => ?_, fun cb hlt hn => ?_,
    fun cb off hf => k.fro _ _ (h.fro _ _ hf), fun b hb hlt => ?_, fun cb off hf => ?_⟩
  · obtain ⟨h1, h2⟩ := k.live b (Nat.lt_of_lt_of_le hb h.next) hl
    obtain ⟨h3, h4⟩ := h.live b hb h1
    exact ⟨h3, h2.trans h4⟩
  · obtain ⟨cs1, fr1, h1, h2⟩ := h.size _ _ _ _ hc
    obtain ⟨cs2, fr2, h3, h4⟩ := k.size _ _ _ _ h1
    exact ⟨cs2, fr2, h3, h4.trans h2⟩
  · rw [k.keep cb (Nat.lt_of_lt_of_le hlt h.heap) (fun b hb e => ?_), h.keep cb hlt hn]
    obtain ⟨c, hc, e'⟩ := h.img b hb (e ▸ hlt)
    exact hn c hc (e'.trans e)
  · obtain ⟨c, hc, e⟩ := k.img b hb (Nat.lt_of_lt_of_le hlt h.heap)
    obtain ⟨d, hd, e'⟩ := h.img c hc (e ▸ hlt)
    exact ⟨d, hd, e'.trans e⟩
  · rcases k.frn _ _ hf with h1 | h1
    · exact h.frn _ _ h1
    · exact .inr (Nat.le_trans h.heap h1)

structure Stp (R : RsT) (B0 : Nat) (ρ : Nat → Nat) (F : Nat → Nat → Prop) (w : World) (M : Mem) (ρ' : Nat → Nat) (F' : Nat → Nat → Prop) (w' : World) (M' : Mem) : Prop where
  le : Le ρ F w M ρ' F' w' M'
  mr : MR R B0 ρ' F' w' M'

theorem Stp.refl (h : MR R B0 ρ F w M) : Stp R B0 ρ F w M ρ F w M := ⟨Le.refl .., h⟩
theorem Stp.trans (h : Stp R B0 ρ F w M ρ' F' w' M') (k : Stp R B0 ρ' F' w' M' ρ'' F'' w'' M'') : Stp R B0 ρ F w M ρ'' F'' w'' M'' := ⟨h.le.trans k.le, k.mr⟩

theorem cell_block {w w' : World} {b o : Nat} (h : w'.heap[b]? = w.heap[b]?) : w'.cell? ⟨b, o, none⟩ = w.cell? ⟨b, o, none⟩ := by
  simp only [World.cell?, h]

/-- A frozen cell is kept. -/
theorem Le.cell (h : Le ρ F w M ρ' F' w' M') (m : MR R B0 ρ F w M) {cb off : Nat} (hf : F cb off) : w'.cell? ⟨cb, off, none⟩ = w.cell? ⟨cb, off, none⟩ :=
  cell_block (h.keep cb (m.frolt _ _ hf) (fun b hb e => m.nofro b off hb (e ▸ hf)))

/-- What values need of a step. -/
structure Lw (ρ : Nat → Nat) (F : Nat → Nat → Prop) (w : World) (M : Mem) (ρ' : Nat → Nat) (F' : Nat → Nat → Prop) (w' : World) (M' : Mem) : Prop where
  next : M.next ≤ M'.next
  live : ∀ b, b < M.next → M'.get b ≠ none → M.get b ≠ none ∧ ρ' b = ρ b
  size : ∀ (cb : Nat) cs e fr, w.heap[cb]? = some (.cells cs e fr) → ∃ cs' fr', w'.heap[cb]? = some (.cells cs' e fr') ∧ cs'.size = cs.size
  fro : ∀ cb off, F cb off → F' cb off
theorem Le.lw (h : Le ρ F w M ρ' F' w' M') : Lw ρ F w M ρ' F' w' M' := ⟨h.next, h.live, h.size, h.fro⟩
/-- What stood to an abstract value before a step does so behind it. -/
theorem VR.monoW (h : Lw ρ F w M ρ' F' w' M') (cell : ∀ cb off, F cb off → w'.cell? ⟨cb, off, none⟩ = w.cell? ⟨cb, off, none⟩) {v : Value} {d : V} (r : VR ρ F w M v d) : VR ρ' F' w' M' v d := by
  induction r with
  | any v => exact .any v
  | bool b => exact .bool b
  | int k n => exact .int k n
  | float k n => exact .float k n
  | str s l e => exact .str s l e
  | nilp => exact .nilp
  | ptr a b off hb hl =>
    exact .ptr a b off (Nat.lt_of_lt_of_le hb h.next) fun hl' => by
      obtain ⟨h1, h2⟩ := h.live b hb hl'
      rw [h2]; exact hl h1
  | fptr cb off d x hc _ ih => exact .fptr cb off d x (fun j c hj => ⟨h.fro _ _ (hc j c hj).1, (cell _ _ (hc j c hj).1).trans (hc j c hj).2⟩) ih
  | nils => exact .nils
  | sref a cap b off len sz hb hc hl =>
    exact .sref a cap b off len sz (Nat.lt_of_lt_of_le hb h.next) hc fun hl' => by
      obtain ⟨h1, h2⟩ := h.live b hb hl'
      obtain ⟨ha, cs, e, fr, hw, hs⟩ := hl h1
      obtain ⟨cs', fr', hw', hs'⟩ := h.size _ _ _ _ hw
      exact ⟨fun hp => by rw [h2]; exact ha hp, cs', e, fr', by rw [h2]; exact hw', by omega⟩
  | fsl cb off cap sz es x hle hc _ ih =>
    exact .fsl cb off cap sz es x hle (fun i d hd => ⟨(hc i d hd).1, fun j c hj => ⟨h.fro _ _ ((hc i d hd).2 j c hj).1, (cell _ _ ((hc i d hd).2 j c hj).1).trans ((hc i d hd).2 j c hj).2⟩⟩) ih
  | nilm => exact .nilm
  | mref r b hb hl =>
    exact .mref r b (Nat.lt_of_lt_of_le hb h.next) fun hl' => by
      obtain ⟨h1, h2⟩ := h.live b hb hl'
      rw [h2]; exact hl h1
  | nilf => exact .nilf
  | func f cs ds hs _ ih => exact .func f cs ds hs ih
  | yld r l hb hl =>
    exact .yld r l (Nat.lt_of_lt_of_le hb h.next) fun hl' => by
      obtain ⟨h1, h2⟩ := h.live l hb hl'
      rw [h2]; exact hl h1
  | nili => exact .nili
  | iface t v d _ ih => exact .iface t v d ih
  | agg cs ds hs _ ih => exact .agg cs ds hs ih
  | tuple cs ds hs _ ih => exact .tuple cs ds hs ih

theorem VR.mono (h : Le ρ F w M ρ' F' w' M') (cell : ∀ cb off, F cb off → w'.cell? ⟨cb, off, none⟩ = w.cell? ⟨cb, off, none⟩) {v : Value} {d : V} (r : VR ρ F w M v d) : VR ρ' F' w' M' v d := r.monoW h.lw cell
theorem VR.le {v : Value} {d : V} (r : VR ρ F w M v d) (h : Le ρ F w M ρ' F' w' M') (m : MR R B0 ρ F w M) : VR ρ' F' w' M' v d := r.mono h fun _ _ hf => h.cell m hf
theorem VRs.mono {cs : Array Value} {ds : List V} (r : VRs ρ F w M cs ds) (h : Le ρ F w M ρ' F' w' M') (cell : ∀ cb off, F cb off → w'.cell? ⟨cb, off, none⟩ = w.cell? ⟨cb, off, none⟩) : VRs ρ' F' w' M' cs ds :=
  ⟨r.1, fun i c d hc hd => (r.2 i c d hc hd).mono h cell⟩
theorem ER.monoW {cs : Array Value} {E : T V} (r : ER ρ F w M cs E) (h : Lw ρ F w M ρ' F' w' M') (cell : ∀ cb off, F cb off → w'.cell? ⟨cb, off, none⟩ = w.cell? ⟨cb, off, none⟩) : ER ρ' F' w' M' cs E :=
  fun n d hd => let ⟨c, h1, h2⟩ := r n d hd; ⟨c, h1, h2.monoW h cell⟩
theorem ER.mono {cs : Array Value} {E : T V} (r : ER ρ F w M cs E) (h : Le ρ F w M ρ' F' w' M') (cell : ∀ cb off, F cb off → w'.cell? ⟨cb, off, none⟩ = w.cell? ⟨cb, off, none⟩) : ER ρ' F' w' M' cs E :=
  fun n d hd => let ⟨c, h1, h2⟩ := r n d hd; ⟨c, h1, h2.mono h cell⟩
theorem ER.le {cs : Array Value} {E : T V} (r : ER ρ F w M cs E) (h : Le ρ F w M ρ' F' w' M') (m : MR R B0 ρ F w M) : ER ρ' F' w' M' cs E := r.mono h fun _ _ hf => h.cell m hf
theorem VRs.le {cs : Array Value} {ds : List V} (r : VRs ρ F w M cs ds) (h : Le ρ F w M ρ' F' w' M') (m : MR R B0 ρ F w M) : VRs ρ' F' w' M' cs ds := r.mono h fun _ _ hf => h.cell m hf

/-- An object whose block has not changed. -/
theorem OR.monoW {cb : Nat} {o : AObj} (r : OR R ρ F w M cb o) (h : Lw ρ F w M ρ' F' w' M') (cell : ∀ cb off, F cb off → w'.cell? ⟨cb, off, none⟩ = w.cell? ⟨cb, off, none⟩) (hb : w'.heap[cb]? = w.heap[cb]?) :
    OR R ρ' F' w' M' cb o := by
  cases o with
  | arr ex cells =>
    obtain ⟨cs, e, h1, h2, h3, h5⟩ := r
    exact ⟨cs, e, hb.trans h1, h2, h3, fun i c hi => let ⟨v, a, b, d⟩ := h5 i c hi; ⟨v, a, b.monoW h cell, d⟩⟩
  | map es =>
    obtain ⟨ms, k, h1, h2, h3⟩ := r
    exact ⟨ms, k, hb.trans h1, h2, fun i me p a b => ⟨(h3 i me p a b).1.monoW h cell, (h3 i me p a b).2.monoW h cell⟩⟩
  | loop q =>
    obtain ⟨lp, h1, h2, h3, h5, h6, h7, h8, h9, h10⟩ := r
    exact ⟨lp, hb.trans h1, h2, h3, h5, h6, h7, h8, h9, h10.monoW h cell⟩
  | dfr => exact hb.trans r

theorem OR.mono {cb : Nat} {o : AObj} (r : OR R ρ F w M cb o) (h : Le ρ F w M ρ' F' w' M') (cell : ∀ cb off, F cb off → w'.cell? ⟨cb, off, none⟩ = w.cell? ⟨cb, off, none⟩) (hb : w'.heap[cb]? = w.heap[cb]?) :
    OR R ρ' F' w' M' cb o := r.monoW h.lw cell hb

/-! ### The four steps of memory -/

/-- A world with the same heap (a draw). -/
theorem Stp.same (m : MR R B0 ρ F w M) (hh : w'.heap = w.heap) (ho : w'.os = w.os) (ht : w'.tape = w.tape) (hp : w'.output = w.output) : Stp R B0 ρ F w M ρ F w' M := by
  have le : Le ρ F w M ρ F w' M := ⟨Nat.le_refl _, fun _ _ h => ⟨h, rfl⟩, by rw [hh]; exact Nat.le_refl _, ho, ht, hp, fun cb cs e fr h => ⟨cs, fr, by rw [hh]; exact h, rfl⟩, fun _ _ _ => by rw [hh], fun _ _ h => h, fun b hb _ => ⟨b, hb, rfl⟩, fun _ _ h => .inl h⟩
  have cell : ∀ cb off, F cb off → w'.cell? ⟨cb, off, none⟩ = w.cell? ⟨cb, off, none⟩ := fun cb off _ => cell_block (by rw [hh])
  exact ⟨le, ⟨fun b o h => (m.obj b o h).mono le cell (by rw [hh]), m.inj, m.base, m.bound, fun b h => by rw [hh]; exact m.lt b h, m.nofro, fun cb off h => by rw [hh]; exact m.frolt cb off h, by rw [hh]; exact m.here⟩⟩

/-- A name is forgotten. -/
theorem Stp.drop (m : MR R B0 ρ F w M) (b : Nat) : Stp R B0 ρ F w M ρ F w (M.drop b) := by
  have lv : ∀ c, (M.drop b).get c ≠ none → M.get c ≠ none := fun c h => by
    rw [Mem.get_drop] at h; split at h
    · exact absurd rfl h
    · exact h
  have le : Le ρ F w M ρ F w (M.drop b) := ⟨Nat.le_refl _, fun c _ h => ⟨lv c h, rfl⟩, Nat.le_refl _, rfl, rfl, rfl, fun cb cs e fr h => ⟨cs, fr, h, rfl⟩, fun _ _ _ => rfl, fun _ _ h => h, fun c hc _ => ⟨c, lv c hc, rfl⟩, fun _ _ h => .inl h⟩
  refine ⟨le, ⟨fun c o h => ?_, fun c d hc hd => m.inj c d (lv c hc) (lv d hd), fun c h => m.base c (lv c h), fun c h => m.bound c (lv c h), fun c h => m.lt c (lv c h), fun c off h => m.nofro c off (lv c h), m.frolt, m.here⟩⟩
  rw [Mem.get_drop] at h; split at h
  · cases h
  · exact (m.obj c o h).mono le (fun _ _ _ => rfl) rfl

/-- A new block. -/
theorem Stp.alloc (m : MR R B0 ρ F w M) (o : Obj) (no : AObj)
    (hor : ∀ ρ', Le ρ F w M ρ' F (w.alloc o) (M.alloc no) → (∀ cb off, F cb off → (w.alloc o).cell? ⟨cb, off, none⟩ = w.cell? ⟨cb, off, none⟩) → ρ' M.next = w.heap.size → OR R ρ' F (w.alloc o) (M.alloc no) w.heap.size no) :
    ∃ ρ', Stp R B0 ρ F w M ρ' F (w.alloc o) (M.alloc no) ∧ ρ' M.next = w.heap.size := by
  have hsz : (w.alloc o).heap.size = w.heap.size + 1 := World.size_alloc ..
  have old : ∀ k, k < w.heap.size → (w.alloc o).heap[k]? = w.heap[k]? := fun k hk => RowKit.Below.heap_alloc w o k hk
  let ρ' : Nat → Nat := fun c => if c = M.next then w.heap.size else ρ c
  have hnx : ρ' M.next = w.heap.size := by simp [ρ']
  have hne : ∀ c, c ≠ M.next → ρ' c = ρ c := fun c h => by simp [ρ', h]
  have lv : ∀ c, (M.alloc no).get c ≠ none → c = M.next ∨ (c ≠ M.next ∧ M.get c ≠ none) := fun c h => by
    rw [Mem.get_alloc] at h; split at h
    · exact .inl ‹_›
    · exact .inr ⟨‹_›, h⟩
  have le : Le ρ F w M ρ' F (w.alloc o) (M.alloc no) := by
    refine ⟨Nat.le_succ _, fun c hc h => ?_, by omega, rfl, rfl, rfl, fun cb cs e fr h => ⟨cs, fr, ?_, rfl⟩, fun cb h _ => old cb h, fun _ _ h => h, fun c hc hlt => ?_, fun _ _ h => .inl h⟩
    · rcases lv c h with rfl | ⟨h1, h2⟩
      · omega
      · exact ⟨h2, hne c h1⟩
    · rw [old cb ?_]; exact h
      rcases Nat.lt_or_ge cb w.heap.size with h' | h'
      · exact h'
      · rw [Array.getElem?_eq_none h'] at h; cases h
    · rcases lv c hc with rfl | ⟨h1, h2⟩
      · omega
      · exact ⟨c, h2, (hne c h1).symm⟩
  have cell : ∀ cb off, F cb off → (w.alloc o).cell? ⟨cb, off, none⟩ = w.cell? ⟨cb, off, none⟩ := fun cb off h => cell_block (old cb (m.frolt _ _ h))
  refine ⟨ρ', ⟨le, ⟨fun c q h => ?_, fun c d hc hd e => ?_, fun c h => ?_, fun c h => ?_, fun c h => ?_, fun c off h => ?_, fun cb off h => ?_, ?_⟩⟩, hnx⟩
  · rw [Mem.get_alloc] at h; split at h
    · rename_i hc; subst hc; cases h; rw [hnx]; exact hor ρ' le cell hnx
    · rename_i hc; rw [hne c hc]
      exact (m.obj c q h).mono le cell (old _ (m.lt c (by rw [h]; simp)))
  · rcases lv c hc with rfl | ⟨h1, h2⟩ <;> rcases lv d hd with rfl | ⟨h3, h4⟩
    · rfl
    · rw [hnx, hne d h3] at e; have := m.lt d h4; omega
    · rw [hnx, hne c h1] at e; have := m.lt c h2; omega
    · rw [hne c h1, hne d h3] at e; exact m.inj c d h2 h4 e
  · rcases lv c h with rfl | ⟨h1, h2⟩
    · rw [hnx]; exact m.here
    · rw [hne c h1]; exact m.base c h2
  · rcases lv c h with rfl | ⟨h1, h2⟩
    · simp
    · have := m.bound c h2; simp; omega
  · rcases lv c h with rfl | ⟨h1, h2⟩
    · rw [hnx]; omega
    · rw [hne c h1]; have := m.lt c h2; omega
  · rcases lv c h with rfl | ⟨h1, h2⟩
    · rw [hnx]; intro hf; have := m.frolt _ _ hf; omega
    · rw [hne c h1]; exact m.nofro c off h2
  · have := m.frolt _ _ h; omega
  · have := m.here; omega

/-- A block's content is written anew, under its name. -/
theorem Stp.put (m : MR R B0 ρ F w M) {b : Nat} (hb : M.get b ≠ none) (o : Obj) (no : AObj)
    (hk : ∀ cs e fr, w.heap[ρ b]? = some (.cells cs e fr) → ∃ cs' fr', o = .cells cs' e fr' ∧ cs'.size = cs.size)
    (hor : Le ρ F w M ρ F (w.putObj (ρ b) o) (M.set b no) → (∀ cb off, F cb off → (w.putObj (ρ b) o).cell? ⟨cb, off, none⟩ = w.cell? ⟨cb, off, none⟩) → (w.putObj (ρ b) o).heap[ρ b]? = some o →
      OR R ρ F (w.putObj (ρ b) o) (M.set b no) (ρ b) no) :
    Stp R B0 ρ F w M ρ F (w.putObj (ρ b) o) (M.set b no) := by
  have hsz : (w.putObj (ρ b) o).heap.size = w.heap.size := World.putObj_size
  have hsame : (w.putObj (ρ b) o).heap[ρ b]? = some o := World.putObj_heap_same (m.lt b hb)
  have old : ∀ k, k ≠ ρ b → (w.putObj (ρ b) o).heap[k]? = w.heap[k]? := fun k hk => World.putObj_heap_other hk
  have lv : ∀ c, (M.set b no).get c ≠ none → M.get c ≠ none := fun c h => by
    rw [Mem.get_set] at h; split at h
    · rename_i e; subst e; exact hb
    · exact h
  have le : Le ρ F w M ρ F (w.putObj (ρ b) o) (M.set b no) := by
    refine ⟨Nat.le_refl _, fun c _ h => ⟨lv c h, rfl⟩, by omega, rfl, rfl, rfl, fun cb cs e fr h => ?_, fun cb _ h => old cb (fun e => h b hb e.symm), fun _ _ h => h, fun c hc _ => ⟨c, lv c hc, rfl⟩, fun _ _ h => .inl h⟩
    by_cases e' : cb = ρ b
    · subst e'
      obtain ⟨cs', fr', rfl, h2⟩ := hk _ _ _ h
      exact ⟨cs', fr', hsame, h2⟩
    · exact ⟨cs, fr, by rw [old cb e']; exact h, rfl⟩
  have cell : ∀ cb off, F cb off → (w.putObj (ρ b) o).cell? ⟨cb, off, none⟩ = w.cell? ⟨cb, off, none⟩ := fun cb off h => cell_block (old cb (fun e => m.nofro b off hb (e ▸ h)))
  refine ⟨le, ⟨fun c q h => ?_, fun c d hc hd => m.inj c d (lv c hc) (lv d hd), fun c h => m.base c (lv c h), fun c h => m.bound c (lv c h), fun c h => by rw [hsz]; exact m.lt c (lv c h), fun c off h => m.nofro c off (lv c h), fun cb off h => by rw [hsz]; exact m.frolt cb off h, by rw [hsz]; exact m.here⟩⟩
  rw [Mem.get_set] at h; split at h
  · rename_i e; subst e; cases h; exact hor le cell hsame
  · rename_i hc
    exact (m.obj c q h).mono le cell (old _ (fun e => hc (m.inj c b (by rw [h]; simp) hb e)))

/-- A block goes on under a new name, with a content that begins alike (an append that found room). -/
theorem Stp.rename (m : MR R B0 ρ F w M) {b : Nat} (hb : M.get b ≠ none) (o : Obj) (no : AObj)
    (hk : ∀ cs e fr, w.heap[ρ b]? = some (.cells cs e fr) → ∃ cs' fr', o = .cells cs' e fr' ∧ cs'.size = cs.size)
    (hor : ∀ ρ', Le ρ F w M ρ' F (w.putObj (ρ b) o) ((M.drop b).alloc no) → (∀ cb off, F cb off → (w.putObj (ρ b) o).cell? ⟨cb, off, none⟩ = w.cell? ⟨cb, off, none⟩) → (w.putObj (ρ b) o).heap[ρ b]? = some o →
      ρ' M.next = ρ b → OR R ρ' F (w.putObj (ρ b) o) ((M.drop b).alloc no) (ρ b) no) :
    ∃ ρ', Stp R B0 ρ F w M ρ' F (w.putObj (ρ b) o) ((M.drop b).alloc no) ∧ ρ' M.next = ρ b := by
  have hsz : (w.putObj (ρ b) o).heap.size = w.heap.size := World.putObj_size
  have hsame : (w.putObj (ρ b) o).heap[ρ b]? = some o := World.putObj_heap_same (m.lt b hb)
  have old : ∀ k, k ≠ ρ b → (w.putObj (ρ b) o).heap[k]? = w.heap[k]? := fun k hk => World.putObj_heap_other hk
  let ρ' : Nat → Nat := fun c => if c = M.next then ρ b else ρ c
  have hnx : ρ' M.next = ρ b := by simp [ρ']
  have hne : ∀ c, c ≠ M.next → ρ' c = ρ c := fun c h => by simp [ρ', h]
  have lv : ∀ c, ((M.drop b).alloc no).get c ≠ none → c = M.next ∨ (c ≠ M.next ∧ c ≠ b ∧ M.get c ≠ none) := fun c h => by
    rw [Mem.get_alloc, Mem.next_drop, Mem.get_drop] at h
    split at h
    · exact .inl ‹_›
    · split at h
      · exact absurd rfl h
      · exact .inr ⟨‹_›, ‹_›, h⟩
  have le : Le ρ F w M ρ' F (w.putObj (ρ b) o) ((M.drop b).alloc no) := by
    refine ⟨Nat.le_succ _, fun c hc h => ?_, by omega, rfl, rfl, rfl, fun cb cs e fr h => ?_, fun cb _ h => old cb (fun e => h b hb e.symm), fun _ _ h => h, fun c hc _ => ?_, fun _ _ h => .inl h⟩
    · rcases lv c h with rfl | ⟨h1, _, h2⟩
      · omega
      · exact ⟨h2, hne c h1⟩
    · by_cases e' : cb = ρ b
      · subst e'
        obtain ⟨cs', fr', rfl, h2⟩ := hk _ _ _ h
        exact ⟨cs', fr', hsame, h2⟩
      · exact ⟨cs, fr, by rw [old cb e']; exact h, rfl⟩
    · rcases lv c hc with rfl | ⟨h1, _, h2⟩
      · exact ⟨b, hb, hnx.symm⟩
      · exact ⟨c, h2, (hne c h1).symm⟩
  have cell : ∀ cb off, F cb off → (w.putObj (ρ b) o).cell? ⟨cb, off, none⟩ = w.cell? ⟨cb, off, none⟩ := fun cb off h => cell_block (old cb (fun e => m.nofro b off hb (e ▸ h)))
  refine ⟨ρ', ⟨le, ⟨fun c q h => ?_, fun c d hc hd e => ?_, fun c h => ?_, fun c h => ?_, fun c h => ?_, fun c off h => ?_, fun cb off h => by rw [hsz]; exact m.frolt cb off h, by rw [hsz]; exact m.here⟩⟩, hnx⟩
  · have hl := lv c (by rw [h]; simp)
    rw [Mem.get_alloc, Mem.next_drop, Mem.get_drop] at h
    rcases hl with rfl | ⟨h1, h2, h3⟩
    · rw [if_pos rfl] at h; cases h; rw [hnx]; exact hor ρ' le cell hsame hnx
    · rw [if_neg h1, if_neg h2] at h
      rw [hne c h1]
      exact (m.obj c q h).mono le cell (old _ (fun e => h2 (m.inj c b h3 hb e)))
  · rcases lv c hc with rfl | ⟨h1, h2, h3⟩ <;> rcases lv d hd with rfl | ⟨h4, h5, h6⟩
    · rfl
    · rw [hnx, hne d h4] at e; exact absurd (m.inj b d hb h6 e).symm h5
    · rw [hnx, hne c h1] at e; exact absurd (m.inj c b h3 hb e) h2
    · rw [hne c h1, hne d h4] at e; exact m.inj c d h3 h6 e
  · rcases lv c h with rfl | ⟨h1, _, h2⟩
    · rw [hnx]; exact m.base b hb
    · rw [hne c h1]; exact m.base c h2
  · rcases lv c h with rfl | ⟨h1, _, h2⟩
    · simp
    · have := m.bound c h2; simp; omega
  · rcases lv c h with rfl | ⟨h1, _, h2⟩
    · rw [hnx, hsz]; exact m.lt b hb
    · rw [hne c h1, hsz]; exact m.lt c h2
  · rcases lv c h with rfl | ⟨h1, _, h2⟩
    · rw [hnx]; exact m.nofro b off hb
    · rw [hne c h1]; exact m.nofro c off h2

end Go.Ax
