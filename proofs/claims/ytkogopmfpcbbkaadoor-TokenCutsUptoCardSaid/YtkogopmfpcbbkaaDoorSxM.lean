/-
  SX, part M: literals.
-/
import Derived.Test.YtkogopmfpcbbkaaDoorSxL
set_option linter.unusedVariables false
set_option linter.unusedSimpArgs false
namespace Go.Sx
open Go
open Go.RowKit (Below)
variable {P : Program} {E : Env} {base : Nat} {ok : Nat → Prop} {G : Gam} {w : GW} {M : Mem} {R : Type} {slot : Nat}

theorem setRange' (off : Nat) : ∀ (vs : List Value) (n : Nat) (cs : List Value), off + n + vs.length ≤ cs.length →
    ((vs.zipIdx n).foldl (fun (cs : Array Value) (p : Value × Nat) => cs.setIfInBounds (off + p.2) p.1) cs.toArray) = (cs.take (off + n) ++ vs ++ cs.drop (off + n + vs.length)).toArray
  | [], n, cs, _ => by simp
  | v :: r, n, cs, h => by
    simp only [List.zipIdx_cons, List.foldl_cons, List.length_cons] at h ⊢
    have e : cs.toArray.setIfInBounds (off + n) v = (cs.set (off + n) v).toArray := by simp
    rw [e, setRange' off r (n + 1) (cs.set (off + n) v) (by simp; omega)]
    congr 1
    apply List.ext_getElem?
    intro i
    simp only [List.getElem?_append, List.length_take, List.length_set, List.getElem?_take, List.getElem?_set, List.getElem?_drop, List.length_append]
    have h1 : min (off + (n + 1)) cs.length = off + n + 1 := by omega
    have h2 : min (off + n) cs.length = off + n := by omega
    rw [h1, h2]
    by_cases a : i < off + n
    · simp [a, show i < off + n + 1 by omega, show ¬ off + n = i by omega, show i < off + n + 1 + r.length by omega, show i < off + n + (r.length + 1) by omega, show i < off + (n + 1) by omega]
    · by_cases b : i = off + n
      · subst b
        simp [show off + n < off + n + 1 by omega, show off + n < cs.length by omega, show off + n < off + n + 1 + r.length by omega, show off + n < off + (n + 1) by omega]
      · by_cases c : i < off + n + 1 + r.length
        · have : i - (off + n) = (i - (off + n + 1)) + 1 := by omega
          simp [a, show ¬ i < off + n + 1 by omega, c, show i < off + n + (r.length + 1) by omega, this]
        · simp [a, show ¬ i < off + n + 1 by omega, c, show ¬ i < off + n + (r.length + 1) by omega, show ¬ off + n = off + (n + 1) + r.length + (i - (off + n + 1 + r.length)) by omega]
          congr 1
          omega
theorem setRange (vs : Array Value) (off : Nat) (cs : List Value) (h : off + vs.size ≤ cs.length) :
    (vs.zipIdx.foldl (fun cs (c, j) => cs.setIfInBounds (off + j) c) cs.toArray) = (cs.take off ++ vs.toList ++ cs.drop (off + vs.size)).toArray := by
  have := setRange' off vs.toList 0 cs (by simpa using h)
  rw [← Array.foldl_toList]
  simp only [Array.toList_zipIdx]
  simpa using this

/-- Lists of cells. -/
def LR (R : AV → Value → Prop) (cs : List AV) (vs : List Value) : Prop := cs.length = vs.length ∧ ∀ i (h : i < cs.length) (h' : i < vs.length), vs[i].oneCell' = true ∧ R cs[i] vs[i]
theorem LR.append {R : AV → Value → Prop} {a c : List AV} {b d : List Value} (h : LR R a b) (h' : LR R c d) : LR R (a ++ c) (b ++ d) := by
  refine ⟨by simp [h.1, h'.1], fun i h1 h2 => ?_⟩
  by_cases hi : i < a.length
  · have hb : i < b.length := by rw [← h.1]; exact hi
    simp only [List.getElem_append_left hi, List.getElem_append_left hb]
    exact h.2 i hi hb
  · have hb : ¬ i < b.length := by rw [← h.1]; exact hi
    simp only [List.getElem_append_right (Nat.le_of_not_lt hi), List.getElem_append_right (Nat.le_of_not_lt hb)]
    have := h'.2 (i - a.length) (by simp at h1; omega) (by simp at h2; rw [h.1]; omega)
    simp only [h.1] at this ⊢
    exact this
theorem LR.take {R : AV → Value → Prop} {a : List AV} {b : List Value} (h : LR R a b) (n : Nat) : LR R (a.take n) (b.take n) :=
  ⟨by simp [h.1], fun i h1 h2 => by simp only [List.getElem_take]; exact h.2 i (by simp at h1; omega) (by simp at h2; omega)⟩
theorem LR.drop {R : AV → Value → Prop} {a : List AV} {b : List Value} (h : LR R a b) (n : Nat) : LR R (a.drop n) (b.drop n) :=
  ⟨by simp [h.1], fun i h1 h2 => by simp only [List.getElem_drop]; exact h.2 (n + i) (by simp at h1; omega) (by simp at h2; omega)⟩
theorem LR.of_zero {D : Nat → Prop} {σ : Nat → SB} {cs : List AV} {vs : List Value} (h : zall cs vs = true) : LR (VR D σ w) cs vs := by
  obtain ⟨hl, hh⟩ := zall_spec (D := D) (w := w) h
  exact ⟨hl, fun i h1 h2 => ⟨(hh i h1 h2).2, .data _ _ (hh i h1 h2).1⟩⟩
theorem LR.cellsR {R : AV → Value → Prop} {cs : List AV} {vs : List Value} (h : LR R cs vs) : CellsR R cs vs.toArray := ⟨by simp [h.1], fun i h1 h2 => by simpa using h.2 i h1 (by simpa using h2)⟩
theorem LR.agg {D : Nat → Prop} {σ : Nat → SB} {cs : List AV} {vs : List Value} (h : LR (VR D σ w) cs vs) : VR D σ w (.agg cs) (.agg vs.toArray) :=
  .agg cs vs h.1 (fun v hv => by obtain ⟨i, hi, rfl⟩ := List.getElem_of_mem hv; exact (h.2 i (by rw [h.1]; exact hi) hi).1) fun i h1 h2 => (h.2 i h1 h2).2

/-- The cells of a value that fits. -/
def cellsA : AV → List AV
  | .agg vs => vs
  | v => [v]
theorem fits_cells {D : Nat → Prop} {σ : Nat → SB} {size : Nat} {v : AV} {x : Value} (h : fitsA size v = true) (hv : VR D σ w v x) : x.cells.size = size ∧ LR (VR D σ w) (cellsA v) x.cells.toList ∧ (cellsA v).length = size := by
  have one : (∀ cs, v ≠ .agg cs) → (∀ cs, v ≠ .tup cs) → v ≠ .junk → v ≠ .undef → size = 1 → cellsA v = [v] → x.cells.size = size ∧ LR (VR D σ w) (cellsA v) x.cells.toList ∧ (cellsA v).length = size := by
    intro h1 h2 h3 h4 hs hc
    have ho := hv.one h1 h2 h3 h4
    rw [cells_one ho, hc, hs]
    exact ⟨rfl, ⟨rfl, fun i h1 h2 => by have : i = 0 := by simp at h1; exact h1
                                        subst this; exact ⟨ho, hv⟩⟩, rfl⟩
  cases v with
  | agg vs =>
    obtain ⟨xs, hl, ho, hh, rfl⟩ := hv.agg_inv
    have hs := Nat.eq_of_beq_eq_true (show Nat.beq vs.length size = true from h)
    refine ⟨?_, ?_, hs⟩
    · show xs.toArray.size = size
      simp; omega
    · show LR (VR D σ w) vs xs.toArray.toList
      exact ⟨by simpa using hl, fun i h1 h2 => ⟨ho _ (by simp), hh i h1 (by simpa using h2)⟩⟩
  | tup vs => simp [fitsA] at h
  | junk => simp [fitsA] at h
  | undef => simp [fitsA] at h
  | _ => exact one (by intro cs hc; cases hc) (by intro cs hc; cases hc) (by intro hc; cases hc) (by intro hc; cases hc) (Nat.eq_of_beq_eq_true h) rfl

theorem fillA_cells (cs : List AV) (off : Nat) (v : AV) (hf : off + (cellsA v).length ≤ cs.length) : fillA cs off v = cs.take off ++ cellsA v ++ cs.drop (off + (cellsA v).length) := by
  cases v with
  | agg vs => rfl
  | _ =>
    simp only [fillA, cellsA, List.length_singleton] at hf ⊢
    rw [List.set_eq_take_append_cons_drop, if_pos (by omega)]
    simp

/-- One part is laid. -/
theorem fill_step {D : Nat → Prop} {σ : Nat → SB} {place : Nat → Option (Nat × Nat)} {cs : List AV} {vs : List Value} (h : LR (VR D σ w) cs vs) {i off size : Nat} {v : AV} {x : Value} (hp : place i = some (off, size)) (hf : fitsA size v = true) (hv : VR D σ w v x) (hle : off + size ≤ cs.length) (rest : List (Nat × Value)) :
    ∃ vs', LR (VR D σ w) (fillA cs off v) vs' ∧ (fillA cs off v).length = cs.length ∧ Instr.fill place vs.toArray ((i, x) :: rest) = Instr.fill place vs'.toArray rest := by
  obtain ⟨h1, h2, h3⟩ := fits_cells hf hv
  refine ⟨vs.take off ++ x.cells.toList ++ vs.drop (off + x.cells.size), ?_, ?_, ?_⟩
  · rw [fillA_cells _ _ _ (by rw [h3]; exact hle), h3, h1]
    exact ((h.take off).append h2).append (h.drop (off + size))
  · rw [fillA_cells _ _ _ (by rw [h3]; exact hle)]
    simp
    omega
  · simp only [Instr.fill, hp]
    rw [if_neg (by simp [h1, h.1] at hle ⊢; have := h.1; omega), setRange _ _ _ (by rw [h1, ← h.1]; exact hle)]

theorem buildA_sound (hE : EnvOK P E) {fs : List (Nat × TypeId)} {ev : Operand → AV} {ρ : Operand → Value} {D : Nat → Prop} {σ : Nat → SB} (hev : ∀ x, VR D σ w (ev x) (ρ x)) {place : Nat → Option (Nat × Nat)}
    (hplace : ∀ i f fi, fs[i]? = some f → E.t f.2 = some fi → place i = some (f.1, fi.size)) : ∀ (parts : List (Nat × Operand)) (cs : List AV) (vs : List Value) (cs' : List AV), LR (VR D σ w) cs vs → buildA E fs ev cs parts = some cs' →
    ∃ vs', LR (VR D σ w) cs' vs' ∧ Instr.fill place vs.toArray (parts.map fun (i, x) => (i, ρ x)) = some vs'.toArray
  | [], cs, vs, cs', h, hb => by simp [buildA] at hb; subst hb; exact ⟨vs, h, rfl⟩
  | p :: r, cs, vs, cs', h, hb => by
    simp only [buildA] at hb
    split at hb
    · rename_i f hf
      split at hb
      · rename_i fi hfi
        replace hb := bif_none hb
        obtain ⟨hc, hb⟩ := hb
        simp only [Bool.and_eq_true] at hc
        obtain ⟨vs1, h1, _, h3⟩ := fill_step h (hplace _ _ _ hf hfi) hc.1 (hev p.2) (Nat.le_of_ble_eq_true hc.2) (r.map fun (i, x) => (i, ρ x))
        obtain ⟨vs', h4, h5⟩ := buildA_sound hE hev hplace r _ vs1 cs' h1 hb
        exact ⟨vs', h4, by rw [List.map_cons, h3, h5]⟩
      · simp at hb
    · simp at hb
theorem buildArr_sound {size : Nat} {ev : Operand → AV} {ρ : Operand → Value} {D : Nat → Prop} {σ : Nat → SB} (hev : ∀ x, VR D σ w (ev x) (ρ x)) : ∀ (parts : List (Nat × Operand)) (cs : List AV) (vs : List Value) (cs' : List AV), LR (VR D σ w) cs vs → buildArr size ev cs parts = some cs' →
    ∃ vs', LR (VR D σ w) cs' vs' ∧ Instr.fill (fun i => some (i * size, size)) vs.toArray (parts.map fun (i, x) => (i, ρ x)) = some vs'.toArray
  | [], cs, vs, cs', h, hb => by simp [buildArr] at hb; subst hb; exact ⟨vs, h, rfl⟩
  | p :: r, cs, vs, cs', h, hb => by
    simp only [buildArr] at hb
    replace hb := bif_none hb
    obtain ⟨hc, hb⟩ := hb
    simp only [Bool.and_eq_true] at hc
    obtain ⟨vs1, h1, _, h3⟩ := fill_step (place := fun i => some (i * size, size)) h (i := p.1) rfl hc.1 (hev p.2) (Nat.le_of_ble_eq_true hc.2) (r.map fun (i, x) => (i, ρ x))
    obtain ⟨vs', h4, h5⟩ := buildArr_sound hev r _ vs1 cs' h1 hb
    exact ⟨vs', h4, by rw [List.map_cons, h3, h5]⟩

theorem run_places (hE : EnvOK P E) {w : GW} : ∀ (fs : List Field), (∀ f ∈ fs, ∃ n, P.info? f.type = some n) → (fs.mapM fun f => do pure (f.offset, ← sizeOf f.type) : Sem (List (Nat × Nat))).run P w = .ok (fs.map fun f => (f.offset, P.cellsOf f.type)) w
  | [], _ => rfl
  | f :: r, h => by
    obtain ⟨n, hn⟩ := h f (by simp)
    have ih := run_places hE (w := w) r (fun g hg => h g (by simp [hg]))
    have hs : (sizeOf f.type).run P w = .ok n.size w := by simp [sizeOf, typeInfo, hn]
    rw [List.mapM_cons]
    simp only [Sem.run_bind, hs, Result.andThen_ok, Sem.run_pure, ih, List.map_cons]
    simp [Program.cellsOf, hn]

theorem build_struct_sound (hE : EnvOK P E) {ev : Operand → AV} {ρ : Operand → Value} (hev : ∀ x, VR G.D G.σ w (ev x) (ρ x)) {t : TypeId} {i : TyI} (hi : E.t t = some i) {gs : List (Nat × TypeId)} (hsh : i.sh = .st gs) {parts : Array (Nat × Operand)} {cs : List AV} (h : buildA E gs ev i.zero parts.toList = some cs) :
    ∃ y, (Instr.build t (parts.map fun (i, x) => (i, ρ x))).run P w = .ok y w ∧ VR G.D G.σ w (.agg cs) y := by
  obtain ⟨d, hd, hs, _⟩ := (hE.ty t i hi).und
  rw [hsh] at hs
  obtain ⟨fs, rfl, hf⟩ := shOK_st hs
  obtain ⟨hl, hh⟩ := fsOK_spec hf
  obtain ⟨z, hz, _, hz1, _⟩ := run_zeroValue' (hE.ty t i hi) w
  have hinfo : ∀ f ∈ fs.toList, ∃ n, P.info? f.type = some n := by
    intro f hf'
    obtain ⟨q, hq, rfl⟩ := List.getElem_of_mem hf'
    obtain ⟨_, _, n, hn, _⟩ := hh q hq (by omega)
    exact ⟨n, hn⟩
  have hpl := run_places hE (w := w) fs.toList hinfo
  have hplA : (fs.mapM fun f => do pure (f.offset, ← sizeOf f.type) : Sem (Array (Nat × Nat))).run P w = .ok (fs.toList.map fun f => (f.offset, P.cellsOf f.type)).toArray w := by
    rw [Array.mapM_eq_mapM_toList]
    simp only [Sem.run_map, hpl, Result.andThen_ok]
  obtain ⟨vs', h1, h2⟩ := buildA_sound hE hev (place := fun q => ((fs.toList.map fun f => (f.offset, P.cellsOf f.type)).toArray)[q]?) (fun q f fi hq hfi => by
    obtain ⟨hlt, rfl⟩ := List.getElem?_eq_some_iff.1 hq
    obtain ⟨e1, e2, n, hn, _⟩ := hh q (by omega) hlt
    obtain ⟨n', _, hn', hs', _⟩ := (hE.ty _ fi hfi).info
    have hlt' : q < fs.size := by have := hl; simp at this; omega
    simp only [List.getElem?_toArray, List.getElem?_map, Array.getElem?_toList, Array.getElem?_eq_getElem hlt', Option.map_some]
    have e1' : fs[q].offset = gs[q].1 := by simpa using e1
    have e2' : fs[q].type = gs[q].2 := by simpa using e2
    rw [e1', e2']
    simp [Program.cellsOf, hn', hs']) parts.toList i.zero z.cells.toList cs (LR.of_zero hz1) h
  refine ⟨.agg vs'.toArray, ?_, h1.agg⟩
  have h2' : Instr.fill (fun q => ((fs.toList.map fun f => (f.offset, P.cellsOf f.type)).toArray)[q]?) z.cells (parts.map fun (i, x) => (i, ρ x)).toList = some vs'.toArray := by
    rw [Array.toList_map]; simpa using h2
  unfold Instr.build
  simp only [Sem.run_bind, hz, Result.andThen_ok, run_underlying hd w, hplA]
  rw [h2']
  rfl

theorem build_arr_sound (hE : EnvOK P E) {ev : Operand → AV} {ρ : Operand → Value} (hev : ∀ x, VR G.D G.σ w (ev x) (ρ x)) {t : TypeId} {i : TyI} (hi : E.t t = some i) {n : Nat} {et : TypeId} (hsh : i.sh = .arr n et) {ei : TyI} (hei : E.t et = some ei) {parts : Array (Nat × Operand)} {cs : List AV} (h : buildArr ei.size ev i.zero parts.toList = some cs) :
    ∃ y, (Instr.build t (parts.map fun (i, x) => (i, ρ x))).run P w = .ok y w ∧ VR G.D G.σ w (.agg cs) y := by
  obtain ⟨d, hd, hs, _⟩ := (hE.ty t i hi).und
  rw [hsh] at hs
  rw [shOK_arr hs] at hd
  obtain ⟨z, hz, _, hz1, _⟩ := run_zeroValue' (hE.ty t i hi) w
  obtain ⟨vs', h1, h2⟩ := buildArr_sound hev parts.toList i.zero z.cells.toList cs (LR.of_zero hz1) h
  refine ⟨.agg vs'.toArray, ?_, h1.agg⟩
  have h2' : Instr.fill (fun i => some (i * ei.size, ei.size)) z.cells (parts.map fun (i, x) => (i, ρ x)).toList = some vs'.toArray := by
    rw [Array.toList_map]; simpa using h2
  unfold Instr.build
  simp only [Sem.run_bind, hz, Result.andThen_ok, run_underlying hd w, run_sizeOf' (hE.ty et ei hei) w]
  rw [h2']
  rfl
end Go.Sx
