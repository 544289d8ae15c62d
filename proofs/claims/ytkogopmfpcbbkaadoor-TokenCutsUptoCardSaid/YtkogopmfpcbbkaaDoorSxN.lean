/-
  SX, part N: slices' literals, made slices, lookups.
-/
import Derived.Test.YtkogopmfpcbbkaaDoorSxM
import Derived.Laws.MakeOwn
import Derived.MapKept
set_option linter.unusedVariables false
set_option linter.unusedSimpArgs false
namespace Go.Sx
open Go
open Go.RowKit (Below)
variable {P : Program} {E : Env} {base : Nat} {ok : Nat → Prop} {G : Gam} {w : GW} {M : Mem} {R : Type} {slot : Nat}

theorem fill_order {ρ : Operand → Value} {size : Nat} : ∀ (parts : List (Nat × Operand)) (k : Nat) (pre rest : List Value), inOrder k parts = true → (∀ p ∈ parts, (ρ p.2).cells.size = size) → pre.length = k * size → rest.length = parts.length * size →
    Instr.fill (fun i => some (i * size, size)) (pre ++ rest).toArray (parts.map fun (i, x) => (i, ρ x)) = some (pre ++ (parts.map fun p => (ρ p.2).cells.toList).flatten).toArray
  | [], k, pre, rest, _, _, _, h => by
    have : rest = [] := List.length_eq_zero_iff.1 (by simpa using h)
    subst this
    simp [Instr.fill]
  | p :: r, k, pre, rest, ho, hf, hp, hr => by
    simp only [inOrder, Bool.and_eq_true] at ho
    have hk : p.1 = k := Nat.eq_of_beq_eq_true ho.1
    have hc : (ρ p.2).cells.size = size := hf p (by simp)
    have hr' : rest.length = r.length * size + size := by simp [Nat.add_mul] at hr; exact hr
    have hl : k * size + (ρ p.2).cells.size ≤ (pre ++ rest).length := by simp; omega
    simp only [List.map_cons, Instr.fill, hk]
    rw [if_neg (by simp [hc]; omega), setRange _ _ _ hl]
    have e1 : (pre ++ rest).take (k * size) = pre := by rw [← hp]; simp
    have e2 : (pre ++ rest).drop (k * size + (ρ p.2).cells.size) = rest.drop size := by rw [← hp, hc]; simp [List.drop_append]
    rw [e1, e2, fill_order r (k + 1) (pre ++ (ρ p.2).cells.toList) (rest.drop size) ho.2 (fun q hq => hf q (by simp [hq])) (by simp [hp, hc, Nat.add_mul]) (by simp; omega)]
    simp

theorem flatten_len {size : Nat} : ∀ (ls : List (List Value)), (∀ l ∈ ls, l.length = size) → ls.flatten.length = ls.length * size
  | [], _ => by simp
  | l :: r, h => by
    have := flatten_len r fun x hx => h x (by simp [hx])
    simp only [List.flatten_cons, List.length_append, List.length_cons, Nat.add_mul, this, h l (by simp)]
    omega
theorem flatten_get {size : Nat} : ∀ (ls : List (List Value)), (∀ l ∈ ls, l.length = size) → ∀ (i : Nat) (hi : i < ls.length) (j : Nat), j < size → ls.flatten[i * size + j]? = (ls[i])[j]?
  | [], _, i, hi, _, _ => by simp at hi
  | l :: r, h, 0, hi, j, hj => by
    have := h l (by simp)
    simp only [List.flatten_cons, Nat.zero_mul, Nat.zero_add, List.getElem_cons_zero]
    rw [List.getElem?_append_left (by omega)]
  | l :: r, h, i + 1, hi, j, hj => by
    have hl := h l (by simp)
    simp only [List.flatten_cons, List.getElem_cons_succ]
    rw [List.getElem?_append_right (by rw [Nat.add_mul]; omega), hl, ← flatten_get r (fun x hx => h x (by simp [hx])) i (by simpa using hi) j hj]
    congr 1
    rw [Nat.add_mul]; omega

/-- The cells of a value of a kind. -/
theorem of_cells {D : Nat → Prop} {w : GW} {k : Kd} {y : k.T} {x : Value} (h : DR D w (k.of y) x) : LR (DR D w) (k.cells y) x.cells.toList := by
  have one : ∀ (v : AV) (x : Value), DR D w v x → x.oneCell' = true → LR (DR D w) [v] x.cells.toList := by
    intro v x h ho
    rw [cells_one ho]
    exact ⟨rfl, fun i h1 h2 => by have : i = 0 := by simp at h1; exact h1
                                  subst this; exact ⟨ho, h⟩⟩
  cases k with
  | st s =>
    cases h with
    | agg _ vs hl ho hh =>
      show LR (DR D w) (s.cells y) vs.toArray.toList
      exact ⟨by simpa using hl, fun i h1 h2 => ⟨ho _ (by simp), by simpa using hh i h1 (by simpa using h2)⟩⟩
  | int k => exact one _ _ h (by cases h; rfl)
  | bool => exact one _ _ h (by cases h; rfl)
  | str => exact one _ _ h (by cases h; rfl)
  | sl e => exact one _ _ h (by cases h; rfl)
theorem elemsOf_spec {e : Kd} : ∀ {vs : List AV} {l : List e.T}, elemsOf e vs = some l → vs.length = l.length ∧ ∀ i (h : i < vs.length) (h' : i < l.length), (vs[i]).as e = some l[i]
  | [], l, h => by simp [elemsOf] at h; subst h; exact ⟨rfl, fun i h => by simp at h⟩
  | v :: r, l, h => by
    simp only [elemsOf, Option.bind_eq_some_iff, Option.some.injEq] at h
    obtain ⟨a, ha, b, hb, rfl⟩ := h
    obtain ⟨hl, hh⟩ := elemsOf_spec hb
    refine ⟨by simp [hl], fun i h1 h2 => ?_⟩
    cases i with
    | zero => exact ha
    | succ i => exact hh i (by simpa using h1) (by simpa using h2)
theorem flatA_cons (v : AV) (r : List AV) : flatA (v :: r) = cellsA v ++ flatA r := by cases v <;> rfl
theorem flatA_LR {D : Nat → Prop} {σ : Nat → SB} {size : Nat} {ev : Operand → AV} {ρ : Operand → Value} (hev : ∀ x, VR D σ w (ev x) (ρ x)) : ∀ (parts : List (Nat × Operand)), (parts.all (fun p => fitsA size (ev p.2))) = true →
    LR (VR D σ w) (flatA (parts.map fun p => ev p.2)) (parts.map fun p => (ρ p.2).cells.toList).flatten
  | [], _ => ⟨rfl, fun i h => by simp [flatA] at h⟩
  | p :: r, h => by
    simp only [List.all_cons, Bool.and_eq_true] at h
    simp only [List.map_cons, flatA_cons, List.flatten_cons]
    exact (fits_cells h.1 (hev p.2)).2.1.append (flatA_LR hev r h.2)

theorem buildSlice_sound (hE : EnvOK P E) (hm : MemOK base ok G w M) (hslot : G.σ slot = .none) {ev : Operand → AV} {ρ : Operand → Value} (hev : ∀ x, VR G.D G.σ w (ev x) (ρ x)) {t : TypeId} {len : Nat} {parts : Array (Nat × Operand)} {i ei : TyI} {et : TypeId} (hi : E.t t = some i) (hsh : i.sh = .sl et) (hei : E.t et = some ei)
    (ho : inOrder 0 parts.toList = true) (hn : parts.toList.length = len) (h1000 : len * ei.size ≤ 1000) (hpos : 0 < ei.size) (hfit : (parts.toList.all fun p => fitsA ei.size (ev p.2)) = true) :
    (∀ (kd : Kd) (vs : List AV) (l : List kd.T), ei.kd = some kd → dataArgs M (parts.toList.map fun p => ev p.2) = some vs → elemsOf kd vs = some l →
      Calm P G w slot (some (.vec kd l)) (.vec slot) (((do pure (.value (← Instr.buildSlice t len (parts.map fun (i, x) => (i, ρ x)))) : Sem Next)).run P w)) ∧
    Calm P G w slot (some (.cells (flatA (parts.toList.map fun p => ev p.2)))) (.csl slot 0 len) (((do pure (.value (← Instr.buildSlice t len (parts.map fun (i, x) => (i, ρ x)))) : Sem Next)).run P w) := by
  obtain ⟨d, hd, hs, _⟩ := (hE.ty t i hi).und
  rw [hsh] at hs
  rw [shOK_sl hs] at hd
  obtain ⟨z, hz, _, hz1, hz2⟩ := run_zeroValue' (hE.ty et ei hei) w
  have hcells : ∀ p ∈ parts.toList, (ρ p.2).cells.size = ei.size := fun p hp => (fits_cells (List.all_eq_true.1 hfit p hp) (hev p.2)).1
  let ls : List (List Value) := parts.toList.map fun p => (ρ p.2).cells.toList
  have hls : ∀ l ∈ ls, l.length = ei.size := by
    intro l hl
    simp only [ls, List.mem_map] at hl
    obtain ⟨p, hp, rfl⟩ := hl
    simpa using hcells p hp
  have hlsl : ls.length = len := by simp [ls, ← hn]
  have hrun : (Instr.buildSlice t len (parts.map fun (i, x) => (i, ρ x))).run P w = .ok (.slice (some (blkA w.heap.size)) len len) (w.alloc (.cells ls.flatten.toArray et)) := by
    unfold Instr.buildSlice
    simp only [Sem.run_bind, run_underlying hd w, Result.andThen_ok, run_sizeOf' (hE.ty et ei hei) w]
    rw [if_neg (by omega)]
    have hfill : ∀ zero : Array Value, Instr.fill (fun i => some (i * ei.size, ei.size)) ((Array.range (len * ei.size)).map (zero[· % zero.size]!)) (parts.map fun (i, x) => (i, ρ x)).toList = some ls.flatten.toArray := by
      intro zero
      have := fill_order (ρ := ρ) (size := ei.size) parts.toList 0 [] ((Array.range (len * ei.size)).map (zero[· % zero.size]!)).toList ho hcells (by simp) (by simp [← hn])
      rw [List.nil_append, List.nil_append, Array.toArray_toList] at this
      rw [Array.toList_map]
      exact this
    by_cases h0 : len * ei.size = 0
    · rw [if_pos h0]
      simp only [Sem.run_pure, Result.andThen_ok, Sem.run_bind, hfill]
      simp [newRow, newObj, Sem.run, blkA]
    · rw [if_neg h0]
      simp only [Sem.run_bind, hz, Sem.run_pure, Result.andThen_ok, hfill]
      simp [newRow, newObj, Sem.run, blkA]
  constructor
  · intro kd vs l hkd hvs hl
    obtain ⟨e1, e2⟩ := dataArgs_sound hm hvs
    obtain ⟨e3, e4⟩ := elemsOf_spec hl
    have hks : kd.size = ei.size := (hz2 kd hkd).1
    have hll : l.length = len := by rw [← e3, ← e1]; simpa using hn
    simp only [Sem.run_bind, hrun, Result.andThen_ok, Sem.run_pure]
    have hstep := Step.vec (slot := slot) (w := w) hslot hm.dlt (e := kd) (l := l) (vs := ls.flatten.toArray) (cap := len) et (by omega) (by simp only [List.size_toArray]; rw [flatten_len ls hls, hlsl, hks]) (by
      intro v hv
      simp only [ls, List.mem_flatten, List.mem_map] at hv
      obtain ⟨c, ⟨p, hp, rfl⟩, hv⟩ := hv
      obtain ⟨_, h2, _⟩ := fits_cells (List.all_eq_true.1 hfit p hp) (hev p.2)
      obtain ⟨q, hq, rfl⟩ := List.getElem_of_mem hv
      exact (h2.2 q (by rw [h2.1]; exact hq) hq).1) (by
      intro q hq j hj
      have hj' : j < ei.size := by rw [← hks]; exact cells_get hq hj
      have hq1 : q < vs.length := by omega
      have hq2 : q < parts.toList.length := by omega
      have h5 := e2 q (by simpa using hq2) hq1 (ρ (parts.toList[q]).2) (by simpa using hev _)
      have h6 := of_cells (AV.as_as (e4 q hq1 hq) _ _ _ h5)
      have h7 := flatten_get ls hls q (by omega) j hj'
      have hjc : j < (ρ (parts.toList[q]).2).cells.toList.length := by rw [← h6.1]; exact hj
      have h8 : ls.flatten.toArray.getD (q * kd.size + j) undef = (ρ (parts.toList[q]).2).cells.toList[j] := by
        rw [hks, Array.getD_eq_getD_getElem?]
        simp only [List.getElem?_toArray, h7]
        simp only [ls, List.getElem_map]
        rw [List.getElem?_eq_getElem hjc]; rfl
      rw [h8]
      exact (h6.2 j hj hjc).2)
    rw [hll] at hstep
    exact ⟨_, hstep, VR.vec_new ..⟩
  · simp only [Sem.run_bind, hrun, Result.andThen_ok, Sem.run_pure]
    have hLR : LR (VR G.D G.σ w) (flatA (parts.toList.map fun p => ev p.2)) ls.flatten := flatA_LR hev parts.toList hfit
    refine ⟨_, Step.cells hslot hm.dlt et hLR.cellsR, ?_⟩
    have := VR.csl (D := G.D) (σ := (G.up slot (.blk w.heap.size)).σ) (w := w.alloc (.cells ls.flatten.toArray et)) slot 0 len w.heap.size (Gam.up_self ..) len (Nat.le_refl _)
    rw [add_zero] at this
    exact this

theorem makeSlice_sound (hE : EnvOK P E) (hm : MemOK base ok G w M) (hslot : G.σ slot = .none) {t : TypeId} {i ei : TyI} {et : TypeId} (hi : E.t t = some i) (hsh : i.sh = .sl et) (hei : E.t et = some ei) {kd : Kd} (hkd : ei.kd = some kd) {n m : Int} (h0 : 0 ≤ n) (hnm : n ≤ m) (hb : m * ei.bytes < 281474976710657) (hbp : 0 < ei.bytes) :
    Calm P G w slot (some (.vec kd (lrep n kd.zero))) (.vec slot) (((do pure (.value (← Instr.makeSlice t (.int .i64 n) (.int .i64 m))) : Sem Next)).run P w) := by
  obtain ⟨d, hd, hs, _⟩ := (hE.ty t i hi).und
  rw [hsh] at hs
  rw [shOK_sl hs] at hd
  obtain ⟨ni, z, hn, hsz, hby, hz, _, _, hz2⟩ := (hE.ty et ei hei).info
  obtain ⟨hks, hz3⟩ := hz2 kd hkd
  have h63 : m ≤ 9223372036854775807 := by
    have : m * 1 ≤ m * ei.bytes := Int.mul_le_mul_of_nonneg_left (by omega) (by omega)
    omega
  have hrun := run_make (P := P) w t et ni z hd hn hz .i64 .i64 n m h0 hnm (by rw [hby, Int.mul_comm]; omega) (by omega)
  simp only [Sem.run_bind, hrun, Result.andThen_ok, Sem.run_pure]
  obtain ⟨hzl, hzz⟩ := zall_spec (D := G.D) (w := w) hz3
  have hzs : z.cells.size = kd.size := by rw [Kd.cells_length] at hzl; simpa using hzl.symm
  have hget : ∀ q, q < m.toNat * ni.size → (madeCells z.cells (m.toNat * ni.size)).getD q undef = z.cells[q % z.cells.size]! := by
    intro q hq
    simp [madeCells, Array.getD_eq_getD_getElem?, hq]
  have hlen : (lrep n kd.zero).length = n.toNat := by simp [lrep]
  have hstep := Step.vec (slot := slot) (w := w) hslot hm.dlt (e := kd) (l := lrep n kd.zero) (vs := madeCells z.cells (m.toNat * ni.size)) (cap := m.toNat) et (by rw [hlen]; omega) (by rw [size_madeCells, hks, hsz]) (by
    intro v hv
    simp only [madeCells, Array.toList_map, List.mem_map] at hv
    obtain ⟨q, hq, rfl⟩ := hv
    have hq' : q < m.toNat * ni.size := by simpa using hq
    have hpos : 0 < z.cells.size := by
      rw [hzs, hks, ← hsz]
      rcases Nat.eq_zero_or_pos ni.size with h | h
      · rw [h] at hq'; simp at hq'
      · exact h
    have hlt := Nat.mod_lt q hpos
    rw [getElem!_pos z.cells _ hlt]
    have := (hzz (q % z.cells.size) (by rw [hzl]; simpa using hlt) (by simpa using hlt)).2
    simpa using this) (by
    intro q hq j hj
    have hj' : j < kd.size := cells_get hq hj
    rw [hlen] at hq
    have hin : q * kd.size + j < m.toNat * ni.size := by
      have : (q + 1) * kd.size ≤ m.toNat * kd.size := Nat.mul_le_mul_right _ (by omega)
      rw [Nat.add_mul] at this
      rw [hsz, ← hks]
      omega
    rw [hget _ hin, hzs]
    have e : (q * kd.size + j) % kd.size = j := by rw [Nat.mul_comm, Nat.mul_add_mod, Nat.mod_eq_of_lt hj']
    rw [e, getElem!_pos z.cells j (by omega)]
    have hlz : (lrep n kd.zero)[q]'(by rw [hlen]; exact hq) = kd.zero := by simp [lrep]
    have h9 := (hzz j (by rw [Kd.cells_length]; exact hj') (by simpa [hzs] using hj')).1
    simp only [hlz]
    simpa using h9)
  rw [hlen] at hstep
  exact ⟨_, hstep, VR.vec_new ..⟩
end Go.Sx
