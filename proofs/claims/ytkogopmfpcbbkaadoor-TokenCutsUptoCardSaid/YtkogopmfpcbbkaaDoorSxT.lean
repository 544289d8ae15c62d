/-
  SX, part T: stores.
-/
import Derived.Test.YtkogopmfpcbbkaaDoorSxS
set_option linter.unusedVariables false
set_option linter.unusedSimpArgs false
namespace Go.Sx
open Go
open Go.RowKit (Below)
variable {P : Program} {E : Env} {base : Nat} {w0 : GW} {ok : Nat → Prop} {en : Ent} {G G' : Gam} {s : St} {a : Act} {w w' : GW} {R : Type}

theorem run_storeAt {t : TypeId} {i : TyI} (hi : TyFacts P t i) {c off : Nat} {vs : Array Value} {ty : TypeId} (hb : w.heap[c]? = some (.cells vs ty (0, 0))) {x : Value} (hx : x.cells.size = i.size) (ho : ∀ v ∈ x.cells.toList, v.oneCell' = true) (hle : off + i.size ≤ vs.size) :
    (Instr.storeAt t (.pointer (some ((blkA c).add off))) x).run P w = .ok () (w.setRow c (vs.toList.take off ++ x.cells.toList ++ vs.toList.drop (off + i.size)).toArray) := by
  unfold Instr.storeAt storeVar
  simp only [Sem.run_bind, sureAddr_some, Result.andThen_ok, run_sizeOf' hi w, hx]
  have h := run_storeCells_at P c off ty x.cells.toList 0 vs w hb (by simp [hx]; exact hle) ho
  have e : (blkA c).add off = ⟨c, off, none⟩ := by rw [blkA, add_lit]; simp
  rw [e]
  simp only [ne_eq, not_true, ite_false, if_false]
  simp only [Nat.add_zero] at h
  have e2 : x.cells.toList.length = i.size := by simp [hx]
  rw [e2] at h
  exact h

theorem fitsA_size {D : Nat → Prop} {σ : Nat → SB} {size : Nat} {v : AV} {x : Value} (h : fitsA size v = true) (hv : VR D σ w v x) : x.cells.size = size ∧ (∀ u ∈ x.cells.toList, u.oneCell' = true) ∧ LR (VR D σ w) (cellsA v) x.cells.toList := by
  obtain ⟨h1, h2, h3⟩ := fits_cells h hv
  refine ⟨h1, fun u hu => ?_, h2⟩
  obtain ⟨q, hq, rfl⟩ := List.getElem_of_mem hu
  exact (h2.2 q (by rw [h2.1]; exact hq) hq).1
theorem storeCells_spec {cs cs' : List AV} {off : Nat} {v : AV} (h : Sx.storeCells cs off v = some cs') : cs' = fillA cs off v ∧ off + (cellsA v).length ≤ cs.length := by
  unfold Sx.storeCells at h
  split at h
  · replace h := bif_none h
    obtain ⟨hb, h⟩ := h
    cases h
    exact ⟨rfl, Nat.le_of_ble_eq_true hb⟩
  · simp at h
  · simp at h
  · simp at h
  · rename_i h1 h2 h3 h4
    replace h := bif_none h
    obtain ⟨hb, h⟩ := h
    cases h
    have hb' : off < cs.length := Nat.le_of_ble_eq_true hb
    cases v <;> first | exact absurd rfl (h1 _) | exact absurd rfl (h2 _) | exact absurd rfl h3 | exact absurd rfl h4 | exact ⟨rfl, by simp [cellsA]; omega⟩

theorem LR.of_cellsR {R : AV → Value → Prop} {cs : List AV} {vs : Array Value} (h : CellsR R cs vs) : LR R cs vs.toList := ⟨by simp [h.1], fun i h1 h2 => by simpa using h.2 i h1 (by simpa using h2)⟩

/-- What a write to one block does to the world. -/
theorem setRow_frame (w : GW) (c : Nat) (cs : Array Value) : (∀ k, k ≠ c → (w.setRow c cs).heap[k]? = w.heap[k]?) ∧ (w.setRow c cs).heap.size = w.heap.size ∧ ((w.setRow c cs).os = w.os ∧ (w.setRow c cs).tape = w.tape ∧ (w.setRow c cs).output = w.output) :=
  ⟨fun k hk => setRow_other w c k cs hk, setRow_size w c cs, rfl, rfl, rfl⟩

theorem store_ptr (hE : EnvOK P E) (h : Rel E base w0 ok en G s a w) {t : TypeId} {i : TyI} (hi : E.t t = some i) {b off : Nat} {u x : Value} {v : AV} (hu : VR G.D G.σ w (.ptr b off) u) (hv : VR G.D G.σ w v x) (hf : fitsA i.size v = true) {cs cs' : List AV} (hb : s.M[b]? = some (.cells cs)) (hs : Sx.storeCells cs off v = some cs') :
    ∃ w', (Instr.storeAt t u x).run P w = .ok () w' ∧ Rel E base w0 ok en G { s with M := s.M.set b (.cells cs') } a w' := by
  obtain ⟨c, hc, rfl⟩ := hu.ptr_inv
  obtain ⟨c', vs, ty, e1, e2, e3⟩ := h.mem.blocks b _ hb
  rw [hc] at e1
  cases e1
  obtain ⟨f1, f2, f3⟩ := fitsA_size hf hv
  obtain ⟨rfl, hle⟩ := storeCells_spec hs
  have hl : (cellsA v).length = i.size := by rw [f3.1]; simpa using f1
  have hvl : vs.size = cs.length := e3.1
  refine ⟨_, run_storeAt (hE.ty t i hi) e2 f1 f2 (by omega), ?_⟩
  obtain ⟨g1, g2, g3⟩ := setRow_frame w c (vs.toList.take off ++ x.cells.toList ++ vs.toList.drop (off + i.size)).toArray
  have hmut : mutC (G.σ b) (.cells cs) = some c := by rw [hc]; rfl
  have hmut' : ∀ c', mutC (G.σ b) (.cells (fillA cs off v)) = some c' → c' = c := by intro c' h'; rw [hc] at h'; cases h'; rfl
  refine h.write hb hmut g1 g2 g3 ?_ hmut'
  refine ⟨c, _, ty, hc, setRow_heap w c vs _ ty _ e2, ?_⟩
  have hD : ∀ k, G.D k → G.D k ∧ (w.setRow c (vs.toList.take off ++ x.cells.toList ++ vs.toList.drop (off + i.size)).toArray).heap[k]? = w.heap[k]? := fun k hk => ⟨hk, g1 k fun e => (h.mem.own b _ c hb hmut).2.2 (e ▸ hk)⟩
  have hLR : LR (VR G.D G.σ w) (fillA cs off v) (vs.toList.take off ++ x.cells.toList ++ vs.toList.drop (off + i.size)) := by
    rw [fillA_cells _ _ _ (by omega), hl]
    exact (((LR.of_cellsR e3).take off).append f3).append ((LR.of_cellsR e3).drop (off + i.size))
  exact (hLR.cellsR).mono fun _ _ hh => hh.grow hD (fun _ _ => rfl)

theorem seg_getD (vs xs : List Value) (p q : Nat) (h : p + xs.length ≤ vs.length) :
    (vs.take p ++ xs ++ vs.drop (p + xs.length)).toArray.getD q undef = if p ≤ q ∧ q < p + xs.length then xs.getD (q - p) undef else vs.toArray.getD q undef := by
  simp only [Array.getD_eq_getD_getElem?, List.getElem?_toArray, List.getElem?_append, List.length_append, List.length_take, List.getElem?_take, List.getElem?_drop, List.getD_eq_getElem?_getD]
  rw [show min p vs.length = p by omega]
  by_cases h1 : q < p
  · simp [h1, show q < p + xs.length by omega, show ¬ p ≤ q by omega]
  · by_cases h2 : q < p + xs.length
    · simp [h1, h2, show p ≤ q by omega]
    · simp [h1, h2, show p + xs.length + (q - (p + xs.length)) = q by omega]

/-- An element's cells. -/
theorem elem_idx {size i j : Nat} {i' j' : Nat} (hj : j < size) (hj' : j' < size) (h : i * size + j = i' * size + j') : i = i' ∧ j = j' := by
  have h1 : (i * size + j) / size = i := by rw [Nat.mul_comm, Nat.mul_add_div (by omega), Nat.div_eq_of_lt hj]; omega
  have h2 : (i' * size + j') / size = i' := by rw [Nat.mul_comm, Nat.mul_add_div (by omega), Nat.div_eq_of_lt hj']; omega
  have : i = i' := by rw [← h1, h, h2]
  subst this
  exact ⟨rfl, by omega⟩

theorem store_vref (hE : EnvOK P E) (h : Rel E base w0 ok en G s a w) {t : TypeId} {i : TyI} (hi : E.t t = some i) {b off : Nat} {j : Int} {u x : Value} {v v' : AV} (hu : VR G.D G.σ w (.vref b j off) u) (hv : VR G.D G.σ w v x) (hf : fitsA i.size v = true)
    {e : Kd} {l : List e.T} (hb : s.M[b]? = some (.vec e l)) {y y' : e.T} (hy : lget l j = some y) (hd : dataArg s.M v = some v') {cs : List AV} (hs : Sx.storeCells (e.cells y) off v' = some cs) (hc' : e.ofCells cs = some y') :
    ∃ w', (Instr.storeAt t u x).run P w = .ok () w' ∧ Rel E base w0 ok en G { s with M := s.M.set b (.vec e (lset l j y')) } a w' := by
  obtain ⟨c, len, cap, sz, hσ, h0, h1, rfl⟩ := hu.vref_inv
  obtain ⟨A, cap', e1, e2, e3, e4⟩ := h.mem.blocks b _ hb
  rw [hσ] at e1
  cases e1
  obtain ⟨vs, ty, e5, e6, e7, e8⟩ := e4 c rfl
  obtain ⟨f1, f2, f3⟩ := fitsA_size hf hv
  obtain ⟨rfl, hle⟩ := storeCells_spec hs
  have hdr := dataArg_sound h.mem hv hd
  have hl : (cellsA v).length = i.size := by rw [f3.1]; simpa using f1
  have hl' : (cellsA v').length = (cellsA v).length := by
    unfold dataArg at hd
    split at hd
    · rename_i cs0
      simp only [Option.bind_eq_some_iff, Option.some.injEq] at hd
      obtain ⟨ds, hds, rfl⟩ := hd
      exact (datasOf_sound h.mem hds).1.symm
    · rename_i hne
      have : ∀ cs, v' ≠ .agg cs := by
        intro cs hcs
        subst hcs
        unfold dataOf at hd
        split at hd <;> try (simp at hd; done)
        · split at hd <;> simp at hd
        · split at hd <;> simp at hd
      have e1 : cellsA v = [v] := by cases v <;> first | rfl | exact absurd rfl (hne _)
      have e2 : cellsA v' = [v'] := by cases v' <;> first | rfl | exact absurd rfl (this _)
      rw [e1, e2]; rfl
  have hv'LR : LR (DR G.D w) (cellsA v') x.cells.toList := by
    have : fitsA i.size v' = true := by
      unfold dataArg at hd
      split at hd
      · rename_i cs0
        simp only [Option.bind_eq_some_iff, Option.some.injEq] at hd
        obtain ⟨ds, hds, rfl⟩ := hd
        simp only [fitsA]
        have := hl'
        simp only [cellsA] at this hl
        rw [this, hl]; exact Nat.beq_refl _
      · have hs1 : i.size = 1 := by
          rename_i hne
          cases v <;> first | exact absurd rfl (hne _) | (simp [fitsA] at hf; done) | exact Nat.eq_of_beq_eq_true hf
        unfold dataOf at hd
        split at hd <;> first | (simp at hd; done) | (cases hd; rw [hs1]; rfl) | skip
        · split at hd
          · cases hd; rw [hs1]; rfl
          · simp at hd
        · split at hd
          · cases hd; rw [hs1]; rfl
          · simp at hd
    have hx1 : LR (VR G.D (fun _ => SB.none) w) (cellsA v') x.cells.toList := (fits_cells this (.data _ _ hdr)).2.1
    refine ⟨hx1.1, fun q h1 h2 => ⟨(hx1.2 q h1 h2).1, ?_⟩⟩
    cases v' with
    | agg cs0 =>
      cases hdr with
      | agg _ xs hl0 ho hh =>
        exact hh q h1 (by simpa [Value.cells] using h2)
    | _ =>
      have hq : q = 0 := by simp [cellsA] at h1; exact h1
      subst hq
      have hone : x.oneCell' = true := VR.one (σ := fun _ => SB.none) (.data _ _ hdr) (by intro cs hc; cases hc) (by intro cs hc; cases hc <;> simp [fitsA] at this) (by intro hc; cases hc <;> simp [fitsA] at this) (by intro hc; cases hc <;> simp [fitsA] at this)
      simp only [cells_one hone]
      exact hdr
  have hjl : j.toNat < l.length := by omega
  have hy' : y = l[j.toNat] := by
    unfold lget at hy
    rw [if_pos h0, List.getElem?_eq_getElem hjl] at hy
    exact (Option.some.inj hy).symm
  have hoff : off + i.size ≤ e.size := by rw [← Kd.cells_length e y]; omega
  have hrow : (j.toNat + 1) * e.size ≤ cap * e.size := Nat.mul_le_mul_right _ (by omega)
  rw [Nat.add_mul, Nat.one_mul] at hrow
  have hpl : j.toNat * e.size + off + i.size ≤ vs.size := by rw [e6]; omega
  refine ⟨_, run_storeAt (hE.ty t i hi) e5 f1 f2 hpl, ?_⟩
  generalize hrw : (vs.toList.take (j.toNat * e.size + off) ++ x.cells.toList ++ vs.toList.drop (j.toNat * e.size + off + i.size)).toArray = row
  obtain ⟨g1, g2, g3⟩ := setRow_frame w c row
  have hxl : x.cells.toList.length = i.size := by simpa using f1
  have hgetrow : ∀ q, row.getD q undef = if j.toNat * e.size + off ≤ q ∧ q < j.toNat * e.size + off + i.size then x.cells.toList.getD (q - (j.toNat * e.size + off)) undef else vs.getD q undef := by
    intro q
    have := seg_getD vs.toList x.cells.toList (j.toNat * e.size + off) q (by rw [hxl]; simpa using hpl)
    rw [hxl, hrw] at this
    rw [this]
  have hmut : mutC (G.σ b) (.vec e l) = some c := by rw [hσ]; rfl
  have hD : ∀ k, G.D k → G.D k ∧ (w.setRow c row).heap[k]? = w.heap[k]? := fun k hk => ⟨hk, g1 k fun e' => (h.mem.own b _ c hb hmut).2.2 (e' ▸ hk)⟩
  refine h.write hb hmut g1 g2 g3 ?_ (by intro c' h'; rw [hσ] at h'; cases h'; rfl)
  have hll : (lset l j y').length = l.length := by simp [lset]
  refine ⟨some c, cap, by rw [hll]; exact hσ, by rw [hll]; exact e2, by simp, fun c' hcc => ?_⟩
  cases hcc
  refine ⟨row, ty, setRow_heap w c vs _ ty _ e5, by rw [← hrw]; simp; omega, ?_, ?_⟩
  · intro u hu
    rw [← hrw] at hu
    simp only [List.mem_append] at hu
    rcases hu with (hu | hu) | hu
    · exact e7 u (List.mem_of_mem_take hu)
    · exact f2 u hu
    · exact e7 u (List.mem_of_mem_drop hu)
  · intro k hk q hq
    have hkl : k < l.length := by rw [hll] at hk; exact hk
    have hq' : q < e.size := cells_get hk hq
    refine DR.mono hD ?_
    rw [hgetrow]
    by_cases hkj : k = j.toNat
    · subst hkj
      have hel : (lset l j y')[j.toNat]'hk = y' := by simp [lset]
      have hc2 := Kd.ofCells_as hc'
      have hfl : (fillA (e.cells y) off v').length = (e.cells y).length := by
        rw [fillA_cells _ _ _ hle]; simp; omega
      have hcell : ∀ (q : Nat) (hq1 : q < (fillA (e.cells y) off v').length), DR G.D w ((fillA (e.cells y) off v')[q]) (if j.toNat * e.size + off ≤ j.toNat * e.size + q ∧ j.toNat * e.size + q < j.toNat * e.size + off + i.size then x.cells.toList.getD (j.toNat * e.size + q - (j.toNat * e.size + off)) undef else vs.getD (j.toNat * e.size + q) undef) := by
        intro q hq1
        have hq2 : q < e.size := by rw [← Kd.cells_length e y, ← hfl]; exact hq1
        have hfc := fillA_cells _ _ _ hle
        by_cases hin : off ≤ q ∧ q < off + i.size
        · rw [if_pos (by omega)]
          have hx3 : q - off < (cellsA v').length := by omega
          have e9 : (fillA (e.cells y) off v')[q] = (cellsA v')[q - off] := by
            have : (fillA (e.cells y) off v')[q]? = some ((cellsA v')[q - off]) := by
              rw [hfc, List.append_assoc, List.getElem?_append_right (by simp; omega), List.getElem?_append_left (by simp; omega)]
              simp only [List.length_take]
              rw [show min off (e.cells y).length = off by omega, List.getElem?_eq_getElem hx3]
            rw [List.getElem?_eq_getElem hq1] at this
            exact Option.some.inj this
          rw [e9]
          have := (hv'LR.2 (q - off) hx3 (by rw [← hv'LR.1]; exact hx3)).2
          rw [show j.toNat * e.size + q - (j.toNat * e.size + off) = q - off by omega, List.getD_eq_getElem?_getD, List.getElem?_eq_getElem (by rw [← hv'LR.1]; exact hx3)]
          exact this
        · rw [if_neg (by omega)]
          have hq4 : q < (e.cells y).length := by rw [Kd.cells_length]; exact hq2
          have e9 : (fillA (e.cells y) off v')[q] = (e.cells y)[q] := by
            have : (fillA (e.cells y) off v')[q]? = some ((e.cells y)[q]) := by
              rw [hfc, ← List.getElem?_eq_getElem hq4]
              by_cases hlo : q < off
              · rw [List.append_assoc, List.getElem?_append_left (by simp; omega)]
                simp [hlo]
              · rw [List.getElem?_append_right (by simp; omega)]
                simp only [List.length_append, List.length_take, List.getElem?_drop]
                congr 1
                omega
            rw [List.getElem?_eq_getElem hq1] at this
            exact Option.some.inj this
          rw [e9]
          subst hy'
          exact e8 j.toNat hjl q hq4
      have hq1 : q < (fillA (e.cells y) off v').length := by rw [hfl, Kd.cells_length]; exact hq'
      have h10 := hc2.get q hq1 (by rw [Kd.cells_length]; exact hq') _ _ _ (hcell q hq1)
      have e11 : (e.cells ((lset l j y')[j.toNat]'hk))[q] = (e.cells y')[q]'(by rw [Kd.cells_length]; exact hq') := by
        congr 1
        rw [hel]
      rw [e11]
      exact h10
    · have hne : ¬ (j.toNat * e.size + off ≤ k * e.size + q ∧ k * e.size + q < j.toNat * e.size + off + i.size) := by
        rintro ⟨a1, a2⟩
        have : k * e.size + q = j.toNat * e.size + (k * e.size + q - j.toNat * e.size) := by omega
        have := elem_idx hq' (by omega) this
        exact hkj this.1
      rw [if_neg hne]
      have hel : (lset l j y')[k]'hk = l[k] := by simp [lset, List.getElem_set]; intro h'; exact absurd h'.symm hkj
      have e11 : (e.cells ((lset l j y')[k]'hk))[q] = (e.cells l[k])[q]'(by rw [Kd.cells_length]; exact hq') := by
        congr 1
        rw [hel]
      rw [e11]
      exact e8 k hkl q _
end Go.Sx
