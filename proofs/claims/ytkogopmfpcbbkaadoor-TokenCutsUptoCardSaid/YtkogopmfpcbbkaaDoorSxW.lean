/-
  SX, part W: append and copy.
-/
import Derived.Test.YtkogopmfpcbbkaaDoorSxU
set_option linter.unusedVariables false
set_option linter.unusedSimpArgs false
namespace Go.Sx
open Go
open Go.RowKit (Below)
variable {P : Program} {E : Env} {base : Nat} {w0 : GW} {ok : Nat → Prop} {en : Ent} {G G' : Gam} {s : St} {a : Act} {w w' : GW} {R : Type} {M : Mem}

/-- The elements that an append or a copy takes. -/
structure Src (P : Program) (D : Nat → Prop) (w : GW) (kd : Kd) (x : Value) (l2 : List kd.T) (news : List Value) : Prop where
  len : ∀ w', (Builtin.lenOf x).run P w' = .ok l2.length w'
  first : ∀ n, n ≤ l2.length → ∀ w' : GW, w'.heap = w.heap → (Builtin.firstCells kd.size n x).run P w' = .ok (news.take (n * kd.size)).toArray w'
  size : news.length = l2.length * kd.size
  one : ∀ v ∈ news, v.oneCell' = true
  get : ∀ i (h : i < l2.length) j (hj : j < (kd.cells l2[i]).length), DR D w ((kd.cells l2[i])[j]) (news.getD (i * kd.size + j) undef)

theorem src_slice {D : Nat → Prop} {kd : Kd} {l2 : List kd.T} {A : Option Addr} {cap : Nat} (hA : ∀ i (h : i < l2.length), ∃ a, A = some a ∧ At (DR D w) w (a.add (i * kd.size)) (kd.cells l2[i])) : ∃ news, Src P D w kd (.slice A l2.length cap) l2 news := by
  cases A with
  | none =>
    have : l2 = [] := by
      cases l2 with
      | nil => rfl
      | cons y r => obtain ⟨a, h, _⟩ := hA 0 (by simp); cases h
    subst this
    exact ⟨[], fun _ => rfl, fun n hn w' _ => by simp [Builtin.firstCells], by simp, by simp, fun i h => by simp at h⟩
  | some ad =>
    let f : Nat → Value := fun q => (w.cell? (ad.add q)).getD undef
    have hf : ∀ i (h : i < l2.length) j (hj : j < (kd.cells l2[i]).length), w.cell? (ad.add (i * kd.size + j)) = some (f (i * kd.size + j)) ∧ (f (i * kd.size + j)).oneCell' = true ∧ DR D w ((kd.cells l2[i])[j]) (f (i * kd.size + j)) := by
      intro i h j hj
      obtain ⟨a, e, hat⟩ := hA i h
      cases e
      obtain ⟨x, h1, h2, h3⟩ := hat j hj
      rw [add_add] at h1
      have : f (i * kd.size + j) = x := by simp [f, h1]
      rw [this]
      exact ⟨h1, h2, h3⟩
    have hq : ∀ q, q < l2.length * kd.size → w.cell? (ad.add q) = some (f q) ∧ (f q).oneCell' = true := by
      intro q hq
      have hs : 0 < kd.size := by rcases Nat.eq_zero_or_pos kd.size with h | h; · rw [h] at hq; simp at hq
                                  · exact h
      have hi : q / kd.size < l2.length := by rw [Nat.div_lt_iff_lt_mul hs]; exact hq
      have hj := Nat.mod_lt q hs
      have e : q / kd.size * kd.size + q % kd.size = q := by rw [Nat.mul_comm]; exact Nat.div_add_mod q kd.size
      have := hf (q / kd.size) hi (q % kd.size) (by rw [Kd.cells_length]; exact hj)
      rw [e] at this
      exact ⟨this.1, this.2.1⟩
    refine ⟨(List.range (l2.length * kd.size)).map f, fun _ => rfl, fun n hn w' hw' => ?_, by simp, ?_, fun i h j hj => ?_⟩
    · have hle : n * kd.size ≤ l2.length * kd.size := Nat.mul_le_mul_right _ hn
      have := run_loadCells (P := P) w' ad (n * kd.size) f (fun j hj => by
        have := (hq j (by omega)).1
        unfold World.cell? at this ⊢
        rw [hw']; exact this)
      simp only [Builtin.firstCells]
      rw [this]
      congr 2
      rw [← List.map_take, List.take_range, Nat.min_eq_left hle]
    · intro v hv
      simp only [List.mem_map, List.mem_range] at hv
      obtain ⟨q, hq', rfl⟩ := hv
      exact (hq q hq').2
    · have hj' : j < kd.size := cells_get h hj
      have hlt : i * kd.size + j < l2.length * kd.size := by
        have : (i + 1) * kd.size ≤ l2.length * kd.size := Nat.mul_le_mul_right _ (by omega)
        rw [Nat.add_mul] at this; omega
      simp only [List.getD_eq_getElem?_getD, List.getElem?_map, List.getElem?_range hlt, Option.map_some, Option.getD_some]
      exact (hf i h j hj).2.2

theorem dr_at {D : Nat → Prop} {e : Kd} {l : List e.T} {A : Option Addr} {n cap : Nat} (h : DR D w (.sl e l) (.slice A n cap)) : n = l.length ∧ ∀ i (h : i < l.length), ∃ a, A = some a ∧ At (DR D w) w (a.add (i * e.size)) (e.cells l[i]) := by
  generalize hx : Value.slice A n cap = x at h
  cases h with
  | sl _ _ A' cap' cv hcap hA hone hr =>
    injection hx with h1 h2 h3
    subst h1
    refine ⟨h2, fun i hi => ?_⟩
    obtain ⟨a, ha, hD, hc⟩ := hA i hi
    refine ⟨a, ha, fun j hj => ?_⟩
    have hj' := cells_get hi hj
    exact ⟨cv i j, by rw [add_add]; exact hc j hj', hone i j hi hj', hr i hi j hj⟩

theorem src_str {D : Nat → Prop} (st : Str) : ∃ news, Src P D w (.int .u8) (.string ⟨st.toArray⟩) (u8s st) news := by
  refine ⟨st.map fun b => .int .u8 (b.toNat : Int), fun w' => ?_, fun n hn w' _ => ?_, by simp [u8s, Kd.size], ?_, fun i h j hj => ?_⟩
  · simp [Builtin.lenOf, u8s, ByteArray.size]
  · simp only [Builtin.firstCells, Kd.size, Nat.mul_one, Sem.run_pure]
    congr 1
    simp [ByteArray.data_extract]
  · intro v hv
    simp only [List.mem_map] at hv
    obtain ⟨b, _, rfl⟩ := hv
    rfl
  · have hj0 : j = 0 := by simp [Kd.cells] at hj; exact hj
    subst hj0
    have hi : i < st.length := by simpa [u8s] using h
    simp only [Kd.size, Nat.mul_one, Nat.add_zero, List.getD_eq_getElem?_getD, List.getElem?_map, List.getElem?_eq_getElem hi, Option.map_some, Option.getD_some, Kd.cells, List.getElem_cons_zero]
    have : (u8s st)[i] = (st[i].toNat : Int) := by simp [u8s]
    rw [this]
    exact .int _ _

theorem castL_eq {e : Kd} (l : List e.T) (h : e = e) : castL h l = l := rfl

theorem listOf_src (hm : MemOK base ok G w M) {kd : Kd} {y : AV} {x : Value} (hv : VR G.D G.σ w y x) {l2 : List kd.T} (h : listOf M kd y = some l2) : ∃ news, Src P G.D w kd x l2 news := by
  have own : ∀ {b c len cap sz : Nat} {A : Option Nat} {l : List kd.T}, (M[b]? = some (.vec kd l) ∨ M[b]? = some (.fvec kd l)) → G.σ b = .hdr A len cap sz → len = l.length ∧ sz = kd.size ∧ ∀ i (h : i < l.length), ∃ c, A = some c ∧ At (DR G.D w) w ((blkA c).add (i * kd.size)) (kd.cells l[i]) := by
    intro b c len cap sz A l hb hσ
    cases A with
    | some c =>
      obtain ⟨h1, h2, h3⟩ := At.of_vec hm hb hσ
      exact ⟨h1, h2, fun i hi => ⟨c, rfl, h3 i hi⟩⟩
    | none =>
      rcases hb with hb | hb
      · obtain ⟨A', cap', e1, e2, e3, e4⟩ := hm.blocks b _ hb
        rw [hσ] at e1; cases e1
        have := (e3 rfl).1
        subst this
        exact ⟨rfl, rfl, fun i hi => by simp at hi⟩
      · obtain ⟨A', cap', e1, e2⟩ := hm.blocks b _ hb
        rw [hσ] at e1; cases e1
        obtain ⟨_, h2⟩ := dr_at e2
        refine ⟨rfl, rfl, fun i hi => ?_⟩
        obtain ⟨a, ha, _⟩ := h2 i hi
        cases ha
  have vec : ∀ {b : Nat} {l : List kd.T}, (M[b]? = some (.vec kd l) ∨ M[b]? = some (.fvec kd l)) → VR G.D G.σ w (.vec b) x → ∃ news, Src P G.D w kd x l news := by
    intro b l hb hv
    obtain ⟨A, len, cap, sz, hσ, rfl⟩ := hv.vec_inv
    obtain ⟨e1, e2, e3⟩ := own (c := 0) hb hσ
    subst e1
    exact src_slice fun i hi => by obtain ⟨c, hc, h⟩ := e3 i hi; subst hc; exact ⟨blkA c, rfl, h⟩
  have vsl : ∀ {b : Nat} {lo hi : Int} {l : List kd.T}, (M[b]? = some (.vec kd l) ∨ M[b]? = some (.fvec kd l)) → VR G.D G.σ w (.vsl b lo hi) x → ∃ news, Src P G.D w kd x (ldrop (ltake l hi) lo) news := by
    intro b lo hi l hb hv
    obtain ⟨A, len, cap, sz, B, cap', hσ, h0, h01, hlen, hB, hc, rfl⟩ := hv.vsl_inv
    obtain ⟨e1, e2, e3⟩ := own (c := 0) hb hσ
    subst e1
    have hll : (ldrop (ltake l hi) lo).length = (hi - lo).toNat := by simp [ldrop, ltake]; omega
    rw [← hll]
    refine src_slice fun i hi' => ?_
    rw [hll] at hi'
    obtain ⟨c, hcA, hat⟩ := e3 (lo.toNat + i) (by omega)
    subst hcA
    refine ⟨(blkA c).add (lo.toNat * sz), by rw [hB (by omega)]; rfl, ?_⟩
    rw [e2, add_add, ← Nat.add_mul]
    have : (ldrop (ltake l hi) lo)[i]'(by rw [hll]; exact hi') = l[lo.toNat + i] := by simp [ldrop, ltake]
    rw [this]
    exact hat
  unfold listOf at h
  split at h
  · split at h
    · rename_i b _ e' l hb
      split at h
      · rename_i he; subst he; cases h; exact vec (.inl hb) hv
      · simp at h
    · rename_i b _ e' l hb
      split at h
      · rename_i he; subst he; cases h; exact vec (.inr hb) hv
      · simp at h
    · simp at h
  · split at h
    · rename_i b lo hi _ e' l hb
      split at h
      · rename_i he; subst he; cases h; exact vsl (.inl hb) hv
      · simp at h
    · rename_i b lo hi _ e' l hb
      split at h
      · rename_i he; subst he; cases h; exact vsl (.inr hb) hv
      · simp at h
    · simp at h
  · rename_i st
    split at h
    · rename_i he; subst he; cases h
      rw [hv.str_inv]
      exact src_str st
    · simp at h
  · have has := asSl_as h
    have hdr : DR G.D w (.sl kd l2) x := by
      cases hv with
      | data _ _ hd => exact has _ _ _ hd
      | _ => simp [AV.asSl] at h
    obtain ⟨A, cap, hcap, rfl⟩ := hdr.sl_inv
    exact src_slice (dr_at hdr).2
end Go.Sx
