/-
  SX, part C: what single operations come to that write nothing.
-/
import Derived.Test.YtkogopmfpcbbkaaDoorSxV
set_option linter.unusedVariables false
set_option linter.unusedSimpArgs false
namespace Go.Sx
open Go
open Go.RowKit (Below)

theorem run_isAgg {P : Program} {t : TypeId} {i : TyI} (h : TyFacts P t i) (w : GW) : (isAgg t).run P w = .ok i.agg w := by
  obtain ⟨d, hd, _, ha⟩ := h.und
  unfold isAgg
  rw [Sem.run_bind, run_underlying hd w, Result.andThen_ok, ← ha]
  cases d <;> rfl
theorem run_sizeOf' {P : Program} {t : TypeId} {i : TyI} (h : TyFacts P t i) (w : GW) : (sizeOf t).run P w = .ok i.size w := by
  obtain ⟨n, z, hn, hs, _⟩ := h.info
  simp [sizeOf, typeInfo, hn, hs]
theorem run_zeroValue' {P : Program} {t : TypeId} {i : TyI} (h : TyFacts P t i) (w : GW) : ∃ z, (zeroValue t).run P w = .ok z w ∧ (i.agg = false → z.oneCell' = true) ∧ zall i.zero z.cells.toList = true ∧ (∀ k, i.kd = some k → k.size = i.size ∧ zall (k.cells k.zero) z.cells.toList = true) := by
  obtain ⟨n, z, hn, hs, _, hz, h0, h1, h2⟩ := h.info
  exact ⟨z, by simp [zeroValue, typeInfo, hn, hz], h0, h1, h2⟩
theorem run_under {P : Program} {t : TypeId} {d : TypeDesc} (h : P.underlying t = some d) (w : GW) : (underlying t).run P w = .ok d w := run_underlying h w

/-- Cells at an address, one by one, are these abstract values. -/
def At (R : AV → Value → Prop) (w : GW) (a : Addr) (cs : List AV) : Prop := ∀ j (h : j < cs.length), ∃ x, w.cell? (a.add j) = some x ∧ x.oneCell' = true ∧ R cs[j] x

variable {P : Program} {D : Nat → Prop} {σ : Nat → SB} {w : GW}

theorem part_sound {R : AV → Value → Prop} (hagg : ∀ (cs : List AV) (vs : List Value), cs.length = vs.length → (∀ v ∈ vs, v.oneCell' = true) → (∀ i (h1 : i < cs.length) (h2 : i < vs.length), R cs[i] vs[i]) → R (.agg cs) (.agg vs.toArray))
    {t : TypeId} {i : TyI} (ht : TyFacts P t i) {a : Addr} {cs : List AV} (h : At R w a cs) {off : Nat} {v : AV} (hp : partA i cs off = some v) :
    ∃ x, (loadVar t (a.add off)).run P w = .ok x w ∧ R v x ∧ (i.agg = false → x.oneCell' = true) := by
  unfold partA at hp
  unfold loadVar
  rw [Sem.run_bind, run_isAgg ht w, Result.andThen_ok]
  cases ha : i.agg with
  | true =>
    rw [ha] at hp
    simp only [cond_true] at hp
    cases hb : Nat.ble (off + i.size) cs.length with
    | false => rw [hb] at hp; simp at hp
    | true =>
      rw [hb] at hp
      simp only [cond_true, Option.some.injEq] at hp
      subst hp
      have hle : off + i.size ≤ cs.length := Nat.le_of_ble_eq_true hb
      let f : Nat → Value := fun j => (w.cell? ((a.add off).add j)).getD undef
      have hf : ∀ j, j < i.size → w.cell? ((a.add off).add j) = some (f j) ∧ (f j).oneCell' = true ∧ ∃ hj : off + j < cs.length, R cs[off + j] (f j) := by
        intro j hj
        obtain ⟨x, hx, h1, hr⟩ := h (off + j) (by omega)
        rw [← add_add] at hx
        have : f j = x := by simp [f, hx]
        rw [this]
        exact ⟨hx, h1, by omega, hr⟩
      have hl := run_loadCells (P := P) w (a.add off) i.size f (fun j hj => (hf j hj).1)
      refine ⟨.agg ((List.range i.size).map f).toArray, ?_, ?_, by simp⟩
      · simp only [if_true, Sem.run_bind, run_sizeOf' ht w, Result.andThen_ok, hl, Sem.run_pure]
      · refine hagg _ _ (by simp; omega) (fun v hv => ?_) (fun k h1 h2 => ?_)
        · simp at hv; obtain ⟨j, hj, rfl⟩ := hv; exact (hf j hj).2.1
        · simp at h2
          simp only [List.getElem_take, List.getElem_drop, List.getElem_map, List.getElem_range]
          exact (hf k h2).2.2.2
  | false =>
    rw [ha] at hp
    simp only [cond_false] at hp
    obtain ⟨hlt, rfl⟩ := List.getElem?_eq_some_iff.1 hp
    obtain ⟨x, hx, h1, hr⟩ := h off hlt
    exact ⟨x, by simp [hx], hr, fun _ => h1⟩

theorem VR.mkAgg : ∀ (cs : List AV) (vs : List Value), cs.length = vs.length → (∀ v ∈ vs, v.oneCell' = true) → (∀ i (h1 : i < cs.length) (h2 : i < vs.length), VR D σ w cs[i] vs[i]) → VR D σ w (.agg cs) (.agg vs.toArray) :=
  fun cs vs h1 h2 h3 => .agg cs vs h1 h2 h3

/-- What an operation that writes nothing may do. -/
structure Step (G : Gam) (w : GW) (slot : Nat) (b : Option Blk) (G' : Gam) (w' : GW) : Prop where
  below : Below w.heap.size w w'
  keep : ∀ c, G.D c → G'.D c
  new : ∀ c, G'.D c → G.D c ∨ (w.heap.size ≤ c ∧ c < w'.heap.size)
  σ : ∀ i, i ≠ slot → G'.σ i = G.σ i
  slot : match b with
    | none => G'.σ slot = G.σ slot
    | some x => BR G'.D G'.σ w' (G'.σ slot) x ∧ ∀ c, mutC (G'.σ slot) x = some c → w.heap.size ≤ c ∧ c < w'.heap.size ∧ ¬ G'.D c
theorem Step.refl (G : Gam) (w : GW) (slot : Nat) : Step G w slot none G w := ⟨Below.refl _ _, fun _ h => h, fun _ h => .inl h, fun _ _ => rfl, rfl⟩

def Calm (P : Program) (G : Gam) (w : GW) (slot : Nat) (b : Option Blk) (v : AV) : Result Next → Prop
  | .ok (.value x) w' => ∃ G', Step G w slot b G' w' ∧ VR G'.D G'.σ w' v x
  | .ok (.enter f args) w1 => w1 = w ∧ Calls P f args w fun e w' => ∃ x, e = .returned x ∧ ∃ G', Step G w slot b G' w' ∧ VR G'.D G'.σ w' v x
  | _ => False
theorem Calm.same {G : Gam} {slot : Nat} {v : AV} {x : Value} (h : VR G.D G.σ w v x) : Calm P G w slot none v (.ok (.value x) w) := ⟨G, Step.refl G w slot, h⟩

theorem evO_sound {G : Gam} {T : List AV} {a : Act} (h : ∀ t v, T[t]? = some v → VR G.D G.σ w v (a.tmps.getD t undef)) (x : Operand) : VR G.D G.σ w (evO T x) (a.eval x) := by
  cases x with
  | tmp t =>
    simp only [evO, nthD_eq, Act.eval]
    cases ht : T[t]? with
    | none => exact .junk _
    | some v => exact h t v ht
  | global g => rw [show a.eval (.global g) = .pointer (some ((blkA g).add 0)) by rw [add_zero]; rfl]; exact .gp g 0
  | func f => exact .func f [] [] [] [] rfl rfl (fun i h => by simp at h) (fun i h => by simp at h)
  | const v =>
    simp only [evO, Act.eval]
    unfold constAV
    split
    · exact .data _ _ (.int _ _)
    · exact .data _ _ (.bool _)
    · rename_i s; exact .data _ _ (by have := DR.str (D := G.D) (w := w) s.data.toList; simpa using this)
    · exact .data _ _ .nilp
    · exact .data _ _ .nilsl
    · exact .data _ _ .nilm
    · exact .data _ _ .nilf
    · exact .data _ _ .nili
    · rename_i f u c
      cases hh : (u.toList.isEmpty && c.toList.isEmpty) with
      | false => exact .junk _
      | true =>
        simp at hh
        obtain ⟨rfl, rfl⟩ := hh
        exact .func f [] [] [] [] rfl rfl (fun i h => by simp at h) (fun i h => by simp at h)
    · exact .junk _

/-! what a value of some form is -/
theorem VR.int_inv {k : IntKind} {n : Int} {x : Value} (h : VR D σ w (.int k n) x) : x = .int k n := by cases h with | data _ _ h => cases h; rfl
theorem VR.bool_inv {b : Bool} {x : Value} (h : VR D σ w (.bool b) x) : x = .bool b := by cases h with | data _ _ h => cases h; rfl
theorem VR.str_inv {s : Str} {x : Value} (h : VR D σ w (.str s) x) : x = .string ⟨s.toArray⟩ := by cases h with | data _ _ h => cases h; rfl
theorem VR.sl_inv {e : Kd} {l : List e.T} {x : Value} (h : VR D σ w (.sl e l) x) : DR D w (.sl e l) x := by cases h with | data _ _ h => exact h
theorem VR.slc_inv {e : Kd} {l : List e.T} {x : Value} (h : VR D σ w (.slc e l) x) : DR D w (.slc e l) x := by cases h with | data _ _ h => exact h
theorem VR.nilsl_inv {x : Value} (h : VR D σ w .nilsl x) : x = .slice none 0 0 := by cases h with | data _ _ h => cases h; rfl
theorem VR.nilp_inv {x : Value} (h : VR D σ w .nilp x) : x = .pointer none := by cases h with | data _ _ h => cases h; rfl
theorem VR.nilf_inv {x : Value} (h : VR D σ w .nilf x) : x = .nilFunc := by cases h with | data _ _ h => cases h; rfl
theorem VR.nili_inv {x : Value} (h : VR D σ w .nili x) : x = .nilIface := by cases h with | data _ _ h => cases h; rfl
theorem VR.err_inv {x : Value} (h : VR D σ w .err x) : ∃ t v, x = .iface t v := by cases h with | data _ _ h => cases h; exact ⟨_, _, rfl⟩
theorem VR.ptr_inv {b off : Nat} {x : Value} (h : VR D σ w (.ptr b off) x) : ∃ c, σ b = .blk c ∧ x = .pointer (some ((blkA c).add off)) := by
  cases h with
  | data _ _ h => cases h
  | ptr _ _ c h => exact ⟨c, h, rfl⟩
theorem VR.gp_inv {g off : Nat} {x : Value} (h : VR D σ w (.gp g off) x) : x = .pointer (some ((blkA g).add off)) := by
  cases h with
  | data _ _ h => cases h
  | gp => rfl
theorem VR.vec_inv {b : Nat} {x : Value} (h : VR D σ w (.vec b) x) : ∃ A len cap sz, σ b = .hdr A len cap sz ∧ x = .slice (A.map blkA) len cap := by
  cases h with
  | data _ _ h => cases h
  | vec _ A len cap sz h => exact ⟨A, len, cap, sz, h, rfl⟩
theorem VR.vref_inv {b : Nat} {i : Int} {off : Nat} {x : Value} (h : VR D σ w (.vref b i off) x) : ∃ c len cap sz, σ b = .hdr (some c) len cap sz ∧ 0 ≤ i ∧ i < len ∧ x = .pointer (some ((blkA c).add (i.toNat * sz + off))) := by
  cases h with
  | data _ _ h => cases h
  | vref _ _ _ c len cap sz h h0 h1 => exact ⟨c, len, cap, sz, h, h0, h1, rfl⟩
theorem VR.dref_inv {cs : List AV} {off : Nat} {x : Value} (h : VR D σ w (.dref cs off) x) : ∃ a, D a.block ∧ At (DR D w) w a cs ∧ x = .pointer (some (a.add off)) := by
  cases h with
  | data _ _ h => cases h
  | dref _ _ a cv hD h => exact ⟨a, hD, fun j hj => ⟨cv j, h j hj⟩, rfl⟩
theorem VR.didx_inv {cs : List AV} {off n : Nat} {i : Int} {x : Value} (h : VR D σ w (.didx cs off n i) x) : ∃ a, D a.block ∧ At (DR D w) w a cs ∧ 0 ≤ i ∧ i < n ∧ x = .pointer (some (a.add (off + i.toNat))) := by
  cases h with
  | data _ _ h => cases h
  | didx _ _ _ _ a cv hD h0 h1 h => exact ⟨a, hD, fun j hj => ⟨cv j, h j hj⟩, h0, h1, rfl⟩
theorem VR.pidx_inv {b off n : Nat} {i : Int} {x : Value} (h : VR D σ w (.pidx b off n i) x) : ∃ c, σ b = .blk c ∧ 0 ≤ i ∧ i < n ∧ x = .pointer (some ((blkA c).add (off + i.toNat))) := by
  cases h with
  | data _ _ h => cases h
  | pidx _ _ _ _ c h h0 h1 => exact ⟨c, h, h0, h1, rfl⟩
theorem VR.csl_inv {b off len : Nat} {x : Value} (h : VR D σ w (.csl b off len) x) : ∃ c cap, σ b = .blk c ∧ len ≤ cap ∧ x = .slice (some ((blkA c).add off)) len cap := by
  cases h with
  | data _ _ h => cases h
  | csl _ _ _ c h cap hc => exact ⟨c, cap, h, hc, rfl⟩
theorem VR.mref_inv {b : Nat} {x : Value} (h : VR D σ w (.mref b) x) : ∃ c, σ b = .blk c ∧ x = .map (some c) := by
  cases h with
  | data _ _ h => cases h
  | mref _ c h => exact ⟨c, h, rfl⟩
theorem VR.vsl_inv {b : Nat} {lo hi : Int} {x : Value} (h : VR D σ w (.vsl b lo hi) x) : ∃ A len cap sz B cap', σ b = .hdr A len cap sz ∧ 0 ≤ lo ∧ lo ≤ hi ∧ hi ≤ len ∧ (lo < hi → B = A.map fun c => (blkA c).add (lo.toNat * sz)) ∧ (hi - lo).toNat ≤ cap' ∧ x = .slice B (hi - lo).toNat cap' := by
  cases h with
  | data _ _ h => cases h
  | vsl _ _ _ A len cap sz h h0 h1 h2 B cap' hB hc _ => exact ⟨A, len, cap, sz, B, cap', h, h0, h1, h2, hB, hc, rfl⟩
theorem VR.vsl_inv0 {b : Nat} {hi : Int} {x : Value} (h : VR D σ w (.vsl b 0 hi) x) : ∃ A len cap sz, σ b = .hdr A len cap sz ∧ 0 ≤ hi ∧ hi ≤ len ∧ x = .slice (A.map blkA) hi.toNat cap := by
  cases h with
  | data _ _ h => cases h
  | vsl _ _ _ A len cap sz h h0 h1 h2 B cap' hB hc hz =>
    obtain ⟨rfl, rfl⟩ := hz rfl
    exact ⟨A, len, _, sz, h, h1, h2, by rw [Int.sub_zero]⟩
theorem VR.agg_inv {cs : List AV} {x : Value} (h : VR D σ w (.agg cs) x) : ∃ vs : List Value, cs.length = vs.length ∧ (∀ v ∈ vs, v.oneCell' = true) ∧ (∀ i (h1 : i < cs.length) (h2 : i < vs.length), VR D σ w cs[i] vs[i]) ∧ x = .agg vs.toArray := by
  cases h with
  | data _ _ h => cases h with | agg _ vs hl ho h => exact ⟨vs, hl, ho, fun i h1 h2 => .data _ _ (h i h1 h2), rfl⟩
  | agg _ vs hl ho h => exact ⟨vs, hl, ho, h, rfl⟩
theorem VR.tup_inv {cs : List AV} {x : Value} (h : VR D σ w (.tup cs) x) : ∃ vs : List Value, cs.length = vs.length ∧ (∀ i (h1 : i < cs.length) (h2 : i < vs.length), VR D σ w cs[i] vs[i]) ∧ x = .tuple vs.toArray := by
  cases h with
  | data _ _ h => cases h with | tup _ vs hl h => exact ⟨vs, hl, fun i h1 h2 => .data _ _ (h i h1 h2), rfl⟩
  | tup _ vs hl h => exact ⟨vs, hl, h, rfl⟩
theorem VR.func_inv {f : FuncId} {a c : List AV} {x : Value} (h : VR D σ w (.func f a c) x) : ∃ u v : List Value, a.length = u.length ∧ c.length = v.length ∧ (∀ i (h1 : i < a.length) (h2 : i < u.length), VR D σ w a[i] u[i]) ∧ (∀ i (h1 : i < c.length) (h2 : i < v.length), VR D σ w c[i] v[i]) ∧ x = .func (.func f) u.toArray v.toArray := by
  cases h with
  | data _ _ h => cases h
  | func _ _ _ u v h1 h2 h h' => exact ⟨u, v, h1, h2, h, h', rfl⟩

/-- The cells of one value: none of them is a value of several cells. -/
theorem VR.one {v : AV} {x : Value} (h : VR D σ w v x) (h1 : ∀ cs, v ≠ .agg cs) (h2 : ∀ cs, v ≠ .tup cs) (h3 : v ≠ .junk) (h4 : v ≠ .undef) : x.oneCell' = true := by
  cases h with
  | data _ _ h => cases h <;> first | rfl | exact absurd rfl (h1 _) | exact absurd rfl (h2 _)
  | junk => exact absurd rfl h3
  | undef => exact absurd rfl h4
  | agg => exact absurd rfl (h1 _)
  | tup => exact absurd rfl (h2 _)
  | _ => rfl

theorem At.of_blk {base : Nat} {ok : Nat → Prop} {G : Gam} {M : Mem} (hm : MemOK base ok G w M) {b c : Nat} {cs : List AV} (hb : M[b]? = some (.cells cs)) (hc : G.σ b = .blk c) : At (VR G.D G.σ w) w (blkA c) cs := by
  obtain ⟨c', vs, t, h1, h2, h3, h4⟩ := hm.blocks b _ hb
  rw [hc] at h1
  cases h1
  intro j hj
  have hj' : j < vs.size := by omega
  refine ⟨vs[j], ?_, (h4 j hj hj').1, (h4 j hj hj').2⟩
  rw [blkA, add_lit]
  simp [World.cell?, h2, hj']
theorem At.of_dr {a : Addr} {cs : List AV} (h : At (DR D w) w a cs) : At (VR D σ w) w a cs := fun j hj => let ⟨x, h1, h2, h3⟩ := h j hj; ⟨x, h1, h2, .data _ _ h3⟩
/-- An element of a slice of the call's own. -/
theorem At.of_vec {base : Nat} {ok : Nat → Prop} {G : Gam} {M : Mem} (hm : MemOK base ok G w M) {b c len cap sz : Nat} {e : Kd} {l : List e.T} (hb : M[b]? = some (.vec e l) ∨ M[b]? = some (.fvec e l)) (hc : G.σ b = .hdr (some c) len cap sz) :
    len = l.length ∧ sz = e.size ∧ ∀ i (h : i < l.length), At (DR G.D w) w ((blkA c).add (i * e.size)) (e.cells l[i]) := by
  rcases hb with hb | hb
  · obtain ⟨A, cap', h1, h2, h3, h4⟩ := hm.blocks b _ hb
    rw [hc] at h1
    cases h1
    refine ⟨rfl, rfl, fun i h j hj => ?_⟩
    obtain ⟨vs, t, h5, h6, h7, h8⟩ := h4 c rfl
    have hlt : i * e.size + j < vs.size := by
      rw [h6]
      have : j < e.size := by rw [← Kd.cells_length e l[i]]; exact hj
      have : (i + 1) * e.size ≤ cap * e.size := Nat.mul_le_mul_right _ (by omega)
      rw [Nat.add_mul] at this
      omega
    refine ⟨vs[i * e.size + j], ?_, h7 _ (by simp), ?_⟩
    · rw [add_add, blkA, add_lit]; simp [World.cell?, h5, hlt]
    · have := h8 i h j hj
      simpa [hlt] using this
  · obtain ⟨A, cap', h1, h2⟩ := hm.blocks b _ hb
    rw [hc] at h1
    cases h1
    refine ⟨rfl, rfl, fun i h j hj => ?_⟩
    generalize hx : Value.slice (Option.map blkA (some c)) l.length cap = x at h2
    cases h2 with
    | sl _ _ A cap cv hcap hA hone hr =>
      obtain ⟨a, ha, hD, hcell⟩ := hA i h
      subst ha
      injection hx with hx1 hx2 hx3
      injection hx1 with hx1
      subst hx1
      have hj' : j < e.size := by rw [← Kd.cells_length e l[i]]; exact hj
      exact ⟨cv i j, by rw [add_add]; exact hcell j hj', hone i j h hj', hr i h j hj⟩

end Go.Sx
