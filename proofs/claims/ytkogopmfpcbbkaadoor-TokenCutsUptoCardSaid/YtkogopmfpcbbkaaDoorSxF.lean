/-
  SX, part F: slices of slices, values read as data, freezing.
-/
import Derived.Test.YtkogopmfpcbbkaaDoorSxD
set_option linter.unusedVariables false
set_option linter.unusedSimpArgs false
namespace Go.Sx
open Go
open Go.RowKit (Below)
variable {D : Nat → Prop} {σ : Nat → SB} {w : GW}

/-- A piece of a slice. -/
theorem DR.sub {e : Kd} {l : List e.T} {A : Option Addr} {cap : Nat} (h : DR D w (.sl e l) (.slice A l.length cap)) (lo hi : Nat) (h1 : lo ≤ hi) (h2 : hi ≤ l.length) (B : Option Addr) (cap' : Nat)
    (hB : lo < hi → B = A.map (·.add (lo * e.size))) (hc : hi - lo ≤ cap') : DR D w (.sl e ((l.take hi).drop lo)) (.slice B (hi - lo) cap') := by
  have hlen : ((l.take hi).drop lo).length = hi - lo := by simp; omega
  have hget : ∀ i (h : i < ((l.take hi).drop lo).length), ((l.take hi).drop lo)[i] = l[lo + i]'(by rw [hlen] at h; omega) := by
    intro i h; simp
  generalize hx : Value.slice A l.length cap = x at h
  cases h with
  | sl _ _ A' cap'' cv hcap hA hone hr =>
    injection hx with hx1 hx2 hx3
    subst hx1
    rw [← hlen]
    refine .sl e _ B cap' (fun i j => cv (lo + i) j) (by omega) (fun i hi' => ?_) (fun i j hi' hj => ?_) (fun i h j hj => ?_)
    · rw [hlen] at hi'
      obtain ⟨a, ha, hD, hc'⟩ := hA (lo + i) (by omega)
      refine ⟨a.add (lo * e.size), by rw [hB (by omega), ha]; rfl, by rw [add_block]; exact hD, fun j hj => ?_⟩
      rw [add_add, ← Nat.add_assoc, ← Nat.add_mul]
      exact hc' j hj
    · rw [hlen] at hi'; exact hone _ _ (by omega) hj
    · rw [hlen] at h
      have := hr (lo + i) (by omega) j (by rw [hget] at hj; exact hj)
      have e2 := hget i (by rw [hlen]; exact h)
      simp only [e2]
      exact this

theorem DR.slc_sl {e : Kd} {l : List e.T} {x : Value} (h : DR D w (.slc e l) x) : DR D w (.sl e l) x := by
  cases h with
  | slc _ _ A cv hA hone hr => exact .sl _ _ A _ cv (Nat.le_refl _) hA hone hr
theorem DR.sl_inv {e : Kd} {l : List e.T} {x : Value} (h : DR D w (.sl e l) x) : ∃ A cap, l.length ≤ cap ∧ x = .slice A l.length cap := by
  cases h with
  | sl _ _ A cap cv hcap hA hone hr => exact ⟨A, cap, hcap, rfl⟩
theorem DR.slc_inv {e : Kd} {l : List e.T} {x : Value} (h : DR D w (.slc e l) x) : ∃ A, x = .slice A l.length l.length := by
  cases h with
  | slc _ _ A cv hA hone hr => exact ⟨A, rfl⟩

theorem dataOf_sound {base : Nat} {ok : Nat → Prop} {G : Gam} {M : Mem} (hm : MemOK base ok G w M) {v v' : AV} {x : Value} (hv : VR G.D G.σ w v x) (h : dataOf M v = some v') : DR G.D w v' x := by
  unfold dataOf at h
  split at h
  · cases h; rw [hv.int_inv]; exact .int _ _
  · cases h; rw [hv.bool_inv]; exact .bool _
  · cases h; rw [hv.str_inv]; exact .str _
  · cases h; exact hv.sl_inv
  · cases h; exact hv.slc_inv.slc_sl
  · cases h; rw [hv.nilsl_inv]; exact .nilsl
  · cases h; rw [hv.nilp_inv]; exact .nilp
  · cases h; rw [hv.nilf_inv]; exact .nilf
  · cases h; cases hv with | data _ _ h => exact h
  · cases h; rw [hv.nili_inv]; exact .nili
  · cases h; obtain ⟨t, y, rfl⟩ := hv.err_inv; exact .err t y
  · rename_i b
    split at h
    · rename_i e l hb
      cases h
      obtain ⟨A, len, cap, sz, h1, rfl⟩ := hv.vec_inv
      obtain ⟨A', cap', h2, h3⟩ := hm.blocks b _ hb
      rw [h1] at h2
      cases h2
      exact h3
    · simp at h
  · rename_i b lo hi
    split at h
    · rename_i e l hb
      cases h
      obtain ⟨A, len, cap, sz, B, cap', h1, h0, h01, hlen, hB, hc, rfl⟩ := hv.vsl_inv
      obtain ⟨A', cap'', h2, h3⟩ := hm.blocks b _ hb
      rw [h1] at h2
      cases h2
      have hs : (hi - lo).toNat = hi.toNat - lo.toNat := by omega
      rw [hs] at hc ⊢
      refine h3.sub lo.toNat hi.toNat (by omega) (by omega) B cap' (fun hlt => ?_) hc
      rw [hB (by omega)]
      cases A <;> rfl
    · simp at h
  · simp at h

theorem datasOf_sound {base : Nat} {ok : Nat → Prop} {G : Gam} {M : Mem} (hm : MemOK base ok G w M) : ∀ {vs vs' : List AV}, datasOf M vs = some vs' → vs.length = vs'.length ∧ ∀ i (h1 : i < vs.length) (h2 : i < vs'.length) (x : Value), VR G.D G.σ w vs[i] x → DR G.D w vs'[i] x
  | [], vs', h => by simp [datasOf] at h; subst h; exact ⟨rfl, fun i h => by simp at h⟩
  | v :: r, vs', h => by
    simp only [datasOf, Option.bind_eq_some_iff, Option.some.injEq] at h
    obtain ⟨a, ha, b, hb, rfl⟩ := h
    obtain ⟨hl, hr⟩ := datasOf_sound hm hb
    refine ⟨by simp [hl], fun i h1 h2 x hx => ?_⟩
    cases i with
    | zero => exact dataOf_sound hm hx ha
    | succ i => exact hr i (by simpa using h1) (by simpa using h2) x hx
theorem dataArg_sound {base : Nat} {ok : Nat → Prop} {G : Gam} {M : Mem} (hm : MemOK base ok G w M) {v v' : AV} {x : Value} (hv : VR G.D G.σ w v x) (h : dataArg M v = some v') : DR G.D w v' x := by
  unfold dataArg at h
  split at h
  · rename_i cs
    simp only [Option.bind_eq_some_iff, Option.some.injEq] at h
    obtain ⟨b, hb, rfl⟩ := h
    obtain ⟨hl, hr⟩ := datasOf_sound hm hb
    obtain ⟨vs, hl', hone, hh, rfl⟩ := hv.agg_inv
    exact .agg _ vs (by omega) hone fun i h1 h2 => hr i (by omega) h1 _ (hh i (by omega) h2)
  · exact dataOf_sound hm hv h
theorem dataArgs_sound {base : Nat} {ok : Nat → Prop} {G : Gam} {M : Mem} (hm : MemOK base ok G w M) : ∀ {vs vs' : List AV}, dataArgs M vs = some vs' → vs.length = vs'.length ∧ ∀ i (h1 : i < vs.length) (h2 : i < vs'.length) (x : Value), VR G.D G.σ w vs[i] x → DR G.D w vs'[i] x
  | [], vs', h => by simp [dataArgs] at h; subst h; exact ⟨rfl, fun i h => by simp at h⟩
  | v :: r, vs', h => by
    simp only [dataArgs, Option.bind_eq_some_iff, Option.some.injEq] at h
    obtain ⟨a, ha, b, hb, rfl⟩ := h
    obtain ⟨hl, hr⟩ := dataArgs_sound hm hb
    refine ⟨by simp [hl], fun i h1 h2 x hx => ?_⟩
    cases i with
    | zero => exact dataArg_sound hm hx ha
    | succ i => exact hr i (by simpa using h1) (by simpa using h2) x hx

theorem CellsR.mono {R R' : AV → Value → Prop} {cs : List AV} {vs : Array Value} (h : CellsR R cs vs) (hr : ∀ v x, R v x → R' v x) : CellsR R' cs vs := ⟨h.1, fun i h1 h2 => ⟨(h.2 i h1 h2).1, hr _ _ (h.2 i h1 h2).2⟩⟩
/-- A block stays as it is told, where what it names stays. -/
theorem BR.mono {D D' : Nat → Prop} {σ σ' : Nat → SB} {w w' : GW} (h : ∀ c, D c → D' c ∧ w'.heap[c]? = w.heap[c]?) (hσ : ∀ b, σ b ≠ .none → σ' b = σ b) {sb : SB} {x : Blk} (hb : BR D σ w sb x)
    (hh : ∀ c, mutC sb x = some c → w'.heap[c]? = w.heap[c]?) : BR D' σ' w' sb x := by
  cases x with
  | dead => trivial
  | cells cs =>
    obtain ⟨c, vs, t, rfl, h2, h3⟩ := hb
    exact ⟨c, vs, t, rfl, by rw [hh c rfl]; exact h2, h3.mono fun v x hv => hv.grow h hσ⟩
  | vec e l =>
    obtain ⟨A, cap, rfl, h2, h3, h4⟩ := hb
    refine ⟨A, cap, rfl, h2, h3, fun c hc => ?_⟩
    obtain ⟨vs, t, h5, h6, h7, h8⟩ := h4 c hc
    exact ⟨vs, t, by rw [hh c (by simp [mutC, hc])]; exact h5, h6, h7, fun i hi j hj => (h8 i hi j hj).mono h⟩
  | fvec e l => obtain ⟨A, cap, rfl, h2⟩ := hb; exact ⟨A, cap, rfl, h2.mono h⟩
  | map kk kv l =>
    obtain ⟨c, es, clock, rfl, h2, h3, h4⟩ := hb
    exact ⟨c, es, clock, rfl, by rw [hh c rfl]; exact h2, h3, fun i h1 h2 => ⟨(h4 i h1 h2).1.mono h, (h4 i h1 h2).2.mono h⟩⟩
  | amap ks vs =>
    obtain ⟨c, es, clock, rfl, h2, h3, h4, h5, h6⟩ := hb
    exact ⟨c, es, clock, rfl, by rw [hh c rfl]; exact h2, h3, h4, fun i h1 h2 => (h5 i h1 h2).grow h hσ, fun i h1 h2 => (h6 i h1 h2).grow h hσ⟩

theorem cells_get {e : Kd} {l : List e.T} {i j : Nat} (h : i < l.length) (hj : j < (e.cells l[i]).length) : j < e.size := by rw [← Kd.cells_length e l[i]]; exact hj

/-- Freezing one slice. -/
theorem freeze_sound {base : Nat} {ok : Nat → Prop} {G : Gam} {M : Mem} (hm : MemOK base ok G w M) (b : Nat) :
    ∃ D', (∀ c, G.D c → D' c) ∧ (∀ c, D' c → G.D c ∨ base ≤ c) ∧ MemOK base ok ⟨G.σ, D'⟩ w (M.modify b frzB) := by
  cases hb : M[b]? with
  | none =>
    refine ⟨G.D, fun _ h => h, fun _ h => .inl h, ?_⟩
    have : M.modify b frzB = M := by
      apply List.ext_getElem?
      intro i
      rw [List.getElem?_modify]
      by_cases hi : b = i
      · subst hi; simp [hb]
      · simp [hi]
    rw [this]; exact hm
  | some x =>
    have same : (∀ e l, x ≠ .vec e l) → M.modify b frzB = M := by
      intro hx
      apply List.ext_getElem?
      intro i
      rw [List.getElem?_modify]
      by_cases hi : b = i
      · subst hi
        simp only [hb, if_true]
        cases x <;> first | rfl | exact absurd rfl (hx _ _)
      · simp [hi]
    cases x with
    | vec e l =>
      obtain ⟨A, cap, h1, h2, h3, h4⟩ := hm.blocks b _ hb
      let D' : Nat → Prop := fun c => G.D c ∨ A = some c
      have hgrow : ∀ c, G.D c → D' c ∧ w.heap[c]? = w.heap[c]? := fun c h => ⟨.inl h, rfl⟩
      have hown : ∀ c, A = some c → base ≤ c ∧ c < w.heap.size ∧ ¬ G.D c := fun c hc => hm.own b _ c hb (by simp [mutC, h1, hc])
      have hget : ∀ (i : Nat) (y : Blk), (M.modify b frzB)[i]? = some y → (i = b ∧ y = .fvec e l) ∨ (i ≠ b ∧ M[i]? = some y) := by
        intro i y hy
        rw [List.getElem?_modify] at hy
        by_cases hi : b = i
        · subst hi; simp [hb, frzB] at hy; exact .inl ⟨rfl, hy.symm⟩
        · simp [hi] at hy; exact .inr ⟨fun e => hi e.symm, hy⟩
      refine ⟨D', fun c h => .inl h, fun c h => ?_, ?_, ?_, ?_, ?_, ?_, ?_⟩
      · rcases h with h | h
        · exact .inl h
        · exact .inr (hown c h).1
      · intro i y hy
        rcases hget i y hy with ⟨rfl, rfl⟩ | ⟨hne, hy⟩
        · have hk' : ∀ k, k < l.length → ∃ c vs t, A = some c ∧ w.heap[c]? = some (.cells vs t (0, 0)) ∧ (∀ v ∈ vs.toList, v.oneCell' = true) ∧ (∀ j, j < e.size → k * e.size + j < vs.size) ∧
              ∀ (h : k < l.length) j (hj : j < (e.cells l[k]).length), DR G.D w ((e.cells l[k])[j]) (vs.getD (k * e.size + j) undef) := by
            intro k hk
            cases hA : A with
            | none => have := (h3 hA).1; subst this; simp at hk
            | some c =>
              obtain ⟨vs, t, h5, h6, h7, h8⟩ := h4 c hA
              refine ⟨c, vs, t, rfl, h5, h7, fun j hj => ?_, fun h j hj => h8 k h j hj⟩
              have : (k + 1) * e.size ≤ cap * e.size := Nat.mul_le_mul_right _ (by omega)
              rw [Nat.add_mul] at this; rw [h6]; omega
          refine ⟨A, cap, h1, .sl e l _ cap (fun i j => ((A.bind fun c => w.cell? ((blkA c).add (i * e.size + j))).getD undef)) h2 (fun k hk => ?_) (fun k j hk hj => ?_) (fun k hk j hj => ?_)⟩
          · obtain ⟨c, vs, t, hA, h5, h7, hin, h8⟩ := hk' k hk
            subst hA
            refine ⟨blkA c, rfl, .inr rfl, fun j hj => ?_⟩
            have := hin j hj
            simp [blkA, add_lit, World.cell?, h5, this]
          · obtain ⟨c, vs, t, hA, h5, h7, hin, h8⟩ := hk' k hk
            subst hA
            have := hin j hj
            simp only [Option.bind_some, blkA, add_lit, World.cell?, h5, Nat.zero_add]
            simp [this]
            exact h7 _ (by simp)
          · obtain ⟨c, vs, t, hA, h5, h7, hin, h8⟩ := hk' k hk
            subst hA
            have := hin j (cells_get hk hj)
            have h9 := (h8 hk j hj).mono hgrow
            simp only [Option.bind_some, blkA, add_lit, World.cell?, h5, Nat.zero_add]
            simpa [this] using h9
        · exact (hm.blocks i y hy).mono hgrow (fun _ _ => rfl) (fun _ _ => rfl)
      · intro i y c hy hc
        rcases hget i y hy with ⟨rfl, rfl⟩ | ⟨hne, hy⟩
        · simp [mutC, h1] at hc
        · obtain ⟨ha, hb', hd⟩ := hm.own i y c hy hc
          refine ⟨ha, hb', fun h => ?_⟩
          rcases h with h | h
          · exact hd h
          · exact hne (hm.apart b i _ y c hb (by simp [mutC, h1, h]) hy hc)
      · intro i i' y y' c hy hc hy' hc'
        rcases hget i y hy with ⟨rfl, rfl⟩ | ⟨hne, hy⟩
        · simp [mutC, h1] at hc
        · rcases hget i' y' hy' with ⟨rfl, rfl⟩ | ⟨hne', hy'⟩
          · simp [mutC, h1] at hc'
          · exact hm.apart i i' y y' c hy hc hy' hc'
      · intro c h
        rcases h with h | h
        · exact hm.dlt c h
        · exact (hown c h).2.1
      · intro c h
        rcases h with h | h
        · exact hm.dok c h
        · exact .inr (hown c h).1
      · intro i hi; exact hm.out i (by simpa using hi)
    | _ =>
      refine ⟨G.D, fun _ h => h, fun _ h => .inl h, ?_⟩
      rw [same (by intro e l h; cases h)]
      exact hm
end Go.Sx
