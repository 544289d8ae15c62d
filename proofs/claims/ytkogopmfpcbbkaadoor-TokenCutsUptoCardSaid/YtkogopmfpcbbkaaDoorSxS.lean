/-
  SX, part S: states; freezing, new blocks, written blocks.
-/
import Derived.Test.YtkogopmfpcbbkaaDoorSxQ
set_option linter.unusedVariables false
set_option linter.unusedSimpArgs false
namespace Go.Sx
open Go
open Go.RowKit (Below)

/-- A state, and the machine's. en: what was when this frame was entered. -/
abbrev Ent := Gam × GW × List Nat × Nat
structure Rel (E : Env) (base : Nat) (w0 : GW) (ok : Nat → Prop) (en : Ent) (G : Gam) (s : St) (a : Act) (w : GW) : Prop where
  defers : a.defers = []
  size : a.tmps.size = s.T.length
  val : ∀ t v, s.T[t]? = some v → VR G.D G.σ w v (a.tmps.getD t undef)
  mem : MemOK base ok G w s.M
  below : Below base w0 w
  glob : GOK E.glob base G.D w
  base : base ≤ w.heap.size
  grow : ∀ c, en.1.D c → G.D c ∧ w.heap[c]? = en.2.1.heap[c]?
  held : ∀ b ∈ s.lock, en.1.σ b ≠ .none → G.σ b = en.1.σ b ∧ b < s.lo
  lo : s.lo ≤ s.M.length
  fr : s.lock = en.2.2.1 ∧ s.lo = en.2.2.2

variable {P : Program} {E : Env} {base : Nat} {w0 : GW} {ok : Nat → Prop} {en : Ent} {G G' : Gam} {s : St} {a : Act} {w w' : GW} {R : Type}

theorem GOK.mono {gl : List (Nat × List AV)} {D D' : Nat → Prop} (h : ∀ c, D c → D' c ∧ w'.heap[c]? = w.heap[c]?) (hg : GOK gl base D w) : GOK gl base D' w' := by
  intro g cs hl
  obtain ⟨h1, h2, h3, h7⟩ := hg g cs hl
  refine ⟨h1, (h g h2).1, fun j hj => ?_, by rw [(h g h2).2]; exact h7⟩
  obtain ⟨x, h4, h5, h6⟩ := h3 j hj
  refine ⟨x, ?_, h5, h6.mono h⟩
  have := (h g h2).2
  unfold World.cell? at h4 ⊢
  rw [add_block] at h4 ⊢
  rw [show (blkA g).block = g from rfl] at h4 ⊢
  rw [this]; exact h4

theorem tmps_set {tmps : Array Value} {T : List AV} {σ : Nat → SB} {D : Nat → Prop} (hs : tmps.size = T.length) (h : ∀ t v, T[t]? = some v → VR D σ w v (tmps.getD t undef)) {d : Nat} {v : AV} {x : Value} (hv : VR D σ w v x) :
    ∀ t u, (T.set d v)[t]? = some u → VR D σ w u ((tmps.setIfInBounds d x).getD t undef) := by
  intro t u hu
  rw [List.getElem?_set] at hu
  by_cases hd : d = t
  · subst hd
    by_cases hl : d < T.length
    · simp [hl] at hu; subst hu
      have : d < tmps.size := by omega
      simp [this]; exact hv
    · simp [hl] at hu
  · simp [hd] at hu
    have := h t u hu
    simp only [Array.getD_eq_getD_getElem?] at this ⊢
    rw [Array.getElem?_setIfInBounds_ne hd]
    exact this

theorem Rel.put (h : Rel E base w0 ok en G s a w) {v : AV} {x : Value} (hv : VR G.D G.σ w v x) (d : Option Nat) : Rel E base w0 ok en G (s.put d v) (a.put d x) w := by
  cases d with
  | none => exact h
  | some d =>
    have hput : s.put (some d) v = { s with T := s.T.set d v } := by simp only [St.put, setR_eq]
    rw [hput]
    refine ⟨h.defers, ?_, tmps_set h.size h.val hv, h.mem, h.below, h.glob, h.base, h.grow, h.held, h.lo, h.fr⟩
    simp [Act.put, h.size]

/-- The ghost of a state grows. -/
theorem Rel.gam (h : Rel E base w0 ok en G s a w) {M' : Mem} (hD : ∀ c, G.D c → G'.D c) (hσ : G'.σ = G.σ) (hm : MemOK base ok G' w M') (hl : M'.length = s.M.length) : Rel E base w0 ok en G' { s with M := M' } a w := by
  have hg : ∀ c, G.D c → G'.D c ∧ w.heap[c]? = w.heap[c]? := fun c hc => ⟨hD c hc, rfl⟩
  refine ⟨h.defers, h.size, fun t v ht => (h.val t v ht).grow hg (fun b _ => by rw [hσ]), hm, h.below, h.glob.mono hg, h.base, fun c hc => ⟨hD c (h.grow c hc).1, (h.grow c hc).2⟩, fun b hb hn => by rw [hσ]; exact h.held b hb hn, ?_, h.fr⟩
  show s.lo ≤ M'.length
  rw [hl]; exact h.lo

theorem Rel.freezeD (h : Rel E base w0 ok en G s a w) (b : Nat) : ∃ G', Rel E base w0 ok en G' { s with M := s.M.modify b frzB } a w ∧ G'.σ = G.σ ∧ ∀ c, G.D c → G'.D c := by
  obtain ⟨D', h1, h2, h3⟩ := freeze_sound h.mem b
  exact ⟨⟨G.σ, D'⟩, h.gam h1 rfl h3 (by simp), rfl, h1⟩
theorem Rel.freeze (h : Rel E base w0 ok en G s a w) (b : Nat) : ∃ G', Rel E base w0 ok en G' { s with M := s.M.modify b frzB } a w ∧ G'.σ = G.σ := by
  obtain ⟨G', h1, h2, _⟩ := h.freezeD b
  exact ⟨G', h1, h2⟩
theorem Rel.frz1 (h : Rel E base w0 ok en G s a w) (v : AV) : ∃ G', Rel E base w0 ok en G' { s with M := frz1 s.M v } a w ∧ G'.σ = G.σ := by
  cases v with
  | vec b => exact h.freeze b
  | vsl b i j => exact h.freeze b
  | _ => exact ⟨G, h, rfl⟩
theorem Rel.frzs : ∀ (vs : List AV) {s : St} {G : Gam}, Rel E base w0 ok en G s a w → ∃ G', Rel E base w0 ok en G' { s with M := frzs s.M vs } a w ∧ G'.σ = G.σ
  | [], s, G, h => ⟨G, h, rfl⟩
  | v :: r, s, G, h => by
    obtain ⟨G1, h1, e1⟩ := h.frz1 v
    obtain ⟨G2, h2, e2⟩ := Rel.frzs r h1
    exact ⟨G2, h2, e2.trans e1⟩
theorem Rel.frz (h : Rel E base w0 ok en G s a w) (v : AV) : ∃ G', Rel E base w0 ok en G' { s with M := frz s.M v } a w ∧ G'.σ = G.σ := by
  unfold Sx.frz
  split
  · exact Rel.frzs _ h
  · exact h.frz1 _
theorem Rel.frzArgs : ∀ (vs : List AV) {s : St} {G : Gam}, Rel E base w0 ok en G s a w → ∃ G', Rel E base w0 ok en G' { s with M := frzArgs s.M vs } a w ∧ G'.σ = G.σ
  | [], s, G, h => ⟨G, h, rfl⟩
  | v :: r, s, G, h => by
    obtain ⟨G1, h1, e1⟩ := h.frz v
    obtain ⟨G2, h2, e2⟩ := Rel.frzArgs r h1
    exact ⟨G2, h2, e2.trans e1⟩
theorem Rel.frzOp (h : Rel E base w0 ok en G s a w) (ev : Operand → AV) (o : Oper) : ∃ G', Rel E base w0 ok en G' { s with M := frzOp ev s.M o } a w ∧ G'.σ = G.σ := by
  unfold Sx.frzOp
  split
  · split
    · exact Rel.frzArgs _ h
    · exact ⟨G, h, rfl⟩
  · exact Rel.frzArgs _ h
  · exact ⟨G, h, rfl⟩

/-- A new block, at its place. -/
theorem MemOK.step {M M' : Mem} (hm : MemOK base ok G w M) {slot : Nat} {b : Option Blk} (hst : Step G w slot b G' w') (hslot : G.σ slot = .none) (hbase : base ≤ w.heap.size)
    (h1 : ∀ j x, M'[j]? = some x → (j ≠ slot ∧ M[j]? = some x) ∨ (j = slot ∧ (b = some x ∨ x = .dead))) (hlen : M.length ≤ M'.length) (hb : b = none ∨ slot < M'.length) : MemOK base ok G' w' M' := by
  have hg : ∀ c, G.D c → G'.D c ∧ w'.heap[c]? = w.heap[c]? := fun c hc => ⟨hst.keep c hc, hst.below.block c (hm.dlt c hc)⟩
  have hσ : ∀ i, G.σ i ≠ .none → G'.σ i = G.σ i := fun i hi => hst.σ i fun e => hi (e ▸ hslot)
  have hsize := hst.below.size
  refine ⟨?_, ?_, ?_, ?_, ?_, ?_⟩
  · intro j x hj
    rcases h1 j x hj with ⟨hne, hj⟩ | ⟨rfl, hx⟩
    · rw [hst.σ j hne]
      refine (hm.blocks j x hj).mono hg hσ fun c hc => hst.below.block c (hm.own j x c hj hc).2.1
    · rcases hx with hx | rfl
      · have := hst.slot; rw [hx] at this; exact this.1
      · trivial
  · intro j x c hj hc
    rcases h1 j x hj with ⟨hne, hj⟩ | ⟨rfl, hx⟩
    · rw [hst.σ j hne] at hc
      obtain ⟨a1, a2, a3⟩ := hm.own j x c hj hc
      refine ⟨a1, by omega, fun h => ?_⟩
      rcases hst.new c h with h | h
      · exact a3 h
      · omega
    · rcases hx with hx | rfl
      · have := hst.slot; rw [hx] at this
        obtain ⟨a1, a2, a3⟩ := this.2 c hc
        exact ⟨by omega, a2, a3⟩
      · cases hh : G'.σ j <;> rw [hh] at hc <;> simp [mutC] at hc
  · intro j j' x x' c hj hc hj' hc'
    have old : ∀ j x, M'[j]? = some x → mutC (G'.σ j) x = some c → (j ≠ slot ∧ M[j]? = some x ∧ mutC (G.σ j) x = some c ∧ c < w.heap.size) ∨ (j = slot ∧ w.heap.size ≤ c) := by
      intro j x hj hc
      rcases h1 j x hj with ⟨hne, hj⟩ | ⟨rfl, hx⟩
      · rw [hst.σ j hne] at hc
        exact .inl ⟨hne, hj, hc, (hm.own j x c hj hc).2.1⟩
      · rcases hx with hx | rfl
        · have := hst.slot; rw [hx] at this
          exact .inr ⟨rfl, (this.2 c hc).1⟩
        · cases hh : G'.σ j <;> rw [hh] at hc <;> simp [mutC] at hc
    rcases old j x hj hc with ⟨a1, a2, a3, a4⟩ | ⟨a1, a2⟩ <;> rcases old j' x' hj' hc' with ⟨b1, b2, b3, b4⟩ | ⟨b1, b2⟩
    · exact hm.apart j j' x x' c a2 a3 b2 b3
    · omega
    · omega
    · rw [a1, b1]
  · intro c h
    rcases hst.new c h with h | h
    · have := hm.dlt c h; omega
    · exact h.2
  · intro c h
    rcases hst.new c h with h | h
    · exact hm.dok c h
    · exact .inr (by omega)
  · intro i hi
    by_cases hne : i = slot
    · subst hne
      rcases hb with rfl | hb
      · have := hst.slot; simp only at this; rw [this]; exact hslot
      · omega
    · rw [hst.σ i hne]; exact hm.out i (by omega)

theorem Rel.step (h : Rel E base w0 ok en G s a w) {slot : Nat} {b : Option Blk} (hst : Step G w slot b G' w') (hslot : G.σ slot = .none) {M' : Mem}
    (h1 : ∀ j x, M'[j]? = some x → (j ≠ slot ∧ s.M[j]? = some x) ∨ (j = slot ∧ (b = some x ∨ x = .dead))) (hlen : s.M.length ≤ M'.length) (hb : b = none ∨ slot < M'.length) : Rel E base w0 ok en G' { s with M := M' } a w' := by
  have hg : ∀ c, G.D c → G'.D c ∧ w'.heap[c]? = w.heap[c]? := fun c hc => ⟨hst.keep c hc, hst.below.block c (h.mem.dlt c hc)⟩
  have hσ : ∀ i, G.σ i ≠ .none → G'.σ i = G.σ i := fun i hi => hst.σ i fun e => hi (e ▸ hslot)
  have hsize := hst.below.size
  refine ⟨h.defers, h.size, fun t v ht => (h.val t v ht).grow hg hσ, h.mem.step hst hslot h.base h1 hlen hb, h.below.trans (hst.below.mono h.base), h.glob.mono hg, Nat.le_trans h.base hsize, fun c hc => ⟨hst.keep c (h.grow c hc).1, ?_⟩, fun b hb hn => ?_, ?_, h.fr⟩
  · rw [(hg c (h.grow c hc).1).2]; exact (h.grow c hc).2
  · obtain ⟨e1, e2⟩ := h.held b hb hn
    exact ⟨by rw [hσ b (by rw [e1]; exact hn)]; exact e1, e2⟩
  · exact Nat.le_trans h.lo hlen

theorem Rel.push (h : Rel E base w0 ok en G s a w) {b : Option Blk} (hst : Step G w s.M.length b G' w') : Rel E base w0 ok en G' { s with M := pushO s.M b } a w' := by
  refine h.step hst (h.mem.out _ (Nat.le_refl _)) (fun j x hj => ?_) ?_ ?_
  · cases b with
    | none =>
      refine .inl ⟨?_, hj⟩
      have := (List.getElem?_eq_some_iff.1 hj).1
      simp only [pushO] at this; omega
    | some y =>
      simp only [pushO, List.getElem?_append] at hj
      split at hj
      · exact .inl ⟨by omega, hj⟩
      · rename_i hlt
        have h2 := (List.getElem?_eq_some_iff.1 hj).1
        simp at h2
        have e : j = s.M.length := by omega
        subst e
        simp at hj
        exact .inr ⟨rfl, .inl (by rw [hj])⟩
  · cases b <;> simp [pushO]
  · cases b <;> simp [pushO]

/-- One of the call's own blocks is written. -/
theorem Rel.write (h : Rel E base w0 ok en G s a w) {b c : Nat} {x x' : Blk} (hb : s.M[b]? = some x) (hc : mutC (G.σ b) x = some c) (hother : ∀ k, k ≠ c → w'.heap[k]? = w.heap[k]?) (hsz : w'.heap.size = w.heap.size)
    (hbelow : w'.os = w.os ∧ w'.tape = w.tape ∧ w'.output = w.output) (hbr : BR G.D G.σ w' (G.σ b) x') (hc' : ∀ c', mutC (G.σ b) x' = some c' → c' = c) : Rel E base w0 ok en G { s with M := s.M.set b x' } a w' := by
  obtain ⟨o1, o2, o3⟩ := h.mem.own b x c hb hc
  have hg : ∀ k, G.D k → G.D k ∧ w'.heap[k]? = w.heap[k]? := fun k hk => ⟨hk, hother k fun e => o3 (e ▸ hk)⟩
  have hget : ∀ j y, (s.M.set b x')[j]? = some y → (j ≠ b ∧ s.M[j]? = some y) ∨ (j = b ∧ y = x') := by
    intro j y hj
    rw [List.getElem?_set] at hj
    by_cases e : b = j
    · subst e
      have : b < s.M.length := (List.getElem?_eq_some_iff.1 hb).1
      simp [this] at hj; exact .inr ⟨rfl, hj.symm⟩
    · simp [e] at hj; exact .inl ⟨fun q => e q.symm, hj⟩
  have hbel : Below base w w' := ⟨hbelow.1, hbelow.2.1, hbelow.2.2, by omega, fun k hk => hother k (by omega)⟩
  refine ⟨h.defers, h.size, fun t v ht => (h.val t v ht).grow hg (fun _ _ => rfl), ⟨?_, ?_, ?_, ?_, h.mem.dok, ?_⟩, h.below.trans hbel, h.glob.mono hg, by rw [hsz]; exact h.base, fun k hk => ⟨(h.grow k hk).1, ?_⟩, h.held, by simpa using h.lo, h.fr⟩
  · intro j y hj
    rcases hget j y hj with ⟨hne, hj⟩ | ⟨rfl, rfl⟩
    · refine (h.mem.blocks j y hj).mono hg (fun _ _ => rfl) fun k hk => hother k fun e => ?_
      exact hne ((h.mem.apart b j x y c hb hc hj (e ▸ hk)))
    · exact hbr
  · intro j y k hj hk
    rcases hget j y hj with ⟨hne, hj⟩ | ⟨rfl, rfl⟩
    · rw [hsz]; exact h.mem.own j y k hj hk
    · rw [hc' k hk, hsz]; exact ⟨o1, o2, o3⟩
  · intro j j' y y' k hj hk hj' hk'
    rcases hget j y hj with ⟨hne, hq⟩ | ⟨e1, e2⟩
    · rcases hget j' y' hj' with ⟨hne', hq'⟩ | ⟨e1', e2'⟩
      · exact h.mem.apart j j' y y' k hq hk hq' hk'
      · subst e1'; subst e2'
        rw [hc' k hk'] at hk
        exact (h.mem.apart j j' y x c hq hk hb hc)
    · subst e1; subst e2
      rcases hget j' y' hj' with ⟨hne', hq'⟩ | ⟨e1', e2'⟩
      · rw [hc' k hk] at hk'
        exact (h.mem.apart j j' x y' c hb hc hq' hk')
      · exact e1'
  · intro k hk; rw [hsz]; exact h.mem.dlt k hk
  · intro i hi; exact h.mem.out i (by simpa using hi)
  · rw [(hg k (h.grow k hk).1).2]; exact (h.grow k hk).2
end Go.Sx
