/-
  SX, part L: new memory.
-/
import Derived.Test.YtkogopmfpcbbkaaDoorSxJ
set_option linter.unusedVariables false
set_option linter.unusedSimpArgs false
namespace Go.Sx
open Go
open Go.RowKit (Below)
variable {P : Program} {E : Env} {base : Nat} {ok : Nat → Prop} {G : Gam} {w : GW} {M : Mem} {R : Type} {slot : Nat}

def Gam.up (G : Gam) (slot : Nat) (sb : SB) : Gam := ⟨fun b => if b = slot then sb else G.σ b, G.D⟩
theorem Gam.up_self (G : Gam) (slot : Nat) (sb : SB) : (G.up slot sb).σ slot = sb := by simp [Gam.up]
theorem Gam.up_grow {G : Gam} {slot : Nat} (h : G.σ slot = .none) (sb : SB) : ∀ b, G.σ b ≠ .none → (G.up slot sb).σ b = G.σ b := by
  intro b hb
  have : b ≠ slot := fun e => hb (e ▸ h)
  simp [Gam.up, this]
theorem heap_alloc_lt (w : GW) (o : Obj) {c : Nat} (h : c < w.heap.size) : (w.alloc o).heap[c]? = w.heap[c]? := Below.heap_alloc w o c h
theorem heap_alloc_self (w : GW) (o : Obj) : (w.alloc o).heap[w.heap.size]? = some o := by
  show (w.heap.push o)[w.heap.size]? = some o
  simp
theorem below_alloc (w : GW) (o : Obj) : Below w.heap.size w (w.alloc o) := (Below.refl _ _).alloc (Nat.le_refl _) o
theorem grow_alloc (hd : ∀ c, G.D c → c < w.heap.size) (o : Obj) : ∀ c, G.D c → G.D c ∧ (w.alloc o).heap[c]? = w.heap[c]? := fun c h => ⟨h, heap_alloc_lt w o (hd c h)⟩

theorem Step.lay (hslot : G.σ slot = .none) (hd : ∀ c, G.D c → c < w.heap.size) {o : Obj} {x : Blk} {sb : SB} (hbr : BR G.D (G.up slot sb).σ (w.alloc o) sb x) (hmut : ∀ c, mutC sb x = some c → c = w.heap.size) :
    Step G w slot (some x) (G.up slot sb) (w.alloc o) := by
  refine ⟨below_alloc w o, fun _ h => h, fun _ h => .inl h, fun i hi => by simp [Gam.up, hi], ?_⟩
  rw [Gam.up_self]
  refine ⟨hbr, fun c hc => ?_⟩
  have := hmut c hc
  subst this
  refine ⟨Nat.le_refl _, by simp, fun h => ?_⟩
  have := hd _ h
  omega

/-- A row of cells is laid. -/
theorem Step.cells (hslot : G.σ slot = .none) (hd : ∀ c, G.D c → c < w.heap.size) {cs : List AV} {vs : Array Value} (t : TypeId) (h : CellsR (VR G.D G.σ w) cs vs) :
    Step G w slot (some (.cells cs)) (G.up slot (.blk w.heap.size)) (w.alloc (.cells vs t)) := by
  refine Step.lay hslot hd ⟨w.heap.size, vs, t, rfl, heap_alloc_self _ _, h.mono fun v x hv => hv.grow (grow_alloc hd _) (Gam.up_grow hslot _)⟩ (fun c hc => ?_)
  simp [mutC] at hc; exact hc.symm

theorem cellsR_zero {D : Nat → Prop} {σ : Nat → SB} {cs : List AV} {vs : Array Value} (h : zall cs vs.toList = true) : CellsR (VR D σ w) cs vs := by
  obtain ⟨hl, hh⟩ := zall_spec (D := D) (w := w) h
  refine ⟨by simpa using hl.symm, fun i h1 h2 => ?_⟩
  obtain ⟨a, b⟩ := hh i h1 (by simpa using h2)
  simp only [Array.getElem_toList] at a b
  exact ⟨b, .data _ _ a⟩

theorem run_newVar (t : TypeId) (v : Value) (w : GW) : (newVar t v).run P w = .ok ⟨w.heap.size, 0, none⟩ (w.alloc (.cells v.cells t)) := by
  simp [newVar, newRow]

theorem alloc_sound (hE : EnvOK P E) (hslot : G.σ slot = .none) (hd : ∀ c, G.D c → c < w.heap.size) {t : TypeId} {i : TyI} (hi : E.t t = some i) :
    Calm P G w slot (some (.cells i.zero)) (.ptr slot 0) (((do pure (.value (← Instr.alloc t true (.tuple #[]))) : Sem Next)).run P w) := by
  obtain ⟨z, hz, _, h1, _⟩ := run_zeroValue' (hE.ty t i hi) w
  have : (Instr.alloc t true (.tuple #[])).run P w = .ok (.pointer (some (blkA w.heap.size))) (w.alloc (.cells z.cells t)) := by
    simp only [Instr.alloc, Sem.run_bind, hz, Result.andThen_ok, run_newVar, Sem.run_pure]; rfl
  simp only [Sem.run_bind, this, Result.andThen_ok, Sem.run_pure]
  refine ⟨_, Step.cells hslot hd t (cellsR_zero h1), ?_⟩
  have := VR.ptr (D := G.D) (σ := (G.up slot (.blk w.heap.size)).σ) (w := w.alloc (.cells z.cells t)) slot 0 w.heap.size (Gam.up_self ..)
  rw [add_zero] at this
  exact this

theorem cellsR_of {D : Nat → Prop} {σ : Nat → SB} {cs : List AV} {vs : List Value} (hl : cs.length = vs.length) (ho : ∀ v ∈ vs, v.oneCell' = true) (h : ∀ i (h1 : i < cs.length) (h2 : i < vs.length), VR D σ w cs[i] vs[i]) : CellsR (VR D σ w) cs vs.toArray :=
  ⟨by simp [hl], fun i h1 h2 => ⟨ho _ (by simp), by simpa using h i h1 (by simpa using h2)⟩⟩
theorem cellsR_one {D : Nat → Prop} {σ : Nat → SB} {v : AV} {x : Value} (h : VR D σ w v x) (ho : x.oneCell' = true) : CellsR (VR D σ w) [v] #[x] :=
  ⟨rfl, fun i h1 h2 => by have : i = 0 := by simp at h1; exact h1
                          subst this; exact ⟨ho, h⟩⟩
theorem cells_one {x : Value} (h : x.oneCell' = true) : x.cells = #[x] := by cases x <;> first | rfl | simp [Value.oneCell'] at h

theorem box_sound (hslot : G.σ slot = .none) (hd : ∀ c, G.D c → c < w.heap.size) {t : TypeId} {x : Value} {cs : List AV} (h : CellsR (VR G.D G.σ w) cs x.cells) :
    Calm P G w slot (some (.cells cs)) (.ptr slot 0) (((do pure (.value (← Instr.box t x)) : Sem Next)).run P w) := by
  have : (Instr.box t x).run P w = .ok (.pointer (some (blkA w.heap.size))) (w.alloc (.cells x.cells t)) := by
    simp only [Instr.box, Sem.run_bind, run_newVar, Result.andThen_ok, Sem.run_pure]; rfl
  simp only [Sem.run_bind, this, Result.andThen_ok, Sem.run_pure]
  refine ⟨_, Step.cells hslot hd t h, ?_⟩
  have := VR.ptr (D := G.D) (σ := (G.up slot (.blk w.heap.size)).σ) (w := w.alloc (.cells x.cells t)) slot 0 w.heap.size (Gam.up_self ..)
  rw [add_zero] at this
  exact this

/-- A slice's row is laid: its elements are data. -/
theorem Step.vec (hslot : G.σ slot = .none) (hd : ∀ c, G.D c → c < w.heap.size) {e : Kd} {l : List e.T} {vs : Array Value} {cap : Nat} (t : TypeId) (hcap : l.length ≤ cap) (hsz : vs.size = cap * e.size) (hone : ∀ v ∈ vs.toList, v.oneCell' = true)
    (h : ∀ i (h : i < l.length) j (hj : j < (e.cells l[i]).length), DR G.D w ((e.cells l[i])[j]) (vs.getD (i * e.size + j) undef)) :
    Step G w slot (some (.vec e l)) (G.up slot (.hdr (some w.heap.size) l.length cap e.size)) (w.alloc (.cells vs t)) := by
  refine Step.lay hslot hd ⟨some w.heap.size, cap, rfl, hcap, by simp, fun c hc => ?_⟩ (fun c hc => ?_)
  · cases hc
    exact ⟨vs, t, heap_alloc_self _ _, hsz, hone, fun i hi j hj => (h i hi j hj).mono (grow_alloc hd _)⟩
  · simp [mutC] at hc; exact hc.symm
theorem VR.vec_new {D : Nat → Prop} {w' : GW} (G : Gam) (slot c len cap sz : Nat) : VR D (G.up slot (.hdr (some c) len cap sz)).σ w' (.vec slot) (.slice (some (blkA c)) len cap) := by
  have := VR.vec (D := D) (w := w') (σ := (G.up slot (.hdr (some c) len cap sz)).σ) slot (some c) len cap sz (Gam.up_self ..)
  exact this
/-- A nil slice as one of the call's own. -/
theorem Step.nilvec (hslot : G.σ slot = .none) (e : Kd) : Step G w slot (some (.vec e [])) (G.up slot (.hdr none 0 0 e.size)) w := by
  refine ⟨Below.refl _ _, fun _ h => h, fun _ h => .inl h, fun i hi => by simp [Gam.up, hi], ?_⟩
  rw [Gam.up_self]
  exact ⟨⟨none, 0, rfl, by simp, by simp, by simp⟩, fun c hc => by simp [mutC] at hc⟩
end Go.Sx
