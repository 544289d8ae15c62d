/-
  SX: a symbolic evaluator over the model and its soundness: part 2 of 4.
-/
import Derived.Test.YtcpabdpbldmmmaaGreatDoorSxBaseA
import Derived.Laws.MakeOwn
import Derived.MapKept
import Derived.IntWalk
set_option linter.unusedVariables false
set_option linter.unusedSimpArgs false
namespace Go.Sx
open Go
open Go.RowKit (Below)
variable {P : Program} {E : Env} {base : Nat} {ok : Nat → Prop} {G : Gam} {w : GW} {M : Mem} {R : Type} {slot : Nat}
def Gam.up (G : Gam) (slot : Nat) (sb : SB) : Gam := ⟨fun b => if b = slot then sb else G.σ b, G.D⟩
theorem Gam.up_self (G : Gam) (slot : Nat) (sb : SB) : (G.up slot sb).σ slot = sb := by simp [Gam.up]
theorem Gam.up_grow {G : Gam} {slot : Nat} (h : G.σ slot = .none) (sb : SB) : ∀ b, G.σ b ≠ .none → (G.up slot sb).σ b = G.σ b := by
 intro b hb
 have : b ≠ slot := fun e => hb (e ▸ h)
 simp [Gam.up, this]
theorem vY (w : GW) (o : Obj) {c : Nat} (h : c < w.heap.size) : (w.alloc o).heap[c]? = w.heap[c]? := Below.heap_alloc w o c h
theorem j2 (w : GW) (o : Obj) : (w.alloc o).heap[w.heap.size]? = some o := by
 show (w.heap.push o)[w.heap.size]? = some o
 simp
theorem No (w : GW) (o : Obj) : Below w.heap.size w (w.alloc o) := (Below.refl _ _).alloc (Nat.le_refl _) o
theorem GT (hd : ∀ c, G.D c → c < w.heap.size) (o : Obj) : ∀ c, G.D c → G.D c ∧ (w.alloc o).heap[c]? = w.heap[c]? := fun c h => ⟨h, vY w o (hd c h)⟩
theorem Step.lay (hslot : G.σ slot = .none) (hd : ∀ c, G.D c → c < w.heap.size) {o : Obj} {x : Blk} {sb : SB} (hbr : BR G.D (G.up slot sb).σ (w.alloc o) sb x) (hmut : ∀ c, mutC sb x = some c → c = w.heap.size) :
  Step G w slot (some x) (G.up slot sb) (w.alloc o) := by
 refine ⟨No w o, fun _ h => h, fun _ h => .inl h, fun i hi => by simp [Gam.up, hi], ?_⟩
 rw [Gam.up_self]
 refine ⟨hbr, fun c hc => ?_⟩
 have := hmut c hc
 subst this
 refine ⟨Nat.le_refl _, by simp, fun h => ?_⟩
 have := hd _ h
 omega
theorem Step.cells (hslot : G.σ slot = .none) (hd : ∀ c, G.D c → c < w.heap.size) {cs : List AV} {vs : Array Value} (t : TypeId) (h : vw (VR G.D G.σ w) cs vs) :
  Step G w slot (some (.cells cs)) (G.up slot (.blk w.heap.size)) (w.alloc (.cells vs t)) := by
 refine Step.lay hslot hd ⟨w.heap.size, vs, t, rfl, j2 _ _, h.mono fun v x hv => hv.grow (GT hd _) (Gam.up_grow hslot _)⟩ (fun c hc => ?_)
 simp [mutC] at hc; exact hc.symm
theorem Ni {D : Nat → Prop} {σ : Nat → SB} {cs : List AV} {vs : Array Value} (h : zall cs vs.toList = true) : vw (VR D σ w) cs vs := by
 obtain ⟨hl, hh⟩ := zG (D := D) (w := w) h
 refine ⟨by simpa using hl.symm, fun i h1 h2 => ?_⟩
 obtain ⟨a, b⟩ := hh i h1 (by simpa using h2)
 simp only [Array.getElem_toList] at a b
 exact ⟨b, .data _ _ a⟩
theorem Gj (t : TypeId) (v : Value) (w : GW) : (newVar t v).run P w = .ok ⟨w.heap.size, 0, none⟩ (w.alloc (.cells v.cells t)) := by
 simp [newVar, newRow]
theorem Nr (hE : EnvOK P E) (hslot : G.σ slot = .none) (hd : ∀ c, G.D c → c < w.heap.size) {t : TypeId} {i : TyI} (hi : E.t t = some i) :
  zw P G w slot (some (.cells i.zero)) (.ptr slot 0) (((do pure (.value (← Instr.alloc t true (.tuple #[]))) : Sem Next)).run P w) := by
 obtain ⟨z, hz, _, h1, _⟩ := jM (hE.ty t i hi) w
 have : (Instr.alloc t true (.tuple #[])).run P w = .ok (.pointer (some (blkA w.heap.size))) (w.alloc (.cells z.cells t)) := by
  simp only [Instr.alloc, Sem.run_bind, hz, Result.andThen_ok, Gj, Sem.run_pure]; rfl
 simp only [Sem.run_bind, this, Result.andThen_ok, Sem.run_pure]
 refine ⟨_, Step.cells hslot hd t (Ni h1), ?_⟩
 have := VR.ptr (D := G.D) (σ := (G.up slot (.blk w.heap.size)).σ) (w := w.alloc (.cells z.cells t)) slot 0 w.heap.size (Gam.up_self ..)
 rw [add_zero] at this
 exact this
theorem qef {D : Nat → Prop} {σ : Nat → SB} {cs : List AV} {vs : List Value} (hl : cs.length = vs.length) (ho : ∀ v ∈ vs, v.oneCell' = true) (h : ∀ i (h1 : i < cs.length) (h2 : i < vs.length), VR D σ w cs[i] vs[i]) : vw (VR D σ w) cs vs.toArray :=
 ⟨by simp [hl], fun i h1 h2 => ⟨ho _ (by simp), by simpa using h i h1 (by simpa using h2)⟩⟩
theorem qaa {D : Nat → Prop} {σ : Nat → SB} {v : AV} {x : Value} (h : VR D σ w v x) (ho : x.oneCell' = true) : vw (VR D σ w) [v] #[x] :=
 ⟨rfl, fun i h1 h2 => by have : i = 0 := by simp at h1; exact h1
                         subst this; exact ⟨ho, h⟩⟩
theorem kW {x : Value} (h : x.oneCell' = true) : x.cells = #[x] := by cases x <;> first | rfl | simp [Value.oneCell'] at h
theorem YK (hslot : G.σ slot = .none) (hd : ∀ c, G.D c → c < w.heap.size) {t : TypeId} {x : Value} {cs : List AV} (h : vw (VR G.D G.σ w) cs x.cells) :
  zw P G w slot (some (.cells cs)) (.ptr slot 0) (((do pure (.value (← Instr.box t x)) : Sem Next)).run P w) := by
 have : (Instr.box t x).run P w = .ok (.pointer (some (blkA w.heap.size))) (w.alloc (.cells x.cells t)) := by
  simp only [Instr.box, Sem.run_bind, Gj, Result.andThen_ok, Sem.run_pure]; rfl
 simp only [Sem.run_bind, this, Result.andThen_ok, Sem.run_pure]
 refine ⟨_, Step.cells hslot hd t h, ?_⟩
 have := VR.ptr (D := G.D) (σ := (G.up slot (.blk w.heap.size)).σ) (w := w.alloc (.cells x.cells t)) slot 0 w.heap.size (Gam.up_self ..)
 rw [add_zero] at this
 exact this
theorem Step.vec (hslot : G.σ slot = .none) (hd : ∀ c, G.D c → c < w.heap.size) {e : Kd} {l : List e.T} {vs : Array Value} {cap : Nat} (t : TypeId) (hcap : l.length ≤ cap) (hsz : vs.size = cap * e.size) (hone : ∀ v ∈ vs.toList, v.oneCell' = true)
  (h : ∀ i (h : i < l.length) j (hj : j < (e.cells l[i]).length), DR G.D w ((e.cells l[i])[j]) (vs.getD (i * e.size + j) undef)) :
  Step G w slot (some (.vec e l)) (G.up slot (.hdr (some w.heap.size) l.length cap e.size)) (w.alloc (.cells vs t)) := by
 refine Step.lay hslot hd ⟨some w.heap.size, cap, rfl, hcap, by simp, fun c hc => ?_⟩ (fun c hc => ?_)
 ·cases hc
  exact ⟨vs, t, j2 _ _, hsz, hone, fun i hi j hj => (h i hi j hj).mono (GT hd _)⟩
 ·simp [mutC] at hc; exact hc.symm
theorem VR.vec_new {D : Nat → Prop} {w' : GW} (G : Gam) (slot c len cap sz : Nat) : VR D (G.up slot (.hdr (some c) len cap sz)).σ w' (.vec slot) (.slice (some (blkA c)) len cap) := by
 have := VR.vec (D := D) (w := w') (σ := (G.up slot (.hdr (some c) len cap sz)).σ) slot (some c) len cap sz (Gam.up_self ..)
 exact this
theorem Step.nilvec (hslot : G.σ slot = .none) (e : Kd) : Step G w slot (some (.vec e [])) (G.up slot (.hdr none 0 0 e.size)) w := by
 refine ⟨Below.refl _ _, fun _ h => h, fun _ h => .inl h, fun i hi => by simp [Gam.up, hi], ?_⟩
 rw [Gam.up_self]
 exact ⟨⟨none, 0, rfl, by simp, by simp, by simp⟩, fun c hc => by simp [mutC] at hc⟩
end Go.Sx
namespace Go.Sx
open Go
open Go.RowKit (Below)
variable {P : Program} {E : Env} {base : Nat} {ok : Nat → Prop} {G : Gam} {w : GW} {M : Mem} {R : Type} {slot : Nat}
theorem Yd (off : Nat) : ∀ (vs : List Value) (n : Nat) (cs : List Value), off + n + vs.length ≤ cs.length →
  ((vs.zipIdx n).foldl (fun (cs : Array Value) (p : Value × Nat) => cs.setIfInBounds (off + p.2) p.1) cs.toArray) = (cs.take (off + n) ++ vs ++ cs.drop (off + n + vs.length)).toArray
 | [], n, cs, _ => by simp
 | v :: r, n, cs, h => by
   simp only [List.zipIdx_cons, List.foldl_cons, List.length_cons] at h ⊢
   have e : cs.toArray.setIfInBounds (off + n) v = (cs.set (off + n) v).toArray := by simp
   rw [e, Yd off r (n + 1) (cs.set (off + n) v) (by simp; omega)]
   congr 1
   apply List.ext_getElem?
   intro i
   simp only [List.getElem?_append, List.length_take, List.length_set, List.getElem?_take, List.getElem?_set, List.getElem?_drop, List.length_append]
   have h1 : min (off + (n + 1)) cs.length = off + n + 1 := by omega
   have h2 : min (off + n) cs.length = off + n := by omega
   rw [h1, h2]
   by_cases a : i < off + n
   ·simp [a, show i < off + n + 1 by omega, show ¬ off + n = i by omega, show i < off + n + 1 + r.length by omega, show i < off + n + (r.length + 1) by omega, show i < off + (n + 1) by omega]
   ·by_cases b : i = off + n
    ·subst b
     simp [show off + n < off + n + 1 by omega, show off + n < cs.length by omega, show off + n < off + n + 1 + r.length by omega, show off + n < off + (n + 1) by omega]
    ·by_cases c : i < off + n + 1 + r.length
     ·have : i - (off + n) = (i - (off + n + 1)) + 1 := by omega
      simp [a, show ¬ i < off + n + 1 by omega, c, show i < off + n + (r.length + 1) by omega, this]
     ·simp [a, show ¬ i < off + n + 1 by omega, c, show ¬ i < off + n + (r.length + 1) by omega, show ¬ off + n = off + (n + 1) + r.length + (i - (off + n + 1 + r.length)) by omega]
      congr 1
      omega
theorem D6 (vs : Array Value) (off : Nat) (cs : List Value) (h : off + vs.size ≤ cs.length) :
  (vs.zipIdx.foldl (fun cs (c, j) => cs.setIfInBounds (off + j) c) cs.toArray) = (cs.take off ++ vs.toList ++ cs.drop (off + vs.size)).toArray := by
 have := Yd off vs.toList 0 cs (by simpa using h)
 rw [← Array.foldl_toList]
 simp only [Array.toList_zipIdx]
 simpa using this
def LR (R : AV → Value → Prop) (cs : List AV) (vs : List Value) : Prop := cs.length = vs.length ∧ ∀ i (h : i < cs.length) (h' : i < vs.length), vs[i].oneCell' = true ∧ R cs[i] vs[i]
theorem LR.append {R : AV → Value → Prop} {a c : List AV} {b d : List Value} (h : LR R a b) (h' : LR R c d) : LR R (a ++ c) (b ++ d) := by
 refine ⟨by simp [h.1, h'.1], fun i h1 h2 => ?_⟩
 by_cases hi : i < a.length
 ·have hb : i < b.length := by rw [← h.1]; exact hi
  simp only [List.getElem_append_left hi, List.getElem_append_left hb]
  exact h.2 i hi hb
 ·have hb : ¬ i < b.length := by rw [← h.1]; exact hi
  simp only [List.getElem_append_right (Nat.le_of_not_lt hi), List.getElem_append_right (Nat.le_of_not_lt hb)]
  have := h'.2 (i - a.length) (by simp at h1; omega) (by simp at h2; rw [h.1]; omega)
  simp only [h.1] at this ⊢
  exact this
theorem LR.take {R : AV → Value → Prop} {a : List AV} {b : List Value} (h : LR R a b) (n : Nat) : LR R (a.take n) (b.take n) :=
 ⟨by simp [h.1], fun i h1 h2 => by simp only [List.getElem_take]; exact h.2 i (by simp at h1; omega) (by simp at h2; omega)⟩
theorem LR.drop {R : AV → Value → Prop} {a : List AV} {b : List Value} (h : LR R a b) (n : Nat) : LR R (a.drop n) (b.drop n) :=
 ⟨by simp [h.1], fun i h1 h2 => by simp only [List.getElem_drop]; exact h.2 (n + i) (by simp at h1; omega) (by simp at h2; omega)⟩
theorem LR.of_zero {D : Nat → Prop} {σ : Nat → SB} {cs : List AV} {vs : List Value} (h : zall cs vs = true) : LR (VR D σ w) cs vs := by
 obtain ⟨hl, hh⟩ := zG (D := D) (w := w) h
 exact ⟨hl, fun i h1 h2 => ⟨(hh i h1 h2).2, .data _ _ (hh i h1 h2).1⟩⟩
theorem LR.cellsR {R : AV → Value → Prop} {cs : List AV} {vs : List Value} (h : LR R cs vs) : vw R cs vs.toArray := ⟨by simp [h.1], fun i h1 h2 => by simpa using h.2 i h1 (by simpa using h2)⟩
theorem LR.agg {D : Nat → Prop} {σ : Nat → SB} {cs : List AV} {vs : List Value} (h : LR (VR D σ w) cs vs) : VR D σ w (.agg cs) (.agg vs.toArray) :=
 .agg cs vs h.1 (fun v hv => by obtain ⟨i, hi, rfl⟩ := List.getElem_of_mem hv; exact (h.2 i (by rw [h.1]; exact hi) hi).1) fun i h1 h2 => (h.2 i h1 h2).2
def qZ : AV → List AV
 | .agg vs => vs
 | v => [v]
theorem zO {D : Nat → Prop} {σ : Nat → SB} {size : Nat} {v : AV} {x : Value} (h : jI size v = true) (hv : VR D σ w v x) : x.cells.size = size ∧ LR (VR D σ w) (qZ v) x.cells.toList ∧ (qZ v).length = size := by
 have one : (∀ cs, v ≠ .agg cs) → (∀ cs, v ≠ .tup cs) → v ≠ .junk → v ≠ .undef → size = 1 → qZ v = [v] → x.cells.size = size ∧ LR (VR D σ w) (qZ v) x.cells.toList ∧ (qZ v).length = size := by
  intro h1 h2 h3 h4 hs hc
  have ho := hv.one h1 h2 h3 h4
  rw [kW ho, hc, hs]
  exact ⟨rfl, ⟨rfl, fun i h1 h2 => by have : i = 0 := by simp at h1; exact h1
                                      subst this; exact ⟨ho, hv⟩⟩, rfl⟩
 cases v with
 | agg vs =>
   obtain ⟨xs, hl, ho, hh, rfl⟩ := hv.agg_inv
   have hs := Nat.eq_of_beq_eq_true (show Nat.beq vs.length size = true from h)
   refine ⟨?_, ?_, hs⟩
   ·show xs.toArray.size = size
    simp; omega
   ·show LR (VR D σ w) vs xs.toArray.toList
    exact ⟨by simpa using hl, fun i h1 h2 => ⟨ho _ (by simp), hh i h1 (by simpa using h2)⟩⟩
 | tup vs => simp [jI] at h
 | junk => simp [jI] at h
 | undef => simp [jI] at h
 | _ => exact one (by intro cs hc; cases hc) (by intro cs hc; cases hc) (by intro hc; cases hc) (by intro hc; cases hc) (Nat.eq_of_beq_eq_true h) rfl
theorem kB (cs : List AV) (off : Nat) (v : AV) (hf : off + (qZ v).length ≤ cs.length) : za cs off v = cs.take off ++ qZ v ++ cs.drop (off + (qZ v).length) := by
 cases v with
 | agg vs => rfl
 | _ =>
   simp only [za, qZ, List.length_singleton] at hf ⊢
   rw [List.set_eq_take_append_cons_drop, if_pos (by omega)]
   simp
theorem Y9 {D : Nat → Prop} {σ : Nat → SB} {place : Nat → Option (Nat × Nat)} {cs : List AV} {vs : List Value} (h : LR (VR D σ w) cs vs) {i off size : Nat} {v : AV} {x : Value} (hp : place i = some (off, size)) (hf : jI size v = true) (hv : VR D σ w v x) (hle : off + size ≤ cs.length) (rest : List (Nat × Value)) :
  ∃ vs', LR (VR D σ w) (za cs off v) vs' ∧ (za cs off v).length = cs.length ∧ Instr.fill place vs.toArray ((i, x) :: rest) = Instr.fill place vs'.toArray rest := by
 obtain ⟨h1, h2, h3⟩ := zO hf hv
 refine ⟨vs.take off ++ x.cells.toList ++ vs.drop (off + x.cells.size), ?_, ?_, ?_⟩
 ·rw [kB _ _ _ (by rw [h3]; exact hle), h3, h1]
  exact ((h.take off).append h2).append (h.drop (off + size))
 ·rw [kB _ _ _ (by rw [h3]; exact hle)]
  simp
  omega
 ·simp only [Instr.fill, hp]
  rw [if_neg (by simp [h1, h.1] at hle ⊢; have := h.1; omega), D6 _ _ _ (by rw [h1, ← h.1]; exact hle)]
theorem Qj (hE : EnvOK P E) {fs : List (Nat × TypeId)} {ev : Operand → AV} {ρ : Operand → Value} {D : Nat → Prop} {σ : Nat → SB} (hev : ∀ x, VR D σ w (ev x) (ρ x)) {place : Nat → Option (Nat × Nat)}
  (hplace : ∀ i f fi, fs[i]? = some f → E.t f.2 = some fi → place i = some (f.1, fi.size)) : ∀ (parts : List (Nat × Operand)) (cs : List AV) (vs : List Value) (cs' : List AV), LR (VR D σ w) cs vs → QM E fs ev cs parts = some cs' →
  ∃ vs', LR (VR D σ w) cs' vs' ∧ Instr.fill place vs.toArray (parts.map fun (i, x) => (i, ρ x)) = some vs'.toArray
 | [], cs, vs, cs', h, hb => by simp [QM] at hb; subst hb; exact ⟨vs, h, rfl⟩
 | p :: r, cs, vs, cs', h, hb => by
   simp only [QM] at hb
   split at hb
   ·rename_i f hf
    split at hb
    ·rename_i fi hfi
     replace hb := qq hb
     obtain ⟨hc, hb⟩ := hb
     simp only [Bool.and_eq_true] at hc
     obtain ⟨vs1, h1, _, h3⟩ := Y9 h (hplace _ _ _ hf hfi) hc.1 (hev p.2) (Nat.le_of_ble_eq_true hc.2) (r.map fun (i, x) => (i, ρ x))
     obtain ⟨vs', h4, h5⟩ := Qj hE hev hplace r _ vs1 cs' h1 hb
     exact ⟨vs', h4, by rw [List.map_cons, h3, h5]⟩
    ·simp at hb
   ·simp at hb
theorem vt {size : Nat} {ev : Operand → AV} {ρ : Operand → Value} {D : Nat → Prop} {σ : Nat → SB} (hev : ∀ x, VR D σ w (ev x) (ρ x)) : ∀ (parts : List (Nat × Operand)) (cs : List AV) (vs : List Value) (cs' : List AV), LR (VR D σ w) cs vs → kD size ev cs parts = some cs' →
  ∃ vs', LR (VR D σ w) cs' vs' ∧ Instr.fill (fun i => some (i * size, size)) vs.toArray (parts.map fun (i, x) => (i, ρ x)) = some vs'.toArray
 | [], cs, vs, cs', h, hb => by simp [kD] at hb; subst hb; exact ⟨vs, h, rfl⟩
 | p :: r, cs, vs, cs', h, hb => by
   simp only [kD] at hb
   replace hb := qq hb
   obtain ⟨hc, hb⟩ := hb
   simp only [Bool.and_eq_true] at hc
   obtain ⟨vs1, h1, _, h3⟩ := Y9 (place := fun i => some (i * size, size)) h (i := p.1) rfl hc.1 (hev p.2) (Nat.le_of_ble_eq_true hc.2) (r.map fun (i, x) => (i, ρ x))
   obtain ⟨vs', h4, h5⟩ := vt hev r _ vs1 cs' h1 hb
   exact ⟨vs', h4, by rw [List.map_cons, h3, h5]⟩
theorem JA (hE : EnvOK P E) {w : GW} : ∀ (fs : List Field), (∀ f ∈ fs, ∃ n, P.info? f.type = some n) → (fs.mapM fun f => do pure (f.offset, ← sizeOf f.type) : Sem (List (Nat × Nat))).run P w = .ok (fs.map fun f => (f.offset, P.cellsOf f.type)) w
 | [], _ => rfl
 | f :: r, h => by
   obtain ⟨n, hn⟩ := h f (by simp)
   have ih := JA hE (w := w) r (fun g hg => h g (by simp [hg]))
   have hs : (sizeOf f.type).run P w = .ok n.size w := by simp [sizeOf, typeInfo, hn]
   rw [List.mapM_cons]
   simp only [Sem.run_bind, hs, Result.andThen_ok, Sem.run_pure, ih, List.map_cons]
   simp [Program.cellsOf, hn]
theorem JM (hE : EnvOK P E) {ev : Operand → AV} {ρ : Operand → Value} (hev : ∀ x, VR G.D G.σ w (ev x) (ρ x)) {t : TypeId} {i : TyI} (hi : E.t t = some i) {gs : List (Nat × TypeId)} (hsh : i.sh = .st gs) {parts : Array (Nat × Operand)} {cs : List AV} (h : QM E gs ev i.zero parts.toList = some cs) :
  ∃ y, (Instr.build t (parts.map fun (i, x) => (i, ρ x))).run P w = .ok y w ∧ VR G.D G.σ w (.agg cs) y := by
 obtain ⟨d, hd, hs, _⟩ := (hE.ty t i hi).und
 rw [hsh] at hs
 obtain ⟨fs, rfl, hf⟩ := JY hs
 obtain ⟨hl, hh⟩ := gB hf
 obtain ⟨z, hz, _, hz1, _⟩ := jM (hE.ty t i hi) w
 have hinfo : ∀ f ∈ fs.toList, ∃ n, P.info? f.type = some n := by
  intro f hf'
  obtain ⟨q, hq, rfl⟩ := List.getElem_of_mem hf'
  obtain ⟨_, _, n, hn, _⟩ := hh q hq (by omega)
  exact ⟨n, hn⟩
 have hpl := JA hE (w := w) fs.toList hinfo
 have hplA : (fs.mapM fun f => do pure (f.offset, ← sizeOf f.type) : Sem (Array (Nat × Nat))).run P w = .ok (fs.toList.map fun f => (f.offset, P.cellsOf f.type)).toArray w := by
  rw [Array.mapM_eq_mapM_toList]
  simp only [Sem.run_map, hpl, Result.andThen_ok]
 obtain ⟨vs', h1, h2⟩ := Qj hE hev (place := fun q => ((fs.toList.map fun f => (f.offset, P.cellsOf f.type)).toArray)[q]?) (fun q f fi hq hfi => by
  obtain ⟨hlt, rfl⟩ := List.getElem?_eq_some_iff.1 hq
  obtain ⟨e1, e2, n, hn, _⟩ := hh q (by omega) hlt
  obtain ⟨n', _, hn', hs', _⟩ := (hE.ty _ fi hfi).info
  have hlt' : q < fs.size := by have := hl; simp at this; omega
  simp only [List.getElem?_toArray, List.getElem?_map, Array.getElem?_toList, Array.getElem?_eq_getElem hlt', Option.map_some]
  have e1' : fs[q].offset = gs[q].1 := by simpa using e1
  have e2' : fs[q].type = gs[q].2 := by simpa using e2
  rw [e1', e2']
  simp [Program.cellsOf, hn', hs']) parts.toList i.zero z.cells.toList cs (LR.of_zero hz1) h
 refine ⟨.agg vs'.toArray, ?_, h1.agg⟩
 have h2' : Instr.fill (fun q => ((fs.toList.map fun f => (f.offset, P.cellsOf f.type)).toArray)[q]?) z.cells (parts.map fun (i, x) => (i, ρ x)).toList = some vs'.toArray := by
  rw [Array.toList_map]; simpa using h2
 unfold Instr.build
 simp only [Sem.run_bind, hz, Result.andThen_ok, run_underlying hd w, hplA]
 rw [h2']
 rfl
theorem Vn (hE : EnvOK P E) {ev : Operand → AV} {ρ : Operand → Value} (hev : ∀ x, VR G.D G.σ w (ev x) (ρ x)) {t : TypeId} {i : TyI} (hi : E.t t = some i) {n : Nat} {et : TypeId} (hsh : i.sh = .arr n et) {ei : TyI} (hei : E.t et = some ei) {parts : Array (Nat × Operand)} {cs : List AV} (h : kD ei.size ev i.zero parts.toList = some cs) :
  ∃ y, (Instr.build t (parts.map fun (i, x) => (i, ρ x))).run P w = .ok y w ∧ VR G.D G.σ w (.agg cs) y := by
 obtain ⟨d, hd, hs, _⟩ := (hE.ty t i hi).und
 rw [hsh] at hs
 rw [kg hs] at hd
 obtain ⟨z, hz, _, hz1, _⟩ := jM (hE.ty t i hi) w
 obtain ⟨vs', h1, h2⟩ := vt hev parts.toList i.zero z.cells.toList cs (LR.of_zero hz1) h
 refine ⟨.agg vs'.toArray, ?_, h1.agg⟩
 have h2' : Instr.fill (fun i => some (i * ei.size, ei.size)) z.cells (parts.map fun (i, x) => (i, ρ x)).toList = some vs'.toArray := by
  rw [Array.toList_map]; simpa using h2
 unfold Instr.build
 simp only [Sem.run_bind, hz, Result.andThen_ok, run_underlying hd w, qL (hE.ty et ei hei) w]
 rw [h2']
 rfl
end Go.Sx
namespace Go.Sx
open Go
open Go.RowKit (Below)
variable {P : Program} {E : Env} {base : Nat} {ok : Nat → Prop} {G : Gam} {w : GW} {M : Mem} {R : Type} {slot : Nat}
theorem GZ {ρ : Operand → Value} {size : Nat} : ∀ (parts : List (Nat × Operand)) (k : Nat) (pre rest : List Value), Zv k parts = true → (∀ p ∈ parts, (ρ p.2).cells.size = size) → pre.length = k * size → rest.length = parts.length * size →
  Instr.fill (fun i => some (i * size, size)) (pre ++ rest).toArray (parts.map fun (i, x) => (i, ρ x)) = some (pre ++ (parts.map fun p => (ρ p.2).cells.toList).flatten).toArray
 | [], k, pre, rest, _, _, _, h => by
   have : rest = [] := List.length_eq_zero_iff.1 (by simpa using h)
   subst this
   simp [Instr.fill]
 | p :: r, k, pre, rest, ho, hf, hp, hr => by
   simp only [Zv, Bool.and_eq_true] at ho
   have hk : p.1 = k := Nat.eq_of_beq_eq_true ho.1
   have hc : (ρ p.2).cells.size = size := hf p (by simp)
   have hr' : rest.length = r.length * size + size := by simp [Nat.add_mul] at hr; exact hr
   have hl : k * size + (ρ p.2).cells.size ≤ (pre ++ rest).length := by simp; omega
   simp only [List.map_cons, Instr.fill, hk]
   rw [if_neg (by simp [hc]; omega), D6 _ _ _ hl]
   have e1 : (pre ++ rest).take (k * size) = pre := by rw [← hp]; simp
   have e2 : (pre ++ rest).drop (k * size + (ρ p.2).cells.size) = rest.drop size := by rw [← hp, hc]; simp [List.drop_append]
   rw [e1, e2, GZ r (k + 1) (pre ++ (ρ p.2).cells.toList) (rest.drop size) ho.2 (fun q hq => hf q (by simp [hq])) (by simp [hp, hc, Nat.add_mul]) (by simp; omega)]
   simp
theorem KS {size : Nat} : ∀ (ls : List (List Value)), (∀ l ∈ ls, l.length = size) → ls.flatten.length = ls.length * size
 | [], _ => by simp
 | l :: r, h => by
   have := KS r fun x hx => h x (by simp [hx])
   simp only [List.flatten_cons, List.length_append, List.length_cons, Nat.add_mul, this, h l (by simp)]
   omega
theorem KT {size : Nat} : ∀ (ls : List (List Value)), (∀ l ∈ ls, l.length = size) → ∀ (i : Nat) (hi : i < ls.length) (j : Nat), j < size → ls.flatten[i * size + j]? = (ls[i])[j]?
 | [], _, i, hi, _, _ => by simp at hi
 | l :: r, h, 0, hi, j, hj => by
   have := h l (by simp)
   simp only [List.flatten_cons, Nat.zero_mul, Nat.zero_add, List.getElem_cons_zero]
   rw [List.getElem?_append_left (by omega)]
 | l :: r, h, i + 1, hi, j, hj => by
   have hl := h l (by simp)
   simp only [List.flatten_cons, List.getElem_cons_succ]
   rw [List.getElem?_append_right (by rw [Nat.add_mul]; omega), hl, ← KT r (fun x hx => h x (by simp [hx])) i (by simpa using hi) j hj]
   congr 1
   rw [Nat.add_mul]; omega
theorem qgj {D : Nat → Prop} {w : GW} {k : Kd} {y : k.T} {x : Value} (h : DR D w (k.of y) x) : LR (DR D w) (k.cells y) x.cells.toList := by
 have one : ∀ (v : AV) (x : Value), DR D w v x → x.oneCell' = true → LR (DR D w) [v] x.cells.toList := by
  intro v x h ho
  rw [kW ho]
  exact ⟨rfl, fun i h1 h2 => by have : i = 0 := by simp at h1; exact h1
                                subst this; exact ⟨ho, h⟩⟩
 cases k with
 | st s =>
   cases h with
   | agg _ vs hl ho hh =>
     show LR (DR D w) (s.cells y) vs.toArray.toList
     exact ⟨by simpa using hl, fun i h1 h2 => ⟨ho _ (by simp), by simpa using hh i h1 (by simpa using h2)⟩⟩
 | int k => exact one _ _ h (by cases h; rfl)
 | bool => exact one _ _ h (by cases h; rfl)
 | str => exact one _ _ h (by cases h; rfl)
 | sl e => exact one _ _ h (by cases h; rfl)
theorem Z5 {e : Kd} : ∀ {vs : List AV} {l : List e.T}, Jf e vs = some l → vs.length = l.length ∧ ∀ i (h : i < vs.length) (h' : i < l.length), (vs[i]).as e = some l[i]
 | [], l, h => by simp [Jf] at h; subst h; exact ⟨rfl, fun i h => by simp at h⟩
 | v :: r, l, h => by
   simp only [Jf, Option.bind_eq_some_iff, Option.some.injEq] at h
   obtain ⟨a, ha, b, hb, rfl⟩ := h
   obtain ⟨hl, hh⟩ := Z5 hb
   refine ⟨by simp [hl], fun i h1 h2 => ?_⟩
   cases i with
   | zero => exact ha
   | succ i => exact hh i (by simpa using h1) (by simpa using h2)
theorem ML (v : AV) (r : List AV) : Zz (v :: r) = qZ v ++ Zz r := by cases v <;> rfl
theorem RP {D : Nat → Prop} {σ : Nat → SB} {size : Nat} {ev : Operand → AV} {ρ : Operand → Value} (hev : ∀ x, VR D σ w (ev x) (ρ x)) : ∀ (parts : List (Nat × Operand)), (parts.all (fun p => jI size (ev p.2))) = true →
  LR (VR D σ w) (Zz (parts.map fun p => ev p.2)) (parts.map fun p => (ρ p.2).cells.toList).flatten
 | [], _ => ⟨rfl, fun i h => by simp [Zz] at h⟩
 | p :: r, h => by
   simp only [List.all_cons, Bool.and_eq_true] at h
   simp only [List.map_cons, ML, List.flatten_cons]
   exact (zO h.1 (hev p.2)).2.1.append (RP hev r h.2)
theorem K1 (hE : EnvOK P E) (hm : MemOK base ok G w M) (hslot : G.σ slot = .none) {ev : Operand → AV} {ρ : Operand → Value} (hev : ∀ x, VR G.D G.σ w (ev x) (ρ x)) {t : TypeId} {len : Nat} {parts : Array (Nat × Operand)} {i ei : TyI} {et : TypeId} (hi : E.t t = some i) (hsh : i.sh = .sl et) (hei : E.t et = some ei)
  (ho : Zv 0 parts.toList = true) (hn : parts.toList.length = len) (h1000 : len * ei.size ≤ 1000) (hpos : 0 < ei.size) (hfit : (parts.toList.all fun p => jI ei.size (ev p.2)) = true) :
  (∀ (kd : Kd) (vs : List AV) (l : List kd.T), ei.kd = some kd → jU M (parts.toList.map fun p => ev p.2) = some vs → Jf kd vs = some l →
   zw P G w slot (some (.vec kd l)) (.vec slot) (((do pure (.value (← Instr.buildSlice t len (parts.map fun (i, x) => (i, ρ x)))) : Sem Next)).run P w)) ∧
  zw P G w slot (some (.cells (Zz (parts.toList.map fun p => ev p.2)))) (.csl slot 0 len) (((do pure (.value (← Instr.buildSlice t len (parts.map fun (i, x) => (i, ρ x)))) : Sem Next)).run P w) := by
 obtain ⟨d, hd, hs, _⟩ := (hE.ty t i hi).und
 rw [hsh] at hs
 rw [j3 hs] at hd
 obtain ⟨z, hz, _, hz1, hz2⟩ := jM (hE.ty et ei hei) w
 have hcells : ∀ p ∈ parts.toList, (ρ p.2).cells.size = ei.size := fun p hp => (zO (List.all_eq_true.1 hfit p hp) (hev p.2)).1
 let ls : List (List Value) := parts.toList.map fun p => (ρ p.2).cells.toList
 have hls : ∀ l ∈ ls, l.length = ei.size := by
  intro l hl
  simp only [ls, List.mem_map] at hl
  obtain ⟨p, hp, rfl⟩ := hl
  simpa using hcells p hp
 have hlsl : ls.length = len := by simp [ls, ← hn]
 have hrun : (Instr.buildSlice t len (parts.map fun (i, x) => (i, ρ x))).run P w = .ok (.slice (some (blkA w.heap.size)) len len) (w.alloc (.cells ls.flatten.toArray et)) := by
  unfold Instr.buildSlice
  simp only [Sem.run_bind, run_underlying hd w, Result.andThen_ok, qL (hE.ty et ei hei) w]
  rw [if_neg (by omega)]
  have hfill : ∀ zero : Array Value, Instr.fill (fun i => some (i * ei.size, ei.size)) ((Array.range (len * ei.size)).map (zero[· % zero.size]!)) (parts.map fun (i, x) => (i, ρ x)).toList = some ls.flatten.toArray := by
   intro zero
   have := GZ (ρ := ρ) (size := ei.size) parts.toList 0 [] ((Array.range (len * ei.size)).map (zero[· % zero.size]!)).toList ho hcells (by simp) (by simp [← hn])
   rw [List.nil_append, List.nil_append, Array.toArray_toList] at this
   rw [Array.toList_map]
   exact this
  by_cases h0 : len * ei.size = 0
  ·rw [if_pos h0]
   simp only [Sem.run_pure, Result.andThen_ok, Sem.run_bind, hfill]
   simp [newRow, newObj, Sem.run, blkA]
  ·rw [if_neg h0]
   simp only [Sem.run_bind, hz, Sem.run_pure, Result.andThen_ok, hfill]
   simp [newRow, newObj, Sem.run, blkA]
 constructor
 ·intro kd vs l hkd hvs hl
  obtain ⟨e1, e2⟩ := jT hm hvs
  obtain ⟨e3, e4⟩ := Z5 hl
  have hks : kd.size = ei.size := (hz2 kd hkd).1
  have hll : l.length = len := by rw [← e3, ← e1]; simpa using hn
  simp only [Sem.run_bind, hrun, Result.andThen_ok, Sem.run_pure]
  have hstep := Step.vec (slot := slot) (w := w) hslot hm.dlt (e := kd) (l := l) (vs := ls.flatten.toArray) (cap := len) et (by omega) (by simp only [List.size_toArray]; rw [KS ls hls, hlsl, hks]) (by
   intro v hv
   simp only [ls, List.mem_flatten, List.mem_map] at hv
   obtain ⟨c, ⟨p, hp, rfl⟩, hv⟩ := hv
   obtain ⟨_, h2, _⟩ := zO (List.all_eq_true.1 hfit p hp) (hev p.2)
   obtain ⟨q, hq, rfl⟩ := List.getElem_of_mem hv
   exact (h2.2 q (by rw [h2.1]; exact hq) hq).1) (by
   intro q hq j hj
   have hj' : j < ei.size := by rw [← hks]; exact jr hq hj
   have hq1 : q < vs.length := by omega
   have hq2 : q < parts.toList.length := by omega
   have h5 := e2 q (by simpa using hq2) hq1 (ρ (parts.toList[q]).2) (by simpa using hev _)
   have h6 := qgj (AV.as_as (e4 q hq1 hq) _ _ _ h5)
   have h7 := KT ls hls q (by omega) j hj'
   have hjc : j < (ρ (parts.toList[q]).2).cells.toList.length := by rw [← h6.1]; exact hj
   have h8 : ls.flatten.toArray.getD (q * kd.size + j) undef = (ρ (parts.toList[q]).2).cells.toList[j] := by
    rw [hks, Array.getD_eq_getD_getElem?]
    simp only [List.getElem?_toArray, h7]
    simp only [ls, List.getElem_map]
    rw [List.getElem?_eq_getElem hjc]; rfl
   rw [h8]
   exact (h6.2 j hj hjc).2)
  rw [hll] at hstep
  exact ⟨_, hstep, VR.vec_new ..⟩
 ·simp only [Sem.run_bind, hrun, Result.andThen_ok, Sem.run_pure]
  have hLR : LR (VR G.D G.σ w) (Zz (parts.toList.map fun p => ev p.2)) ls.flatten := RP hev parts.toList hfit
  refine ⟨_, Step.cells hslot hm.dlt et hLR.cellsR, ?_⟩
  have := VR.csl (D := G.D) (σ := (G.up slot (.blk w.heap.size)).σ) (w := w.alloc (.cells ls.flatten.toArray et)) slot 0 len w.heap.size (Gam.up_self ..) len (Nat.le_refl _)
  rw [add_zero] at this
  exact this
theorem Vh (hE : EnvOK P E) (hm : MemOK base ok G w M) (hslot : G.σ slot = .none) {t : TypeId} {i ei : TyI} {et : TypeId} (hi : E.t t = some i) (hsh : i.sh = .sl et) (hei : E.t et = some ei) {kd : Kd} (hkd : ei.kd = some kd) {n m : Int} (h0 : 0 ≤ n) (hnm : n ≤ m) (hb : m * ei.bytes < 281474976710657) (hbp : 0 < ei.bytes) :
  zw P G w slot (some (.vec kd (lrep n kd.zero))) (.vec slot) (((do pure (.value (← Instr.makeSlice t (.int .i64 n) (.int .i64 m))) : Sem Next)).run P w) := by
 obtain ⟨d, hd, hs, _⟩ := (hE.ty t i hi).und
 rw [hsh] at hs
 rw [j3 hs] at hd
 obtain ⟨ni, z, hn, hsz, hby, hz, _, _, hz2⟩ := (hE.ty et ei hei).info
 obtain ⟨hks, hz3⟩ := hz2 kd hkd
 have h63 : m ≤ 9223372036854775807 := by
  have : m * 1 ≤ m * ei.bytes := Int.mul_le_mul_of_nonneg_left (by omega) (by omega)
  omega
 have hrun := run_make (P := P) w t et ni z hd hn hz .i64 .i64 n m h0 hnm (by rw [hby, Int.mul_comm]; omega) (by omega)
 simp only [Sem.run_bind, hrun, Result.andThen_ok, Sem.run_pure]
 obtain ⟨hzl, hzz⟩ := zG (D := G.D) (w := w) hz3
 have hzs : z.cells.size = kd.size := by rw [Kd.cells_length] at hzl; simpa using hzl.symm
 have hget : ∀ q, q < m.toNat * ni.size → (madeCells z.cells (m.toNat * ni.size)).getD q undef = z.cells[q % z.cells.size]! := by
  intro q hq
  simp [madeCells, Array.getD_eq_getD_getElem?, hq]
 have hlen : (lrep n kd.zero).length = n.toNat := by simp [lrep]
 have hstep := Step.vec (slot := slot) (w := w) hslot hm.dlt (e := kd) (l := lrep n kd.zero) (vs := madeCells z.cells (m.toNat * ni.size)) (cap := m.toNat) et (by rw [hlen]; omega) (by rw [size_madeCells, hks, hsz]) (by
  intro v hv
  simp only [madeCells, Array.toList_map, List.mem_map] at hv
  obtain ⟨q, hq, rfl⟩ := hv
  have hq' : q < m.toNat * ni.size := by simpa using hq
  have hpos : 0 < z.cells.size := by
   rw [hzs, hks, ← hsz]
   rcases Nat.eq_zero_or_pos ni.size with h | h
   ·rw [h] at hq'; simp at hq'
   ·exact h
  have hlt := Nat.mod_lt q hpos
  rw [getElem!_pos z.cells _ hlt]
  have := (hzz (q % z.cells.size) (by rw [hzl]; simpa using hlt) (by simpa using hlt)).2
  simpa using this) (by
  intro q hq j hj
  have hj' : j < kd.size := jr hq hj
  rw [hlen] at hq
  have hin : q * kd.size + j < m.toNat * ni.size := by
   have : (q + 1) * kd.size ≤ m.toNat * kd.size := Nat.mul_le_mul_right _ (by omega)
   rw [Nat.add_mul] at this
   rw [hsz, ← hks]
   omega
  rw [hget _ hin, hzs]
  have e : (q * kd.size + j) % kd.size = j := by rw [Nat.mul_comm, Nat.mul_add_mod, Nat.mod_eq_of_lt hj']
  rw [e, getElem!_pos z.cells j (by omega)]
  have hlz : (lrep n kd.zero)[q]'(by rw [hlen]; exact hq) = kd.zero := by simp [lrep]
  have h9 := (hzz j (by rw [Kd.cells_length]; exact hj') (by simpa [hzs] using hj')).1
  simp only [hlz]
  simpa using h9)
 rw [hlen] at hstep
 exact ⟨_, hstep, VR.vec_new ..⟩
end Go.Sx
namespace Go.Sx
open Go
open Go.RowKit (Below)
variable {P : Program} {E : Env} {base : Nat} {ok : Nat → Prop} {G : Gam} {w : GW} {M : Mem} {R : Type} {slot : Nat}
theorem ja (kk : IntKind) (a b : Int) : Instr.sameNow (.int kk) (.int kk a) (.int kk b) = some (decide (a = b)) := by
 simp only [Instr.sameNow, if_true]
 congr 1
theorem QE {kk : IntKind} {kv : Kd} (n : Int) : ∀ (l : List ((Kd.int kk).T × kv.T)) (es : List MapEntry) (q : Nat), es.length = l.length → (∀ i (h : i < l.length) (h' : i < es.length), es[i].key = .int kk l[i].1) →
  ∃ r, Instr.findNow (.int kk) (.int kk n) es q = some r ∧ (match r with | none => jo l n = none | some p => ∃ i, ∃ h : i < l.length, ∃ h' : i < es.length, jo l n = some l[i].2 ∧ p.2 = es[i].val ∧ p.1 = q + i ∧ l[i].1 = n)
 | [], [], q, _, _ => ⟨none, rfl, rfl⟩
 | [], _ :: _, q, h, _ => by simp at h
 | _ :: _, [], q, h, _ => by simp at h
 | p :: l, e :: es, q, hl, hk => by
   have h0 : e.key = .int kk p.1 := hk 0 (by simp) (by simp)
   by_cases hn : n = p.1
   ·refine ⟨some (q, e.val), ?_, 0, by simp, by simp, ?_, rfl, rfl, hn.symm⟩
    ·simp only [Instr.findNow, h0, ja, decide_eq_true hn]
    ·simp [jo, List.find?, Kd.beq, hn]
   ·obtain ⟨r, h1, h2⟩ := QE n l es (q + 1) (by simpa using hl) (fun i h h' => hk (i + 1) (by simpa using h) (by simpa using h'))
    have e1 : Instr.findNow (.int kk) (.int kk n) (e :: es) q = some r := by
     simp only [Instr.findNow, h0, ja, decide_eq_false hn]
     exact h1
    have e2 : jo (kk := .int kk) (kv := kv) (p :: l) n = jo (kk := .int kk) (kv := kv) l n := by
     simp [jo, List.find?, Kd.beq, hn]
    refine ⟨r, e1, ?_⟩
    rw [e2]
    cases r with
    | none => exact h2
    | some p' =>
      obtain ⟨i, a, b, c, d, f, g⟩ := h2
      exact ⟨i + 1, by simpa using a, by simpa using b, by simpa using c, by simpa using d, by omega, by simpa using g⟩
theorem GB {kk : IntKind} {z : AV} {n : Int} {okf : Bool} {k : AV → Option R} {r : R} : ∀ (ks vs : List AV), Qr kk z (.int kk n) okf k ks vs = some r → ∀ (es : List MapEntry) (q : Nat), es.length = ks.length → es.length = vs.length →
  (∀ i (h : i < ks.length) (h' : i < es.length), VR G.D G.σ w ks[i] es[i].key) → (∀ i (h : i < vs.length) (h' : i < es.length), VR G.D G.σ w vs[i] es[i].val) →
  ∃ v a, Instr.findNow (.int kk) (.int kk n) es q = some a ∧ k (bif okf then .tup [v, .bool a.isSome] else v) = some r ∧ (match a with | none => v = z | some p => VR G.D G.σ w v p.2)
 | [], [], h, es, q, hl, _, _, _ => by
   have : es = [] := List.length_eq_zero_iff.1 (by simpa using hl)
   subst this
   exact ⟨z, none, rfl, h, rfl⟩
 | [], _ :: _, h, _, _, _, _, _, _ => by simp [Qr] at h
 | v :: _, [], h, _, _, _, _, _, _ => by cases v <;> simp [Qr] at h
 | y :: ks, v :: vs, h, es, q, hl, hl', hk, hv => by
   cases es with
   | nil => simp at hl
   | cons e es =>
     unfold Qr at h
     split at h
     ·rename_i kk' m _ _ _ he1 he2
      cases he1; cases he2
      replace h := qq h
      obtain ⟨hkk, h⟩ := h
      have hkk' : kk = kk' := by simpa using hkk
      subst hkk'
      have h0 : e.key = .int kk m := (hk 0 (by simp) (by simp)).int_inv
      simp only [AV.asInt, if_true, Option.bind_some] at h
      by_cases hn : n = m
      ·subst hn
       simp only [cnd, ieq, decide_true, cond_true] at h
       refine ⟨v, some (q, e.val), ?_, h, hv 0 (by simp) (by simp)⟩
       simp only [Instr.findNow, h0, ja, decide_true]
      ·simp only [cnd, ieq, decide_eq_false hn, cond_false] at h
       obtain ⟨v', a, h1, h2, h3⟩ := GB ks vs h es (q + 1) (by simpa using hl) (by simpa using hl') (fun i h h' => hk (i + 1) (by simpa using h) (by simpa using h')) (fun i h h' => hv (i + 1) (by simpa using h) (by simpa using h'))
       refine ⟨v', a, ?_, h2, h3⟩
       simp only [Instr.findNow, h0, ja, decide_eq_false hn]
       exact h1
     ·rename_i he _; cases he
     ·simp at h
theorem KU {kk kk0 : IntKind} {n : Int} : ∀ (es : List MapEntry) (q : Nat), (∀ e ∈ es, ∃ m, e.key = .int kk0 m) → (es.map (·.key)).Nodup → ∀ (r : Option (Nat × Value)), Instr.findNow (.int kk) (.int kk n) es q = some r →
  match r with | none => ∀ e ∈ es, ∃ m, e.key = .int kk m ∧ m ≠ n | some p => ∃ e ∈ es, e.key = .int kk n ∧ e.val = p.2
 | [], q, _, _, r, h => by
   simp only [Instr.findNow, Option.some.injEq] at h
   subst h
   exact fun e he => by simp at he
 | e :: es, q, hk, hn, r, h => by
   obtain ⟨m, hm⟩ := hk e (by simp)
   unfold Instr.findNow at h
   by_cases hkk : kk0 = kk
   ·subst hkk
    by_cases hnm : n = m
    ·subst hnm
     simp only [hm, ja, decide_true, Option.some.injEq] at h
     subst h
     exact ⟨e, by simp, hm, rfl⟩
    ·simp only [hm, ja, decide_eq_false hnm] at h
     have := KU es (q + 1) (fun e' he' => hk e' (List.mem_cons_of_mem _ he')) (by simp only [List.map_cons, List.nodup_cons] at hn; exact hn.2) r h
     cases r with
     | none =>
       intro e' he'
       rcases List.mem_cons.1 he' with rfl | he'
       ·exact ⟨m, hm, fun hh => hnm hh.symm⟩
       ·exact this e' he'
     | some p =>
       obtain ⟨e', h1, h2⟩ := this
       exact ⟨e', List.mem_cons_of_mem _ h1, h2⟩
   ·rw [hm] at h
    simp [Instr.sameNow, show ¬ kk = kk0 from fun hh => hkk hh.symm] at h
theorem KV {kk : IntKind} {n : Int} : ∀ (es : List MapEntry) (q : Nat), (∀ e ∈ es, ∃ m, e.key = .int kk m) → (es.map (·.key)).Nodup → ∀ e ∈ es, e.key = .int kk n → ∃ p, Instr.findNow (.int kk) (.int kk n) es q = some (some p) ∧ p.2 = e.val
 | [], q, _, _, e, he, _ => by simp at he
 | e0 :: es, q, hk, hn, e, he, hen => by
   obtain ⟨m, hm⟩ := hk e0 (by simp)
   simp only [List.map_cons, List.nodup_cons] at hn
   unfold Instr.findNow
   by_cases hnm : n = m
   ·subst hnm
    simp only [hm, ja, decide_true]
    refine ⟨(q, e0.val), rfl, ?_⟩
    rcases List.mem_cons.1 he with rfl | he
    ·rfl
    ·exact absurd (List.mem_map.2 ⟨e, he, hen.trans hm.symm⟩) hn.1
   ·simp only [hm, ja, decide_eq_false hnm]
    rcases List.mem_cons.1 he with rfl | he
    ·rw [hm] at hen
     cases hen
     exact absurd rfl hnm
    ·exact KV es (q + 1) (fun e' he' => hk e' (List.mem_cons_of_mem _ he')) hn.2 e he hen
theorem J1 {kk : IntKind} {n : Int} : ∀ (es : List MapEntry) (q : Nat), (∀ e ∈ es, ∃ m, e.key = .int kk m ∧ m ≠ n) → Instr.findNow (.int kk) (.int kk n) es q = some none
 | [], q, _ => rfl
 | e :: es, q, h => by
   obtain ⟨m, hm, hne⟩ := h e (by simp)
   simp only [Instr.findNow, hm, ja, decide_eq_false (fun hh : n = m => hne hh.symm)]
   exact J1 es (q + 1) fun e' he' => h e' (List.mem_cons_of_mem _ he')
theorem BX {kk kk0 : IntKind} {n : Int} {l es : List MapEntry} (hp : l.Perm es) (hk : ∀ e ∈ l, ∃ m, e.key = .int kk0 m) (hn : (l.map (·.key)).Nodup) {q : Nat} {r : Option (Nat × Value)} (h : Instr.findNow (.int kk) (.int kk n) l q = some r) :
  ∃ r', Instr.findNow (.int kk) (.int kk n) es 0 = some r' ∧ r.map Prod.snd = r'.map Prod.snd := by
 have hm := KU l q hk hn r h
 cases r with
 | none => exact ⟨none, J1 es 0 fun e he => hm e (hp.mem_iff.2 he), rfl⟩
 | some p =>
   obtain ⟨e, he, h1, h2⟩ := hm
   obtain ⟨m0, hm0⟩ := hk e he
   rw [h1] at hm0
   cases hm0
   obtain ⟨p', h3, h4⟩ := KV (kk := kk) (n := n) es 0 (fun e' he' => hk e' (hp.mem_iff.2 he')) ((hp.map _).nodup_iff.1 hn) e (hp.mem_iff.1 he) h1
   exact ⟨some p', h3, by simp [h2, h4]⟩
theorem Gk {xt kt et : TypeId} {kk : IntKind} (hm : P.underlying xt = some (.map kt et)) (hd : P.underlying kt = some (.int kk)) {c : Nat} {es : Array MapEntry} {clock : Nat} (hb : w.heap[c]? = some (.map es clock)) {n : Int} {a : Option (Nat × Value)}
  (hf : Instr.findNow (.int kk) (.int kk n) es.toList 0 = some a) {z : Value} (hz : (zeroValue et).run P w = .ok z w) (okf : Bool) :
  (Instr.lookup xt (.map (some c)) (.int kk n) okf).run P w = .ok (if okf then .tuple #[(a.map Prod.snd).getD z, .bool a.isSome] else (a.map Prod.snd).getD z) w := by
 unfold Instr.lookup
 simp only [Sem.run_bind, run_underlying hm w, Result.andThen_ok, MapKept.run_getObj_map hb, Sem.run_pure, MapKept.run_checkKey (d := .int kk) (k := .int kk n) hd rfl, MapKept.run_findKey hd hf]
 cases a with
 | none => simp [hz]
 | some p => simp
theorem VR.pair {D : Nat → Prop} {σ : Nat → SB} {w : GW} {a b : AV} {x y : Value} (ha : VR D σ w a x) (hb : VR D σ w b y) : VR D σ w (.tup [a, b]) (.tuple #[x, y]) :=
 .tup [a, b] [x, y] rfl fun i h1 h2 => match i, h1 with
  | 0, _ => ha
  | 1, _ => hb
  | i + 2, h1 => absurd h1 (by simp)
theorem kd_zero {D : Nat → Prop} {kv : Kd} {z : Value} (ho : z.oneCell' = true) (hz : zall (kv.cells kv.zero) z.cells.toList = true) : DR D w (kv.of kv.zero) z := by
 rw [kW ho] at hz
 obtain ⟨hl, hh⟩ := zG (D := D) (w := w) hz
 cases kv with
 | st s => rw [Kd.cells_length] at hl; cases s <;> simp [Kd.size, SN.size] at hl
 | int k => exact (hh 0 (by simp [Kd.cells]) (by simp)).1
 | bool => exact (hh 0 (by simp [Kd.cells]) (by simp)).1
 | str => exact (hh 0 (by simp [Kd.cells]) (by simp)).1
 | sl e => exact (hh 0 (by simp [Kd.cells]) (by simp)).1
theorem UF (hE : EnvOK P E) (hm : MemOK base ok G w M) {t : TypeId} {m x : AV} {u v : Value} (hu : VR G.D G.σ w m u) (hv : VR G.D G.σ w x v) {okf : Bool} {k : AV → Option R} {r : R} (h : QY E M t m x okf k = some r) :
  ∃ a y, k a = some r ∧ (Instr.lookup t u v okf).run P w = .ok y w ∧ VR G.D G.σ w a y := by
 unfold QY at h
 split at h
 ·simp at h
 ·rename_i i hi
  obtain ⟨d, hd, hs, _⟩ := (hE.ty t i hi).und
  split at h
  ·rename_i kt et b kk n hsh
   rw [hsh] at hs
   rw [JZ hs] at hd
   split at h
   ·rename_i ki ei hki hei
    obtain ⟨d2, hd2, hs2, _⟩ := (hE.ty kt ki hki).und
    split at h
    ·rename_i kk1 hsh2
     rw [hsh2] at hs2
     rw [vb hs2] at hd2
     replace h := qq h
     obtain ⟨hc, h⟩ := h
     simp only [Bool.and_eq_true, decide_eq_true_eq] at hc
     obtain ⟨rfl, hna⟩ := hc
     have hna' : ei.agg = false := by simpa [bnot] using hna
     obtain ⟨z, hz, hz0, hz1, hz2⟩ := jM (hE.ty et ei hei) w
     obtain ⟨c, hbc, rfl⟩ := hu.mref_inv
     rw [hv.int_inv]
     split at h
     ·rename_i kk' kv l hb
      replace h := qq h
      obtain ⟨hc, h⟩ := h
      simp only [Bool.and_eq_true, decide_eq_true_eq] at hc
      obtain ⟨rfl, hkd⟩ := hc
      obtain ⟨c', es, clock, h1, h2, h3, h4⟩ := hm.blocks b _ hb
      rw [hbc] at h1; cases h1
      obtain ⟨a, hf, ha⟩ := QE (kv := kv) n l es.toList 0 (by simpa using h3) (fun i h h' => by
       have := (h4 i h (by simpa using h')).1
       generalize hk : es.toList[i].key = y
       have hk2 : es[i].key = y := by simpa using hk
       rw [hk2] at this
       cases this; rfl)
      have hrun := Gk (okf := okf) hd hd2 h2 hf hz
      have hval : DR G.D w (kv.of (odef (jo l n) kv.zero)) ((a.map Prod.snd).getD z) ∧ (ois (jo l n)) = a.isSome := by
       cases a with
       | none => rw [ha]; exact ⟨kd_zero (hz0 hna') (hz2 kv hkd).2, rfl⟩
       | some p =>
         obtain ⟨i, h5, h6, h7, h8, _, _⟩ := ha
         rw [h7]
         refine ⟨?_, rfl⟩
         have := (h4 i h5 (by simpa using h6)).2
         show DR G.D w (kv.of l[i].2) p.2
         rw [h8]
         simpa using this
      cases okf with
      | true =>
        simp only [cond_true] at h
        refine ⟨_, _, h, hrun, ?_⟩
        rw [hval.2]
        exact VR.pair (.data _ _ hval.1) (.data _ _ (.bool _))
      | false => exact ⟨_, _, h, hrun, .data _ _ hval.1⟩
     ·rename_i ks vs hb
      obtain ⟨c', es, clock, l, kk0, h1, h2, ⟨p1, p2, p3⟩, h3, h3', h4, h5⟩ := hm.blocks b _ hb
      rw [hbc] at h1; cases h1
      split at h
      ·rename_i zz hzz
       obtain ⟨a, p0, hf0, hk, hp⟩ := GB (G := G) (w := w) ks vs h l 0 h3 h3' h4 h5
       obtain ⟨p, hf, hpp⟩ := BX p1 p2 p3 hf0
       have hrun := Gk (okf := okf) hd hd2 h2 hf hz
       have hsome : p0.isSome = p.isSome := by
        cases p0 <;> cases p <;> simp at hpp ⊢
       rw [hsome] at hk
       have hval : VR G.D G.σ w a ((p.map Prod.snd).getD z) := by
        rw [← hpp]
        cases p0 with
        | none =>
          have hp' : a = zz := hp
          rw [hp']
          rw [hzz, kW (hz0 hna')] at hz1
          simp only [zall, Bool.and_true] at hz1
          exact .data _ _ (Dt hz1).1
        | some p => exact hp
       cases okf with
       | true => exact ⟨_, _, hk, hrun, VR.pair hval (.data _ _ (.bool _))⟩
       | false => exact ⟨_, _, hk, hrun, hval⟩
      ·simp at h
     ·simp at h
    ·simp at h
   ·simp at h
  ·simp at h
theorem Ui (hE : EnvOK P E) (hm : MemOK base ok G w M) (hg : GOK E.glob base G.D w) (hbase : base ≤ w.heap.size) {f : FuncId} {ct : Ctr} (hct : look E.ctr f = some ct) {vs vs' : List AV} {xs : List Value} (hvs : jU M vs = some vs') (hl : vs.length = xs.length) (hx : ∀ i (h : i < vs.length) (h' : i < xs.length), VR G.D G.σ w vs[i] xs[i]) {k : AV → Option R} {r : R} (h : ct.run vs' k = some r) :
  ∃ v, k v = some r ∧ zw P G w slot none v ((callFunc f xs.toArray).run P w) := by
 obtain ⟨⟨fn, hf1, hf2, hf3⟩, hco⟩ := hE.ctr f ct hct
 obtain ⟨v, hk, hcall⟩ := hco.2 R vs' k r h
 refine ⟨v, hk, ?_⟩
 rw [kO hf1 hf2 hf3]
 obtain ⟨hl2, hd⟩ := jT hm hvs
 refine ⟨rfl, (hcall G.D w xs hm.dlt (fun g cs hg' => let ⟨a, b, c⟩ := hg g cs hg'; ⟨by omega, b, c⟩) ⟨by omega, fun i h1 h2 => hd i (by omega) h1 _ (hx i (by omega) h2)⟩).mono ?_⟩
 rintro e w' ⟨cv, rfl, hbelow, hdr⟩
 exact ⟨cv, rfl, ⟨G.σ, _⟩, ⟨hbelow, fun c h => .inl h, fun c h => h, fun _ _ => rfl, rfl⟩, .data _ _ hdr⟩
theorem qc6 (hE : EnvOK P E) (hm : MemOK base ok G w M) (hg : GOK E.glob base G.D w) (hbase : base ≤ w.heap.size) {f : FuncId} {ct : Ctr} (hct : look E.own f = some ct) {vs vs' : List AV} {xs : List Value} (hvs : jU M vs = some vs') (hl : vs.length = xs.length) (hx : ∀ i (h : i < vs.length) (h' : i < xs.length), VR G.D G.σ w vs[i] xs[i]) {k : AV → Option Blk → Option R} {r : R} (h : ct.run vs' (fun v => ownK slot v k) = some r) :
  ∃ v b, k v b = some r ∧ zw P G w slot b v ((callFunc f xs.toArray).run P w) := by
 obtain ⟨⟨fn, hf1, hf2, hf3⟩, hco⟩ := hE.own f ct hct
 obtain ⟨e, l, hk, hcall⟩ := hco.2 R vs' _ r h
 refine ⟨.vec slot, some (.vec e l), hk, ?_⟩
 rw [kO hf1 hf2 hf3]
 obtain ⟨hl2, hd⟩ := jT hm hvs
 refine ⟨rfl, (hcall G.D w xs hm.dlt (fun g cs hg' => let ⟨a, b, c⟩ := hg g cs hg'; ⟨by omega, b, c⟩) ⟨by omega, fun i h1 h2 => hd i (by omega) h1 _ (hx i (by omega) h2)⟩).mono ?_⟩
 rintro e' w' ⟨A, cap, rfl, hbelow, hcap, hnone, hA⟩
 refine ⟨_, rfl, ⟨fun b => if b = slot then .hdr A l.length cap e.size else G.σ b, fun q => G.D q ∨ (w.heap.size ≤ q ∧ q < w'.heap.size ∧ A ≠ some q)⟩,
  ⟨hbelow, fun c h => .inl h, fun c h => h.elim .inl fun h => .inr ⟨h.1, h.2.1⟩, fun i hi => if_neg hi, ?_⟩, .vec slot A l.length cap e.size (if_pos rfl)⟩
 simp only [if_true]
 refine ⟨⟨A, cap, rfl, hcap, hnone, fun c hc => ?_⟩, fun c hc => ?_⟩
 ·obtain ⟨_, _, vs, t, h1, h2, h3, h4⟩ := hA c hc
  exact ⟨vs, t, h1, h2, h3, fun i h j hj => (h4 i h j hj).mono fun q hq => ⟨hq.elim .inl fun hq => .inr ⟨hq.1, hq.2.1, fun e => hq.2.2 (by rw [hc] at e; exact (Option.some.inj e).symm)⟩, rfl⟩⟩
 ·have hc' : A = some c := hc
  obtain ⟨h1, h2, _⟩ := hA c hc'
  refine ⟨h1, h2, fun h => ?_⟩
  rcases h with h | h
  ·have := hm.dlt c h; omega
  ·exact h.2.2 hc'
end Go.Sx
namespace Go.Sx
open Go
open Go.RowKit (Below)
variable {P : Program} {E : Env} {base : Nat} {ok : Nat → Prop} {G : Gam} {w : GW} {M : Mem} {R : Type} {slot : Nat}
theorem jC {s : Sem Value} {y : Value} {v : AV} (h : s.run P w = .ok y w) (hv : VR G.D G.σ w v y) : zw P G w slot none v ((do pure (.value (← s)) : Sem Next).run P w) := by
 simp only [Sem.run_bind, h, Result.andThen_ok, Sem.run_pure]
 exact zw.same hv
theorem B9 {ρ : Operand → Value} {ev : Operand → AV} (hev : ∀ x, VR G.D G.σ w (ev x) (ρ x)) (l : List Operand) : ∀ i (h : i < (l.map ev).length) (h' : i < (l.map ρ).length), VR G.D G.σ w (l.map ev)[i] (l.map ρ)[i] := by
 intro i h h'
 simp only [List.getElem_map]
 exact hev _
theorem qbv {a b : List AV} {c d : List Value} (hl : a.length = c.length) (h1 : ∀ i (h : i < a.length) (h' : i < c.length), VR G.D G.σ w a[i] c[i]) (h2 : ∀ i (h : i < b.length) (h' : i < d.length), VR G.D G.σ w b[i] d[i]) :
  ∀ i (h : i < (a ++ b).length) (h' : i < (c ++ d).length), VR G.D G.σ w (a ++ b)[i] (c ++ d)[i] := by
 intro i h h'
 by_cases hi : i < a.length
 ·rw [List.getElem_append_left hi, List.getElem_append_left (by omega)]
  exact h1 i hi (by omega)
 ·rw [List.getElem_append_right (by omega), List.getElem_append_right (by omega)]
  have := h2 (i - a.length) (by simp at h; omega) (by simp at h'; omega)
  simp only [hl] at this ⊢
  exact this
theorem kU {ρ : Operand → Value} {ev : Operand → AV} (hev : ∀ x, VR G.D G.σ w (ev x) (ρ x)) (o : Option Operand) : (∀ v, Q8 o ev = some v → ∃ y, o.map ρ = some y ∧ VR G.D G.σ w v y) ∧ (Q8 o ev = none → o.map ρ = none) := by
 cases o with
 | none => exact ⟨fun v h => by simp [Q8] at h, fun _ => rfl⟩
 | some x => exact ⟨fun v h => by simp [Q8] at h; subst h; exact ⟨_, rfl, hev x⟩, fun h => by simp [Q8] at h⟩
theorem Qi {ρ : Operand → Value} {ev : Operand → AV} (hev : ∀ x, VR G.D G.σ w (ev x) (ρ x)) {o : Oper} {c : Go.Call} {f : Operand} (ho : o.op = .call c) (hc : c.callee = .value f) {p : Nat × List AV} (hp : Df (ev f) (c.args.toList.map ev) = some p) :
  ∃ xs : List Value, execOp ρ o = callFunc p.1 xs.toArray ∧ p.2.length = xs.length ∧ ∀ i (h : i < p.2.length) (h' : i < xs.length), VR G.D G.σ w p.2[i] xs[i] := by
 unfold Df at hp
 split at hp
 ·rename_i g first cap args hg
  cases hp
  have hf := hev f
  rw [hg] at hf
  obtain ⟨u, v, h1, h2, h3, h4, hx⟩ := hf.func_inv
  refine ⟨u ++ c.args.toList.map ρ ++ v, ?_, by simp [h1, h2], ?_⟩
  ·unfold execOp
   rw [ho]
   simp only [resolve, hc, hx, Deferred.ofValue, pure_bind, invoke]
   congr 1
   apply Array.ext'
   simp
  ·exact qbv (by simp [h1]) (qbv h1 h3 (B9 hev _)) h4
 ·simp at hp
theorem qej {s : Str} {j : Nat} {c : UInt8} (h : s[j]? = some c) : (⟨s.toArray⟩ : ByteArray)[j]? = some c := by
 obtain ⟨hlt, rfl⟩ := List.getElem?_eq_some_iff.1 h
 have h2 : j < (⟨s.toArray⟩ : ByteArray).size := by simpa [ByteArray.size] using hlt
 exact (getElem?_pos (⟨s.toArray⟩ : ByteArray) j h2).trans rfl
theorem Dx {ρ : Operand → Value} {ev : Operand → AV} (hev : ∀ x, VR G.D G.σ w (ev x) (ρ x)) {l : List Operand} {kx ky : IntKind} {x y : Int} (h : l.map ev = [.int kx x, .int ky y]) : ∃ a b, l = [a, b] ∧ ρ a = .int kx x ∧ ρ b = .int ky y := by
 match l, h with
 | [a, b], h =>
   simp only [List.map_cons, List.map_nil, List.cons.injEq, and_true] at h
   have h1 := hev a
   have h2 := hev b
   rw [h.1] at h1
   rw [h.2] at h2
   exact ⟨a, b, rfl, h1.int_inv, h2.int_inv⟩
 | [], h => simp at h
 | [_], h => simp at h
 | _ :: _ :: _ :: _, h => simp at h
theorem RR (hE : EnvOK P E) {t : TypeId} {d : TypeDesc} {s : Sh} {f : Nat} {p : Nat × TypeId} {fi : TyI} {cs : List AV} {v : AV} {x : Value} (hv : VR G.D G.σ w (.agg cs) x) (hd : P.underlying t = some d) (hs : shOK P d s = true) (hp : Je s f = some p) (hfi : E.t p.2 = some fi) (h : zg fi cs p.1 = some v) :
  ∃ y, (Instr.field t x f).run P w = .ok y w ∧ VR G.D G.σ w v y := by
 unfold Je at hp
 split at hp
 ·rename_i fs
  obtain ⟨gs, rfl, hf⟩ := JY hs
  obtain ⟨hl, hh⟩ := gB hf
  obtain ⟨hlt, rfl⟩ := List.getElem?_eq_some_iff.1 hp
  obtain ⟨e1, e2, _⟩ := hh f (by omega) hlt
  have hlt' : f < gs.size := by have := hl; simp at this; omega
  have e1' : gs[f].offset = fs[f].1 := by simpa using e1
  have e2' : gs[f].type = fs[f].2 := by simpa using e2
  obtain ⟨vs, h1, h2, h3, rfl⟩ := hv.agg_inv
  unfold zg at h
  have ht := hE.ty _ fi hfi
  cases ha : fi.agg with
  | true =>
    rw [ha] at h
    simp only [cond_true] at h
    replace h := qq h
    obtain ⟨hb, h⟩ := h
    cases h
    have hle : fs[f].1 + fi.size ≤ cs.length := Nat.le_of_ble_eq_true hb
    refine ⟨.agg ((vs.drop fs[f].1).take fi.size).toArray, ?_, ?_⟩
    ·unfold Instr.field
     simp only [Sem.run_bind, run_underlying hd w, Result.andThen_ok, Array.getElem?_eq_getElem hlt', e1', e2', asAgg, Sem.run_pure, part, QT ht w, ha, if_true, qL ht w]
     simp
    ·refine .agg _ _ (by simp; omega) (fun v hv => h2 v (List.mem_of_mem_drop (List.mem_of_mem_take hv))) (fun i h4 h5 => ?_)
     simp only [List.getElem_take, List.getElem_drop]
     exact h3 _ (by simp at h4; omega) (by simp at h5; omega)
  | false =>
    rw [ha] at h
    simp only [cond_false] at h
    obtain ⟨hlt2, rfl⟩ := List.getElem?_eq_some_iff.1 h
    refine ⟨vs[fs[f].1]'(by omega), ?_, h3 _ hlt2 (by omega)⟩
    unfold Instr.field
    simp only [Sem.run_bind, run_underlying hd w, Result.andThen_ok, Array.getElem?_eq_getElem hlt', e1', e2', asAgg, Sem.run_pure, part, QT ht w, ha]
    have : fs[f].1 < vs.length := by omega
    simp [this]
 ·simp at hp
theorem JL (hE : EnvOK P E) (hm : MemOK base ok G w M) (hg : GOK E.glob base G.D w) (hbase : base ≤ w.heap.size) (hslot : G.σ slot = .none) {ev : Operand → AV} {ρ : Operand → Value} (hev : ∀ x, VR G.D G.σ w (ev x) (ρ x)) {o : Oper} {k : AV → Option Blk → Option R} {r : R} (h : zu E ev M slot o k = some r) :
  ∃ v b, k v b = some r ∧ zw P G w slot b v ((execOp ρ o).run P w) := by
 unfold zu at h
 split at h
 ·
  rename_i x ho
  refine ⟨_, _, h, ?_⟩
  rw [show execOp ρ o = pure (.value (ρ x)) by unfold execOp; rw [ho], Sem.run_pure]
  exact zw.same (hev x)
 ·
  rename_i x ho
  rw [show execOp ρ o = pure (.value (ρ x)) by unfold execOp; rw [ho], Sem.run_pure]
  split at h
  ·rename_i hx
   have hxx := hev x
   rw [hx] at hxx
   split at h
   ·rename_i kd _
    refine ⟨_, _, h, ?_⟩
    rw [hxx.nilsl_inv]
    refine ⟨_, Step.nilvec hslot kd, ?_⟩
    exact VR.vec (σ := (G.up slot (.hdr none 0 0 kd.size)).σ) slot none 0 0 kd.size (Gam.up_self ..)
   ·exact ⟨_, _, h, zw.same hxx⟩
  ·rename_i t hx
   have hxx := hev x
   rw [hx] at hxx
   cases hsp : E.split with
   | false => rw [hsp] at h; exact ⟨_, _, h, zw.same hxx⟩
   | true =>
     rw [hsp] at h
     simp only [cond_true] at h
     rcases qie h with ⟨e, h⟩ | ⟨e, h⟩
     ·subst e; exact ⟨_, _, h, zw.same hxx⟩
     ·subst e; exact ⟨_, _, h, zw.same hxx⟩
  ·exact ⟨_, _, h, zw.same (hev x)⟩
 ·
  rename_i c a b ho
  split at h
  ·rename_i t hc
   have hcc := hev c
   rw [hc] at hcc
   have hrun : (execOp ρ o).run P w = .ok (.value (if t then ρ a else ρ b)) w := by
    rw [show execOp ρ o = (do pure (.value (if ← asBool (ρ c) then ρ a else ρ b))) by unfold execOp; rw [ho], hcc.bool_inv]
    simp [asBool]
   rw [hrun]
   cases t with
   | true => exact ⟨_, _, h, zw.same (hev a)⟩
   | false => exact ⟨_, _, h, zw.same (hev b)⟩
  ·simp at h
 ·
  rename_i t ho
  split at h
  ·rename_i i hi
   refine ⟨_, _, h, ?_⟩
   rw [show execOp ρ o = (do pure (.value (← Instr.alloc t true (.tuple #[])))) by unfold execOp; rw [ho]]
   exact Nr hE hslot hm.dlt hi
  ·simp at h
 ·
  rename_i t x ho
  rw [show execOp ρ o = (do pure (.value (← Instr.box t (ρ x)))) by unfold execOp; rw [ho]]
  split at h
  ·rename_i i hi
   have hx := hev x
   split at h
   ·rename_i cs hcs
    rw [hcs] at hx
    replace h := qq h
    obtain ⟨_, h⟩ := h
    obtain ⟨vs, h1, h2, h3, h4⟩ := hx.agg_inv
    refine ⟨_, _, h, ?_⟩
    rw [h4]
    exact YK hslot hm.dlt (x := .agg vs.toArray) (qef h1 h2 h3)
   ·simp at h
   ·simp at h
   ·simp at h
   ·rename_i h1 h2 h3 h4
    replace h := qq h
    obtain ⟨_, h⟩ := h
    refine ⟨_, _, h, ?_⟩
    have ho := hx.one h1 h2 h3 h4
    refine YK hslot hm.dlt ?_
    rw [kW ho]
    exact qaa hx ho
  ·simp at h
 ·
  rename_i t parts ho
  rw [show execOp ρ o = (do pure (.value (← Instr.build t (parts.map fun (i, x) => (i, ρ x))))) by unfold execOp; rw [ho]]
  split at h
  ·rename_i i hi
   split at h
   ·rename_i fs hsh
    obtain ⟨cs, h1, h⟩ := Option.bind_eq_some_iff.1 h
    obtain ⟨y, h2, h3⟩ := JM hE hev hi hsh h1
    exact ⟨_, _, h, jC h2 h3⟩
   ·rename_i n e hsh
    split at h
    ·rename_i ei hei
     obtain ⟨cs, h1, h⟩ := Option.bind_eq_some_iff.1 h
     obtain ⟨y, h2, h3⟩ := Vn hE hev hi hsh hei h1
     exact ⟨_, _, h, jC h2 h3⟩
    ·simp at h
   ·simp at h
  ·simp at h
 ·
  rename_i t len parts ho
  rw [show execOp ρ o = (do pure (.value (← Instr.buildSlice t len (parts.map fun (i, x) => (i, ρ x))))) by unfold execOp; rw [ho]]
  split at h
  ·rename_i i hi
   split at h
   ·rename_i et hsh
    split at h
    ·rename_i ei hei
     replace h := qq h
     obtain ⟨hc, h⟩ := h
     simp only [Bool.and_eq_true] at hc
     obtain ⟨⟨⟨⟨c1, c2⟩, c3⟩, c4⟩, c5⟩ := hc
     have hs := K1 hE hm hslot hev hi hsh hei c1 (Nat.eq_of_beq_eq_true c2) (Nat.le_of_ble_eq_true c3) (Nat.le_of_ble_eq_true c4) c5
     split at h
     ·rename_i kd hkd
      obtain ⟨vs, h1, h⟩ := Option.bind_eq_some_iff.1 h
      obtain ⟨l, h2, h⟩ := Option.bind_eq_some_iff.1 h
      exact ⟨_, _, h, hs.1 kd vs l hkd h1 h2⟩
     ·exact ⟨_, _, h, hs.2⟩
    ·simp at h
   ·simp at h
  ·simp at h
 ·
  rename_i t a ho
  rw [show execOp ρ o = (do pure (.value (← Instr.loadAt t (ρ a)))) by unfold execOp; rw [ho]]
  obtain ⟨v, y, h1, h2, h3⟩ := Rm hE hm hg (hev a) h
  exact ⟨_, _, h1, jC h2 h3⟩
 ·
  rename_i x ho
  have hx := hev x
  split at h <;> try (simp at h; done)
  ·rename_i b off hh
   rw [hh] at hx
   refine ⟨_, _, h, ?_⟩
   obtain ⟨c, _, e⟩ := hx.ptr_inv
   rw [show execOp ρ o = pure (.value (ρ x)) by unfold execOp; rw [ho]; simp only [e], Sem.run_pure]
   exact zw.same hx
  ·rename_i b off hh
   rw [hh] at hx
   refine ⟨_, _, h, ?_⟩
   obtain ⟨c, _, _, e⟩ := hx.dref_inv
   rw [show execOp ρ o = pure (.value (ρ x)) by unfold execOp; rw [ho]; simp only [e], Sem.run_pure]
   exact zw.same hx
  ·rename_i b j off hh
   rw [hh] at hx
   refine ⟨_, _, h, ?_⟩
   obtain ⟨c, _, _, _, _, _, _, e⟩ := hx.vref_inv
   rw [show execOp ρ o = pure (.value (ρ x)) by unfold execOp; rw [ho]; simp only [e], Sem.run_pure]
   exact zw.same hx
  ·rename_i g off hh
   rw [hh] at hx
   refine ⟨_, _, h, ?_⟩
   have e := hx.gp_inv
   rw [show execOp ρ o = pure (.value (ρ x)) by unfold execOp; rw [ho]; simp only [e], Sem.run_pure]
   exact zw.same hx
  ·rename_i f a c hh
   rw [hh] at hx
   refine ⟨_, _, h, ?_⟩
   obtain ⟨u, v, _, _, _, _, e⟩ := hx.func_inv
   rw [show execOp ρ o = pure (.value (ρ x)) by unfold execOp; rw [ho]; simp only [e], Sem.run_pure]
   exact zw.same hx
 ·
  rename_i op t x y _ ho
  rw [show execOp ρ o = (do pure (.value (← (do eqGuard op t x y (ρ x) (ρ y); binOp op t (ρ x) (ρ y))))) by unfold execOp; rw [ho]]
  obtain ⟨v, z, h1, h2, h3⟩ := qah hE (hev x) (hev y) h
  exact ⟨_, _, h1, jC h2 h3⟩
 ·
  rename_i op _ x ho
  rw [show execOp ρ o = (do pure (.value (← Op.unary op (ρ x)))) by unfold execOp; rw [ho]]
  have hx := hev x
  split at h
  ·rename_i b hh
   rw [hh] at hx
   refine ⟨_, _, h, jC (y := .bool !b) (by rw [hx.bool_inv]; rfl) (.data _ _ (.bool _))⟩
  ·rename_i kk n hh
   rw [hh] at hx
   refine ⟨_, _, h, jC (y := .int kk (kk.wrap (0 - n))) (by rw [hx.int_inv]; rfl) (.data _ _ (.int _ _))⟩
  ·simp at h
 ·
  rename_i src dst x ho
  rw [show execOp ρ o = (do pure (.value (← convert src dst (ρ x)))) by unfold execOp; rw [ho]]
  obtain ⟨v, z, h1, h2, h3⟩ := RZ hE hm (hev x) h
  exact ⟨_, _, h1, jC h2 h3⟩
 ·
  rename_i f first cap ho
  rw [show execOp ρ o = (do pure (.value (← Instr.makeFunc (.func f) (first.map ρ) (cap.map ρ)))) by unfold execOp; rw [ho]]
  refine ⟨_, _, h, jC (y := .func (.func f) (first.toList.map ρ).toArray (cap.toList.map ρ).toArray) ?_ ?_⟩
  ·have e : ∀ a : Array Operand, a.map ρ = (a.toList.map ρ).toArray := fun a => by apply Array.ext'; simp
   rw [e, e]
   rfl
  ·exact .func f _ _ _ _ (by simp) (by simp) (B9 hev _) (B9 hev _)
 ·
  rename_i t ho
  rw [show execOp ρ o = (do pure (.value (← Instr.makeMap t none))) by unfold execOp; rw [ho]; rfl]
  have hrun : (Instr.makeMap t none).run P w = .ok (.map (some w.heap.size)) (w.alloc (.map #[] 0)) := by
   simp [Instr.makeMap, newObj, Sem.run]
  split at h
  ·split at h
   ·split at h
    ·have fin : ∀ x, (BR G.D (G.up slot (.blk w.heap.size)).σ (w.alloc (.map #[] 0)) (.blk w.heap.size) x) → (∀ c, mutC (.blk w.heap.size) x = some c → c = w.heap.size) →
       zw P G w slot (some x) (.mref slot) ((do pure (.value (← Instr.makeMap t none)) : Sem Next).run P w) := by
      intro x hbr hmu
      simp only [Sem.run_bind, hrun, Result.andThen_ok, Sem.run_pure]
      exact ⟨_, Step.lay hslot hm.dlt hbr hmu, VR.mref (σ := (G.up slot (.blk w.heap.size)).σ) slot w.heap.size (Gam.up_self ..)⟩
     split at h
     ·exact ⟨_, _, h, fin _ ⟨w.heap.size, #[], 0, rfl, j2 _ _, rfl, fun i h => by simp at h⟩ (fun c hc => by simp [mutC] at hc; exact hc.symm)⟩
     ·exact ⟨_, _, h, fin _ ⟨w.heap.size, #[], 0, [], .i64, rfl, j2 _ _, ⟨List.Perm.refl _, fun e he => by simp at he, by simp⟩, rfl, rfl, fun i h => by simp at h, fun i h => by simp at h⟩ (fun c hc => by simp [mutC] at hc; exact hc.symm)⟩
    ·simp at h
   ·simp at h
  ·simp at h
 ·
  rename_i t l c ho
  rw [show execOp ρ o = (do pure (.value (← Instr.makeSlice t (ρ l) (ρ c)))) by unfold execOp; rw [ho]]
  split at h
  ·rename_i i hi
   split at h
   ·rename_i et hsh
    split at h
    ·rename_i ei hei
     split at h
     ·rename_i kd n m hkd hl hc
      have hll := hev l
      have hcc := hev c
      rw [hl] at hll
      rw [hc] at hcc
      replace h := qq h
      obtain ⟨c0, h⟩ := h
      replace h := qA h
      obtain ⟨c1, h⟩ := h
      replace h := qA h
      obtain ⟨c2, h⟩ := h
      replace h := qA h
      obtain ⟨c3, h⟩ := h
      refine ⟨_, _, h, ?_⟩
      rw [hll.int_inv, hcc.int_inv]
      exact Vh hE hm hslot hi hsh hei hkd (of_decide_eq_true c1) (of_decide_eq_true c2) (of_decide_eq_true c3) (Nat.le_of_ble_eq_true c0)
     ·simp at h
    ·simp at h
   ·simp at h
  ·simp at h
 ·
  rename_i t x lo hi mx ho
  rw [show execOp ρ o = (do pure (.value (← Instr.sliceAt t (ρ x) (lo.map ρ) (hi.map ρ) (mx.map ρ)))) by unfold execOp; rw [ho]]
  obtain ⟨v, z, h1, h2, h3⟩ := JW hE hm hg (hev x) (kU hev lo) (kU hev hi) (kU hev mx) h
  exact ⟨_, _, h1, jC h2 h3⟩
 ·
  rename_i t x f ho
  rw [show execOp ρ o = (do pure (.value (← Instr.fieldAt t (ρ x) f))) by unfold execOp; rw [ho]]
  obtain ⟨v, z, h1, h2, h3⟩ := Kv hE (hev x) h
  exact ⟨_, _, h1, jC h2 h3⟩
 ·
  rename_i t x f ho
  rw [show execOp ρ o = (do pure (.value (← Instr.field t (ρ x) f))) by unfold execOp; rw [ho]]
  split at h
  ·rename_i i hi
   obtain ⟨d, hd, hs, _⟩ := (hE.ty t i hi).und
   split at h
   ·rename_i p cs hp hx
    split at h
    ·rename_i fi hfi
     obtain ⟨v, h1, h⟩ := Option.bind_eq_some_iff.1 h
     have hxx := hev x
     rw [hx] at hxx
     obtain ⟨y, h2, h3⟩ := RR hE hxx hd hs hp hfi h1
     exact ⟨_, _, h, jC h2 h3⟩
    ·simp at h
   ·simp at h
  ·simp at h
 ·
  rename_i t x ix ho
  rw [show execOp ρ o = (do pure (.value (← Instr.indexAt t (ρ x) (ρ ix)))) by unfold execOp; rw [ho]]
  obtain ⟨v, z, h1, h2, h3⟩ := M7 hE hm hg (hev x) (hev ix) h
  exact ⟨_, _, h1, jC h2 h3⟩
 ·
  rename_i t x ix ho
  rw [show execOp ρ o = (do pure (.value (← Instr.index t (ρ x) (ρ ix)))) by unfold execOp; rw [ho]]
  split at h
  ·rename_i i hi
   obtain ⟨d, hd, hs, _⟩ := (hE.ty t i hi).und
   split at h
   ·rename_i s kj j hsh hx hix
    rw [hsh] at hs
    rw [gq hs] at hd
    obtain ⟨c, h1, h⟩ := Option.bind_eq_some_iff.1 h
    have hxx := hev x
    have hii := hev ix
    rw [hx] at hxx
    rw [hix] at hii
    refine ⟨_, _, h, jC (y := .int .u8 (c.toNat : Int)) ?_ (.data _ _ (.int _ _))⟩
    rw [hxx.str_inv, hii.int_inv]
    unfold lget at h1
    split at h1
    ·rename_i h0
     have h2 : (⟨s.toArray⟩ : ByteArray)[j.toNat]? = some c := by
      exact qej h1
     simp [Instr.index, asIntOf, run_underlying hd, h0, h2]
    ·simp at h1
   ·simp at h
  ·simp at h
 ·
  rename_i t m x okf ho
  rw [show execOp ρ o = (do pure (.value (← Instr.lookup t (ρ m) (ρ x) okf))) by unfold execOp; rw [ho]]
  obtain ⟨v, z, h1, h2, h3⟩ := UF hE hm (hev m) (hev x) h
  exact ⟨_, _, h1, jC h2 h3⟩
 ·
  rename_i t ix ho
  rw [show execOp ρ o = (do pure (.value (← Instr.extract (ρ t) ix))) by unfold execOp; rw [ho]]
  split at h
  ·rename_i vs hvs
   split at h
   ·rename_i v hv
    have ht := hev t
    rw [hvs] at ht
    obtain ⟨xs, h1, h2, h3⟩ := ht.tup_inv
    obtain ⟨hlt, rfl⟩ := List.getElem?_eq_some_iff.1 hv
    refine ⟨_, _, h, jC (y := xs[ix]'(by omega)) ?_ (h2 ix hlt (by omega))⟩
    rw [h3]
    simp [Instr.extract, show ix < xs.length by omega]
   ·simp at h
  ·simp at h
 ·
  rename_i c ho
  split at h
  ·rename_i b hc
   have hex : ∀ {s : Sem Value}, (builtin b c.argTypes o.type (c.args.map fun | .const _ => true | _ => false) (c.args.map ρ) = (do pure (.value (← s)))) → execOp ρ o = (do pure (.value (← s))) := by
    intro s hs
    unfold execOp
    rw [ho]
    simp only [resolve, hc, pure_bind, invoke]
    exact hs
   split at h
   ·split at h
    ·rename_i x xs t ts hx ht
     have a0 : c.args[0]? = some x := by rw [← Array.getElem?_toList, hx]; rfl
     have a1 : c.argTypes[0]? = some t := by rw [← Array.getElem?_toList, ht]; rfl
     obtain ⟨v, z, h1, h2, h3⟩ := M0 hE hm (ty := o.type) (hev x) a1 (args := c.args.map ρ) (by simp [a0]) h
     refine ⟨_, _, h1, ?_⟩
     rw [hex (s := Builtin.len_ c.argTypes o.type (c.args.map ρ)) rfl]
     exact jC h2 h3
    ·simp at h
   ·split at h
    ·rename_i kx x ky y hxy
     obtain ⟨a0, a1, e0, e1, e2⟩ := Dx hev hxy
     refine ⟨_, _, h, ?_⟩
     rw [hex (s := Builtin.min_ c.argTypes o.type (c.args.map ρ)) rfl]
     refine jC (y := .int kx (if y < x then y else x)) ?_ (.data _ _ (.int _ _))
     unfold Builtin.min_
     rw [Array.toList_map, e0]
     simp [e1, e2, Builtin.min2]
    ·simp at h
   ·split at h
    ·rename_i kx x ky y hxy
     obtain ⟨a0, a1, e0, e1, e2⟩ := Dx hev hxy
     refine ⟨_, _, h, ?_⟩
     rw [hex (s := Builtin.max_ c.argTypes o.type (c.args.map ρ)) rfl]
     refine jC (y := .int kx (if y > x then y else x)) ?_ (.data _ _ (.int _ _))
     unfold Builtin.max_
     rw [Array.toList_map, e0]
     simp [e1, e2, Builtin.max2]
    ·simp at h
   ·split at h
    ·rename_i x xs t ts hx ht
     have a0 : c.args[0]? = some x := by rw [← Array.getElem?_toList, hx]; rfl
     have a1 : c.argTypes[0]? = some t := by rw [← Array.getElem?_toList, ht]; rfl
     obtain ⟨v, z, h1, h2, h3⟩ := qac hE (ty := o.type) (hev x) a1 (args := c.args.map ρ) (by simp [a0]) h
     refine ⟨_, _, h1, ?_⟩
     rw [hex (s := Builtin.cap_ c.argTypes o.type (c.args.map ρ)) rfl]
     exact jC h2 h3
    ·simp at h
   ·simp at h
  ·rename_i f hc
   split at h
   ·rename_i p hp
    split at h
    ·rename_i ct hct
     obtain ⟨vs, hvs, h⟩ := Option.bind_eq_some_iff.1 h
     obtain ⟨xs, e1, e2, e3⟩ := Qi hev ho hc hp
     obtain ⟨v, b, hk, hcalm⟩ := qc6 hE hm hg hbase hct hvs e2 e3 h
     refine ⟨v, b, hk, ?_⟩
     rw [e1]
     exact hcalm
    split at h
    ·rename_i ct hct
     obtain ⟨vs, hvs, h⟩ := Option.bind_eq_some_iff.1 h
     obtain ⟨xs, e1, e2, e3⟩ := Qi hev ho hc hp
     obtain ⟨v, hk, hcalm⟩ := Ui hE hm hg hbase hct hvs e2 e3 h
     refine ⟨v, none, hk, ?_⟩
     rw [e1]
     exact hcalm
    ·split at h
     ·rename_i d b off hget hp2
      obtain ⟨xs, e1, e2, e3⟩ := Qi hev ho hc hp
      obtain ⟨⟨fn, hf1, hf2, hf3⟩, hgo⟩ := hE.get _ _ hget
      rw [hp2] at e2 e3
      match xs, e2, e3 with
      | [x], _, e3 =>
        obtain ⟨c, hσ, rfl⟩ := (e3 0 (by simp) (by simp)).ptr_inv
        refine ⟨_, none, h, ?_⟩
        rw [e1, kO hf1 hf2 hf3]
        refine ⟨rfl, (hgo w c off).mono ?_⟩
        rintro e w' ⟨rfl, rfl⟩
        exact ⟨_, rfl, G, Step.refl G w' _, .ptr b (off + d) c hσ⟩
     ·simp at h
   ·simp at h
  ·simp at h
 ·simp at h
end Go.Sx
namespace Go.Sx
open Go
open Go.RowKit (Below)
abbrev Ent := Gam × GW × List Nat × Nat
structure Rel (E : Env) (base : Nat) (w0 : GW) (ok : Nat → Prop) (en : Ent) (G : Gam) (s : St) (a : Act) (w : GW) : Prop where
 defers : a.defers = []
 size : a.tmps.size = s.T.length
 val : ∀ t v, s.T[t]? = some v → VR G.D G.σ w v (a.tmps.getD t undef)
 mem : MemOK base ok G w s.M
 below : Below base w0 w
 glob : GOK E.glob base G.D w
 base : base ≤ w.heap.size
 grow : ∀ c, en.1.D c → G.D c ∧ w.heap[c]? = en.2.1.heap[c]?
 held : ∀ b ∈ s.lock, en.1.σ b ≠ .none → G.σ b = en.1.σ b ∧ b < s.lo
 lo : s.lo ≤ s.M.length
 fr : s.lock = en.2.2.1 ∧ s.lo = en.2.2.2
variable {P : Program} {E : Env} {base : Nat} {w0 : GW} {ok : Nat → Prop} {en : Ent} {G G' : Gam} {s : St} {a : Act} {w w' : GW} {R : Type}
theorem GOK.mono {gl : List (Nat × List AV)} {D D' : Nat → Prop} (h : ∀ c, D c → D' c ∧ w'.heap[c]? = w.heap[c]?) (hg : GOK gl base D w) : GOK gl base D' w' := by
 intro g cs hl
 obtain ⟨h1, h2, h3, h7⟩ := hg g cs hl
 refine ⟨h1, (h g h2).1, fun j hj => ?_, by rw [(h g h2).2]; exact h7⟩
 obtain ⟨x, h4, h5, h6⟩ := h3 j hj
 refine ⟨x, ?_, h5, h6.mono h⟩
 have := (h g h2).2
 unfold World.cell? at h4 ⊢
 rw [add_block] at h4 ⊢
 rw [show (blkA g).block = g from rfl] at h4 ⊢
 rw [this]; exact h4
theorem qe3 {tmps : Array Value} {T : List AV} {σ : Nat → SB} {D : Nat → Prop} (hs : tmps.size = T.length) (h : ∀ t v, T[t]? = some v → VR D σ w v (tmps.getD t undef)) {d : Nat} {v : AV} {x : Value} (hv : VR D σ w v x) :
  ∀ t u, (T.set d v)[t]? = some u → VR D σ w u ((tmps.setIfInBounds d x).getD t undef) := by
 intro t u hu
 rw [List.getElem?_set] at hu
 by_cases hd : d = t
 ·subst hd
  by_cases hl : d < T.length
  ·simp [hl] at hu; subst hu
   have : d < tmps.size := by omega
   simp [this]; exact hv
  ·simp [hl] at hu
 ·simp [hd] at hu
  have := h t u hu
  simp only [Array.getD_eq_getD_getElem?] at this ⊢
  rw [Array.getElem?_setIfInBounds_ne hd]
  exact this
theorem Rel.put (h : Rel E base w0 ok en G s a w) {v : AV} {x : Value} (hv : VR G.D G.σ w v x) (d : Option Nat) : Rel E base w0 ok en G (s.put d v) (a.put d x) w := by
 cases d with
 | none => exact h
 | some d =>
   have hput : s.put (some d) v = { s with T := s.T.set d v } := by simp only [St.put, z5]
   rw [hput]
   refine ⟨h.defers, ?_, qe3 h.size h.val hv, h.mem, h.below, h.glob, h.base, h.grow, h.held, h.lo, h.fr⟩
   simp [Act.put, h.size]
theorem Rel.gam (h : Rel E base w0 ok en G s a w) {M' : Mem} (hD : ∀ c, G.D c → G'.D c) (hσ : G'.σ = G.σ) (hm : MemOK base ok G' w M') (hl : M'.length = s.M.length) : Rel E base w0 ok en G' { s with M := M' } a w := by
 have hg : ∀ c, G.D c → G'.D c ∧ w.heap[c]? = w.heap[c]? := fun c hc => ⟨hD c hc, rfl⟩
 refine ⟨h.defers, h.size, fun t v ht => (h.val t v ht).grow hg (fun b _ => by rw [hσ]), hm, h.below, h.glob.mono hg, h.base, fun c hc => ⟨hD c (h.grow c hc).1, (h.grow c hc).2⟩, fun b hb hn => by rw [hσ]; exact h.held b hb hn, ?_, h.fr⟩
 show s.lo ≤ M'.length
 rw [hl]; exact h.lo
theorem Rel.freezeD (h : Rel E base w0 ok en G s a w) (b : Nat) : ∃ G', Rel E base w0 ok en G' { s with M := s.M.modify b Vl } a w ∧ G'.σ = G.σ ∧ ∀ c, G.D c → G'.D c := by
 obtain ⟨D', h1, h2, h3⟩ := BV h.mem b
 exact ⟨⟨G.σ, D'⟩, h.gam h1 rfl h3 (by simp), rfl, h1⟩
theorem Rel.freeze (h : Rel E base w0 ok en G s a w) (b : Nat) : ∃ G', Rel E base w0 ok en G' { s with M := s.M.modify b Vl } a w ∧ G'.σ = G.σ := by
 obtain ⟨G', h1, h2, _⟩ := h.freezeD b
 exact ⟨G', h1, h2⟩
theorem Rel.frz1 (h : Rel E base w0 ok en G s a w) (v : AV) : ∃ G', Rel E base w0 ok en G' { s with M := frz1 s.M v } a w ∧ G'.σ = G.σ := by
 cases v with
 | vec b => exact h.freeze b
 | vsl b i j => exact h.freeze b
 | _ => exact ⟨G, h, rfl⟩
theorem Rel.frzs : ∀ (vs : List AV) {s : St} {G : Gam}, Rel E base w0 ok en G s a w → ∃ G', Rel E base w0 ok en G' { s with M := frzs s.M vs } a w ∧ G'.σ = G.σ
 | [], s, G, h => ⟨G, h, rfl⟩
 | v :: r, s, G, h => by
   obtain ⟨G1, h1, e1⟩ := h.frz1 v
   obtain ⟨G2, h2, e2⟩ := Rel.frzs r h1
   exact ⟨G2, h2, e2.trans e1⟩
theorem Rel.frz (h : Rel E base w0 ok en G s a w) (v : AV) : ∃ G', Rel E base w0 ok en G' { s with M := frz s.M v } a w ∧ G'.σ = G.σ := by
 unfold Sx.frz
 split
 ·exact Rel.frzs _ h
 ·exact h.frz1 _
theorem Rel.frzArgs : ∀ (vs : List AV) {s : St} {G : Gam}, Rel E base w0 ok en G s a w → ∃ G', Rel E base w0 ok en G' { s with M := frzArgs s.M vs } a w ∧ G'.σ = G.σ
 | [], s, G, h => ⟨G, h, rfl⟩
 | v :: r, s, G, h => by
   obtain ⟨G1, h1, e1⟩ := h.frz v
   obtain ⟨G2, h2, e2⟩ := Rel.frzArgs r h1
   exact ⟨G2, h2, e2.trans e1⟩
theorem Rel.frzOp (h : Rel E base w0 ok en G s a w) (ev : Operand → AV) (o : Oper) : ∃ G', Rel E base w0 ok en G' { s with M := frzOp ev s.M o } a w ∧ G'.σ = G.σ := by
 unfold Sx.frzOp
 split
 ·split
  ·exact Rel.frzArgs _ h
  ·exact ⟨G, h, rfl⟩
 ·exact Rel.frzArgs _ h
 ·exact ⟨G, h, rfl⟩
theorem MemOK.step {M M' : Mem} (hm : MemOK base ok G w M) {slot : Nat} {b : Option Blk} (hst : Step G w slot b G' w') (hslot : G.σ slot = .none) (hbase : base ≤ w.heap.size)
  (h1 : ∀ j x, M'[j]? = some x → (j ≠ slot ∧ M[j]? = some x) ∨ (j = slot ∧ (b = some x ∨ x = .dead))) (hlen : M.length ≤ M'.length) (hb : b = none ∨ slot < M'.length) : MemOK base ok G' w' M' := by
 have hg : ∀ c, G.D c → G'.D c ∧ w'.heap[c]? = w.heap[c]? := fun c hc => ⟨hst.keep c hc, hst.below.block c (hm.dlt c hc)⟩
 have hσ : ∀ i, G.σ i ≠ .none → G'.σ i = G.σ i := fun i hi => hst.σ i fun e => hi (e ▸ hslot)
 have hsize := hst.below.size
 refine ⟨?_, ?_, ?_, ?_, ?_, ?_⟩
 ·intro j x hj
  rcases h1 j x hj with ⟨hne, hj⟩ | ⟨rfl, hx⟩
  ·rw [hst.σ j hne]
   refine (hm.blocks j x hj).mono hg hσ fun c hc => hst.below.block c (hm.own j x c hj hc).2.1
  ·rcases hx with hx | rfl
   ·have := hst.slot; rw [hx] at this; exact this.1
   ·trivial
 ·intro j x c hj hc
  rcases h1 j x hj with ⟨hne, hj⟩ | ⟨rfl, hx⟩
  ·rw [hst.σ j hne] at hc
   obtain ⟨a1, a2, a3⟩ := hm.own j x c hj hc
   refine ⟨a1, by omega, fun h => ?_⟩
   rcases hst.new c h with h | h
   ·exact a3 h
   ·omega
  ·rcases hx with hx | rfl
   ·have := hst.slot; rw [hx] at this
    obtain ⟨a1, a2, a3⟩ := this.2 c hc
    exact ⟨by omega, a2, a3⟩
   ·cases hh : G'.σ j <;> rw [hh] at hc <;> simp [mutC] at hc
 ·intro j j' x x' c hj hc hj' hc'
  have old : ∀ j x, M'[j]? = some x → mutC (G'.σ j) x = some c → (j ≠ slot ∧ M[j]? = some x ∧ mutC (G.σ j) x = some c ∧ c < w.heap.size) ∨ (j = slot ∧ w.heap.size ≤ c) := by
   intro j x hj hc
   rcases h1 j x hj with ⟨hne, hj⟩ | ⟨rfl, hx⟩
   ·rw [hst.σ j hne] at hc
    exact .inl ⟨hne, hj, hc, (hm.own j x c hj hc).2.1⟩
   ·rcases hx with hx | rfl
    ·have := hst.slot; rw [hx] at this
     exact .inr ⟨rfl, (this.2 c hc).1⟩
    ·cases hh : G'.σ j <;> rw [hh] at hc <;> simp [mutC] at hc
  rcases old j x hj hc with ⟨a1, a2, a3, a4⟩ | ⟨a1, a2⟩ <;> rcases old j' x' hj' hc' with ⟨b1, b2, b3, b4⟩ | ⟨b1, b2⟩
  ·exact hm.apart j j' x x' c a2 a3 b2 b3
  ·omega
  ·omega
  ·rw [a1, b1]
 ·intro c h
  rcases hst.new c h with h | h
  ·have := hm.dlt c h; omega
  ·exact h.2
 ·intro c h
  rcases hst.new c h with h | h
  ·exact hm.dok c h
  ·exact .inr (by omega)
 ·intro i hi
  by_cases hne : i = slot
  ·subst hne
   rcases hb with rfl | hb
   ·have := hst.slot; simp only at this; rw [this]; exact hslot
   ·omega
  ·rw [hst.σ i hne]; exact hm.out i (by omega)
theorem Rel.step (h : Rel E base w0 ok en G s a w) {slot : Nat} {b : Option Blk} (hst : Step G w slot b G' w') (hslot : G.σ slot = .none) {M' : Mem}
  (h1 : ∀ j x, M'[j]? = some x → (j ≠ slot ∧ s.M[j]? = some x) ∨ (j = slot ∧ (b = some x ∨ x = .dead))) (hlen : s.M.length ≤ M'.length) (hb : b = none ∨ slot < M'.length) : Rel E base w0 ok en G' { s with M := M' } a w' := by
 have hg : ∀ c, G.D c → G'.D c ∧ w'.heap[c]? = w.heap[c]? := fun c hc => ⟨hst.keep c hc, hst.below.block c (h.mem.dlt c hc)⟩
 have hσ : ∀ i, G.σ i ≠ .none → G'.σ i = G.σ i := fun i hi => hst.σ i fun e => hi (e ▸ hslot)
 have hsize := hst.below.size
 refine ⟨h.defers, h.size, fun t v ht => (h.val t v ht).grow hg hσ, h.mem.step hst hslot h.base h1 hlen hb, h.below.trans (hst.below.mono h.base), h.glob.mono hg, Nat.le_trans h.base hsize, fun c hc => ⟨hst.keep c (h.grow c hc).1, ?_⟩, fun b hb hn => ?_, ?_, h.fr⟩
 ·rw [(hg c (h.grow c hc).1).2]; exact (h.grow c hc).2
 ·obtain ⟨e1, e2⟩ := h.held b hb hn
  exact ⟨by rw [hσ b (by rw [e1]; exact hn)]; exact e1, e2⟩
 ·exact Nat.le_trans h.lo hlen
theorem Rel.push (h : Rel E base w0 ok en G s a w) {b : Option Blk} (hst : Step G w s.M.length b G' w') : Rel E base w0 ok en G' { s with M := Gw s.M b } a w' := by
 refine h.step hst (h.mem.out _ (Nat.le_refl _)) (fun j x hj => ?_) ?_ ?_
 ·cases b with
  | none =>
    refine .inl ⟨?_, hj⟩
    have := (List.getElem?_eq_some_iff.1 hj).1
    simp only [Gw] at this; omega
  | some y =>
    simp only [Gw, List.getElem?_append] at hj
    split at hj
    ·exact .inl ⟨by omega, hj⟩
    ·rename_i hlt
     have h2 := (List.getElem?_eq_some_iff.1 hj).1
     simp at h2
     have e : j = s.M.length := by omega
     subst e
     simp at hj
     exact .inr ⟨rfl, .inl (by rw [hj])⟩
 ·cases b <;> simp [Gw]
 ·cases b <;> simp [Gw]
theorem Rel.write (h : Rel E base w0 ok en G s a w) {b c : Nat} {x x' : Blk} (hb : s.M[b]? = some x) (hc : mutC (G.σ b) x = some c) (hother : ∀ k, k ≠ c → w'.heap[k]? = w.heap[k]?) (hsz : w'.heap.size = w.heap.size)
  (hbelow : w'.os = w.os ∧ w'.tape = w.tape ∧ w'.output = w.output) (hbr : BR G.D G.σ w' (G.σ b) x') (hc' : ∀ c', mutC (G.σ b) x' = some c' → c' = c) : Rel E base w0 ok en G { s with M := s.M.set b x' } a w' := by
 obtain ⟨o1, o2, o3⟩ := h.mem.own b x c hb hc
 have hg : ∀ k, G.D k → G.D k ∧ w'.heap[k]? = w.heap[k]? := fun k hk => ⟨hk, hother k fun e => o3 (e ▸ hk)⟩
 have hget : ∀ j y, (s.M.set b x')[j]? = some y → (j ≠ b ∧ s.M[j]? = some y) ∨ (j = b ∧ y = x') := by
  intro j y hj
  rw [List.getElem?_set] at hj
  by_cases e : b = j
  ·subst e
   have : b < s.M.length := (List.getElem?_eq_some_iff.1 hb).1
   simp [this] at hj; exact .inr ⟨rfl, hj.symm⟩
  ·simp [e] at hj; exact .inl ⟨fun q => e q.symm, hj⟩
 have hbel : Below base w w' := ⟨hbelow.1, hbelow.2.1, hbelow.2.2, by omega, fun k hk => hother k (by omega)⟩
 refine ⟨h.defers, h.size, fun t v ht => (h.val t v ht).grow hg (fun _ _ => rfl), ⟨?_, ?_, ?_, ?_, h.mem.dok, ?_⟩, h.below.trans hbel, h.glob.mono hg, by rw [hsz]; exact h.base, fun k hk => ⟨(h.grow k hk).1, ?_⟩, h.held, by simpa using h.lo, h.fr⟩
 ·intro j y hj
  rcases hget j y hj with ⟨hne, hj⟩ | ⟨rfl, rfl⟩
  ·refine (h.mem.blocks j y hj).mono hg (fun _ _ => rfl) fun k hk => hother k fun e => ?_
   exact hne ((h.mem.apart b j x y c hb hc hj (e ▸ hk)))
  ·exact hbr
 ·intro j y k hj hk
  rcases hget j y hj with ⟨hne, hj⟩ | ⟨rfl, rfl⟩
  ·rw [hsz]; exact h.mem.own j y k hj hk
  ·rw [hc' k hk, hsz]; exact ⟨o1, o2, o3⟩
 ·intro j j' y y' k hj hk hj' hk'
  rcases hget j y hj with ⟨hne, hq⟩ | ⟨e1, e2⟩
  ·rcases hget j' y' hj' with ⟨hne', hq'⟩ | ⟨e1', e2'⟩
   ·exact h.mem.apart j j' y y' k hq hk hq' hk'
   ·subst e1'; subst e2'
    rw [hc' k hk'] at hk
    exact (h.mem.apart j j' y x c hq hk hb hc)
  ·subst e1; subst e2
   rcases hget j' y' hj' with ⟨hne', hq'⟩ | ⟨e1', e2'⟩
   ·rw [hc' k hk] at hk'
    exact (h.mem.apart j j' x y' c hb hc hq' hk')
   ·exact e1'
 ·intro k hk; rw [hsz]; exact h.mem.dlt k hk
 ·intro i hi; exact h.mem.out i (by simpa using hi)
 ·rw [(hg k (h.grow k hk).1).2]; exact (h.grow k hk).2
end Go.Sx
namespace Go.Sx
open Go
open Go.RowKit (Below)
variable {P : Program} {E : Env} {base : Nat} {w0 : GW} {ok : Nat → Prop} {en : Ent} {G G' : Gam} {s : St} {a : Act} {w w' : GW} {R : Type}
theorem KF {t : TypeId} {i : TyI} (hi : TyFacts P t i) {c off : Nat} {vs : Array Value} {ty : TypeId} (hb : w.heap[c]? = some (.cells vs ty (0, 0))) {x : Value} (hx : x.cells.size = i.size) (ho : ∀ v ∈ x.cells.toList, v.oneCell' = true) (hle : off + i.size ≤ vs.size) :
  (Instr.storeAt t (.pointer (some ((blkA c).add off))) x).run P w = .ok () (w.setRow c (vs.toList.take off ++ x.cells.toList ++ vs.toList.drop (off + i.size)).toArray) := by
 unfold Instr.storeAt storeVar
 simp only [Sem.run_bind, qJ, Result.andThen_ok, qL hi w, hx]
 have h := run_storeCells_at P c off ty x.cells.toList 0 vs w hb (by simp [hx]; exact hle) ho
 have e : (blkA c).add off = ⟨c, off, none⟩ := by rw [blkA, add_lit]; simp
 rw [e]
 simp only [ne_eq, not_true, ite_false, if_false]
 simp only [Nat.add_zero] at h
 have e2 : x.cells.toList.length = i.size := by simp [hx]
 rw [e2] at h
 exact h
theorem GV {D : Nat → Prop} {σ : Nat → SB} {size : Nat} {v : AV} {x : Value} (h : jI size v = true) (hv : VR D σ w v x) : x.cells.size = size ∧ (∀ u ∈ x.cells.toList, u.oneCell' = true) ∧ LR (VR D σ w) (qZ v) x.cells.toList := by
 obtain ⟨h1, h2, h3⟩ := zO h hv
 refine ⟨h1, fun u hu => ?_, h2⟩
 obtain ⟨q, hq, rfl⟩ := List.getElem_of_mem hu
 exact (h2.2 q (by rw [h2.1]; exact hq) hq).1
theorem Qo {cs cs' : List AV} {off : Nat} {v : AV} (h : Sx.storeCells cs off v = some cs') : cs' = za cs off v ∧ off + (qZ v).length ≤ cs.length := by
 unfold Sx.storeCells at h
 split at h
 ·replace h := qq h
  obtain ⟨hb, h⟩ := h
  cases h
  exact ⟨rfl, Nat.le_of_ble_eq_true hb⟩
 ·simp at h
 ·simp at h
 ·simp at h
 ·rename_i h1 h2 h3 h4
  replace h := qq h
  obtain ⟨hb, h⟩ := h
  cases h
  have hb' : off < cs.length := Nat.le_of_ble_eq_true hb
  cases v <;> first | exact absurd rfl (h1 _) | exact absurd rfl (h2 _) | exact absurd rfl h3 | exact absurd rfl h4 | exact ⟨rfl, by simp [qZ]; omega⟩
theorem LR.of_cellsR {R : AV → Value → Prop} {cs : List AV} {vs : Array Value} (h : vw R cs vs) : LR R cs vs.toList := ⟨by simp [h.1], fun i h1 h2 => by simpa using h.2 i h1 (by simpa using h2)⟩
theorem kN (w : GW) (c : Nat) (cs : Array Value) : (∀ k, k ≠ c → (w.setRow c cs).heap[k]? = w.heap[k]?) ∧ (w.setRow c cs).heap.size = w.heap.size ∧ ((w.setRow c cs).os = w.os ∧ (w.setRow c cs).tape = w.tape ∧ (w.setRow c cs).output = w.output) :=
 ⟨fun k hk => setRow_other w c k cs hk, setRow_size w c cs, rfl, rfl, rfl⟩
theorem UZ (hE : EnvOK P E) (h : Rel E base w0 ok en G s a w) {t : TypeId} {i : TyI} (hi : E.t t = some i) {b off : Nat} {u x : Value} {v : AV} (hu : VR G.D G.σ w (.ptr b off) u) (hv : VR G.D G.σ w v x) (hf : jI i.size v = true) {cs cs' : List AV} (hb : s.M[b]? = some (.cells cs)) (hs : Sx.storeCells cs off v = some cs') :
  ∃ w', (Instr.storeAt t u x).run P w = .ok () w' ∧ Rel E base w0 ok en G { s with M := s.M.set b (.cells cs') } a w' := by
 obtain ⟨c, hc, rfl⟩ := hu.ptr_inv
 obtain ⟨c', vs, ty, e1, e2, e3⟩ := h.mem.blocks b _ hb
 rw [hc] at e1
 cases e1
 obtain ⟨f1, f2, f3⟩ := GV hf hv
 obtain ⟨rfl, hle⟩ := Qo hs
 have hl : (qZ v).length = i.size := by rw [f3.1]; simpa using f1
 have hvl : vs.size = cs.length := e3.1
 refine ⟨_, KF (hE.ty t i hi) e2 f1 f2 (by omega), ?_⟩
 obtain ⟨g1, g2, g3⟩ := kN w c (vs.toList.take off ++ x.cells.toList ++ vs.toList.drop (off + i.size)).toArray
 have hmut : mutC (G.σ b) (.cells cs) = some c := by rw [hc]; rfl
 have hmut' : ∀ c', mutC (G.σ b) (.cells (za cs off v)) = some c' → c' = c := by intro c' h'; rw [hc] at h'; cases h'; rfl
 refine h.write hb hmut g1 g2 g3 ?_ hmut'
 refine ⟨c, _, ty, hc, setRow_heap w c vs _ ty _ e2, ?_⟩
 have hD : ∀ k, G.D k → G.D k ∧ (w.setRow c (vs.toList.take off ++ x.cells.toList ++ vs.toList.drop (off + i.size)).toArray).heap[k]? = w.heap[k]? := fun k hk => ⟨hk, g1 k fun e => (h.mem.own b _ c hb hmut).2.2 (e ▸ hk)⟩
 have hLR : LR (VR G.D G.σ w) (za cs off v) (vs.toList.take off ++ x.cells.toList ++ vs.toList.drop (off + i.size)) := by
  rw [kB _ _ _ (by omega), hl]
  exact (((LR.of_cellsR e3).take off).append f3).append ((LR.of_cellsR e3).drop (off + i.size))
 exact (hLR.cellsR).mono fun _ _ hh => hh.grow hD (fun _ _ => rfl)
theorem qfc (vs xs : List Value) (p q : Nat) (h : p + xs.length ≤ vs.length) :
  (vs.take p ++ xs ++ vs.drop (p + xs.length)).toArray.getD q undef = if p ≤ q ∧ q < p + xs.length then xs.getD (q - p) undef else vs.toArray.getD q undef := by
 simp only [Array.getD_eq_getD_getElem?, List.getElem?_toArray, List.getElem?_append, List.length_append, List.length_take, List.getElem?_take, List.getElem?_drop, List.getD_eq_getElem?_getD]
 rw [show min p vs.length = p by omega]
 by_cases h1 : q < p
 ·simp [h1, show q < p + xs.length by omega, show ¬ p ≤ q by omega]
 ·by_cases h2 : q < p + xs.length
  ·simp [h1, h2, show p ≤ q by omega]
  ·simp [h1, h2, show p + xs.length + (q - (p + xs.length)) = q by omega]
theorem qhy {size i j : Nat} {i' j' : Nat} (hj : j < size) (hj' : j' < size) (h : i * size + j = i' * size + j') : i = i' ∧ j = j' := by
 have h1 : (i * size + j) / size = i := by rw [Nat.mul_comm, Nat.mul_add_div (by omega), Nat.div_eq_of_lt hj]; omega
 have h2 : (i' * size + j') / size = i' := by rw [Nat.mul_comm, Nat.mul_add_div (by omega), Nat.div_eq_of_lt hj']; omega
 have : i = i' := by rw [← h1, h, h2]
 subst this
 exact ⟨rfl, by omega⟩
theorem N9 (hE : EnvOK P E) (h : Rel E base w0 ok en G s a w) {t : TypeId} {i : TyI} (hi : E.t t = some i) {b off : Nat} {j : Int} {u x : Value} {v v' : AV} (hu : VR G.D G.σ w (.vref b j off) u) (hv : VR G.D G.σ w v x) (hf : jI i.size v = true)
  {e : Kd} {l : List e.T} (hb : s.M[b]? = some (.vec e l)) {y y' : e.T} (hy : lget l j = some y) (hd : ka s.M v = some v') {cs : List AV} (hs : Sx.storeCells (e.cells y) off v' = some cs) (hc' : e.ofCells cs = some y') :
  ∃ w', (Instr.storeAt t u x).run P w = .ok () w' ∧ Rel E base w0 ok en G { s with M := s.M.set b (.vec e (lset l j y')) } a w' := by
 obtain ⟨c, len, cap, sz, hσ, h0, h1, rfl⟩ := hu.vref_inv
 obtain ⟨A, cap', e1, e2, e3, e4⟩ := h.mem.blocks b _ hb
 rw [hσ] at e1
 cases e1
 obtain ⟨vs, ty, e5, e6, e7, e8⟩ := e4 c rfl
 obtain ⟨f1, f2, f3⟩ := GV hf hv
 obtain ⟨rfl, hle⟩ := Qo hs
 have hdr := zZ h.mem hv hd
 have hl : (qZ v).length = i.size := by rw [f3.1]; simpa using f1
 have hl' : (qZ v').length = (qZ v).length := by
  unfold ka at hd
  split at hd
  ·rename_i cs0
   simp only [Option.bind_eq_some_iff, Option.some.injEq] at hd
   obtain ⟨ds, hds, rfl⟩ := hd
   exact (zY h.mem hds).1.symm
  ·rename_i hne
   have : ∀ cs, v' ≠ .agg cs := by
    intro cs hcs
    subst hcs
    unfold ga at hd
    split at hd <;> try (simp at hd; done)
    ·split at hd <;> simp at hd
    ·split at hd <;> simp at hd
   have e1 : qZ v = [v] := by cases v <;> first | rfl | exact absurd rfl (hne _)
   have e2 : qZ v' = [v'] := by cases v' <;> first | rfl | exact absurd rfl (this _)
   rw [e1, e2]; rfl
 have hv'LR : LR (DR G.D w) (qZ v') x.cells.toList := by
  have : jI i.size v' = true := by
   unfold ka at hd
   split at hd
   ·rename_i cs0
    simp only [Option.bind_eq_some_iff, Option.some.injEq] at hd
    obtain ⟨ds, hds, rfl⟩ := hd
    simp only [jI]
    have := hl'
    simp only [qZ] at this hl
    rw [this, hl]; exact Nat.beq_refl _
   ·have hs1 : i.size = 1 := by
     rename_i hne
     cases v <;> first | exact absurd rfl (hne _) | (simp [jI] at hf; done) | exact Nat.eq_of_beq_eq_true hf
    unfold ga at hd
    split at hd <;> first | (simp at hd; done) | (cases hd; rw [hs1]; rfl) | skip
    ·split at hd
     ·cases hd; rw [hs1]; rfl
     ·simp at hd
    ·split at hd
     ·cases hd; rw [hs1]; rfl
     ·simp at hd
  have hx1 : LR (VR G.D (fun _ => SB.none) w) (qZ v') x.cells.toList := (zO this (.data _ _ hdr)).2.1
  refine ⟨hx1.1, fun q h1 h2 => ⟨(hx1.2 q h1 h2).1, ?_⟩⟩
  cases v' with
  | agg cs0 =>
    cases hdr with
    | agg _ xs hl0 ho hh =>
      exact hh q h1 (by simpa [Value.cells] using h2)
  | _ =>
    have hq : q = 0 := by simp [qZ] at h1; exact h1
    subst hq
    have hone : x.oneCell' = true := VR.one (σ := fun _ => SB.none) (.data _ _ hdr) (by intro cs hc; cases hc) (by intro cs hc; cases hc <;> simp [jI] at this) (by intro hc; cases hc <;> simp [jI] at this) (by intro hc; cases hc <;> simp [jI] at this)
    simp only [kW hone]
    exact hdr
 have hjl : j.toNat < l.length := by omega
 have hy' : y = l[j.toNat] := by
  unfold lget at hy
  rw [if_pos h0, List.getElem?_eq_getElem hjl] at hy
  exact (Option.some.inj hy).symm
 have hoff : off + i.size ≤ e.size := by rw [← Kd.cells_length e y]; omega
 have hrow : (j.toNat + 1) * e.size ≤ cap * e.size := Nat.mul_le_mul_right _ (by omega)
 rw [Nat.add_mul, Nat.one_mul] at hrow
 have hpl : j.toNat * e.size + off + i.size ≤ vs.size := by rw [e6]; omega
 refine ⟨_, KF (hE.ty t i hi) e5 f1 f2 hpl, ?_⟩
 generalize hrw : (vs.toList.take (j.toNat * e.size + off) ++ x.cells.toList ++ vs.toList.drop (j.toNat * e.size + off + i.size)).toArray = row
 obtain ⟨g1, g2, g3⟩ := kN w c row
 have hxl : x.cells.toList.length = i.size := by simpa using f1
 have hgetrow : ∀ q, row.getD q undef = if j.toNat * e.size + off ≤ q ∧ q < j.toNat * e.size + off + i.size then x.cells.toList.getD (q - (j.toNat * e.size + off)) undef else vs.getD q undef := by
  intro q
  have := qfc vs.toList x.cells.toList (j.toNat * e.size + off) q (by rw [hxl]; simpa using hpl)
  rw [hxl, hrw] at this
  rw [this]
 have hmut : mutC (G.σ b) (.vec e l) = some c := by rw [hσ]; rfl
 have hD : ∀ k, G.D k → G.D k ∧ (w.setRow c row).heap[k]? = w.heap[k]? := fun k hk => ⟨hk, g1 k fun e' => (h.mem.own b _ c hb hmut).2.2 (e' ▸ hk)⟩
 refine h.write hb hmut g1 g2 g3 ?_ (by intro c' h'; rw [hσ] at h'; cases h'; rfl)
 have hll : (lset l j y').length = l.length := by simp [lset]
 refine ⟨some c, cap, by rw [hll]; exact hσ, by rw [hll]; exact e2, by simp, fun c' hcc => ?_⟩
 cases hcc
 refine ⟨row, ty, setRow_heap w c vs _ ty _ e5, by rw [← hrw]; simp; omega, ?_, ?_⟩
 ·intro u hu
  rw [← hrw] at hu
  simp only [List.mem_append] at hu
  rcases hu with (hu | hu) | hu
  ·exact e7 u (List.mem_of_mem_take hu)
  ·exact f2 u hu
  ·exact e7 u (List.mem_of_mem_drop hu)
 ·intro k hk q hq
  have hkl : k < l.length := by rw [hll] at hk; exact hk
  have hq' : q < e.size := jr hk hq
  refine DR.mono hD ?_
  rw [hgetrow]
  by_cases hkj : k = j.toNat
  ·subst hkj
   have hel : (lset l j y')[j.toNat]'hk = y' := by simp [lset]
   have hc2 := Kd.ofCells_as hc'
   have hfl : (za (e.cells y) off v').length = (e.cells y).length := by
    rw [kB _ _ _ hle]; simp; omega
   have hcell : ∀ (q : Nat) (hq1 : q < (za (e.cells y) off v').length), DR G.D w ((za (e.cells y) off v')[q]) (if j.toNat * e.size + off ≤ j.toNat * e.size + q ∧ j.toNat * e.size + q < j.toNat * e.size + off + i.size then x.cells.toList.getD (j.toNat * e.size + q - (j.toNat * e.size + off)) undef else vs.getD (j.toNat * e.size + q) undef) := by
    intro q hq1
    have hq2 : q < e.size := by rw [← Kd.cells_length e y, ← hfl]; exact hq1
    have hfc := kB _ _ _ hle
    by_cases hin : off ≤ q ∧ q < off + i.size
    ·rw [if_pos (by omega)]
     have hx3 : q - off < (qZ v').length := by omega
     have e9 : (za (e.cells y) off v')[q] = (qZ v')[q - off] := by
      have : (za (e.cells y) off v')[q]? = some ((qZ v')[q - off]) := by
       rw [hfc, List.append_assoc, List.getElem?_append_right (by simp; omega), List.getElem?_append_left (by simp; omega)]
       simp only [List.length_take]
       rw [show min off (e.cells y).length = off by omega, List.getElem?_eq_getElem hx3]
      rw [List.getElem?_eq_getElem hq1] at this
      exact Option.some.inj this
     rw [e9]
     have := (hv'LR.2 (q - off) hx3 (by rw [← hv'LR.1]; exact hx3)).2
     rw [show j.toNat * e.size + q - (j.toNat * e.size + off) = q - off by omega, List.getD_eq_getElem?_getD, List.getElem?_eq_getElem (by rw [← hv'LR.1]; exact hx3)]
     exact this
    ·rw [if_neg (by omega)]
     have hq4 : q < (e.cells y).length := by rw [Kd.cells_length]; exact hq2
     have e9 : (za (e.cells y) off v')[q] = (e.cells y)[q] := by
      have : (za (e.cells y) off v')[q]? = some ((e.cells y)[q]) := by
       rw [hfc, ← List.getElem?_eq_getElem hq4]
       by_cases hlo : q < off
       ·rw [List.append_assoc, List.getElem?_append_left (by simp; omega)]
        simp [hlo]
       ·rw [List.getElem?_append_right (by simp; omega)]
        simp only [List.length_append, List.length_take, List.getElem?_drop]
        congr 1
        omega
      rw [List.getElem?_eq_getElem hq1] at this
      exact Option.some.inj this
     rw [e9]
     subst hy'
     exact e8 j.toNat hjl q hq4
   have hq1 : q < (za (e.cells y) off v').length := by rw [hfl, Kd.cells_length]; exact hq'
   have h10 := hc2.get q hq1 (by rw [Kd.cells_length]; exact hq') _ _ _ (hcell q hq1)
   have e11 : (e.cells ((lset l j y')[j.toNat]'hk))[q] = (e.cells y')[q]'(by rw [Kd.cells_length]; exact hq') := by
    congr 1
    rw [hel]
   rw [e11]
   exact h10
  ·have hne : ¬ (j.toNat * e.size + off ≤ k * e.size + q ∧ k * e.size + q < j.toNat * e.size + off + i.size) := by
    rintro ⟨a1, a2⟩
    have : k * e.size + q = j.toNat * e.size + (k * e.size + q - j.toNat * e.size) := by omega
    have := qhy hq' (by omega) this
    exact hkj this.1
   rw [if_neg hne]
   have hel : (lset l j y')[k]'hk = l[k] := by simp [lset, List.getElem_set]; intro h'; exact absurd h'.symm hkj
   have e11 : (e.cells ((lset l j y')[k]'hk))[q] = (e.cells l[k])[q]'(by rw [Kd.cells_length]; exact hq') := by
    congr 1
    rw [hel]
   rw [e11]
   exact e8 k hkl q _
end Go.Sx
namespace Go.Sx
open Go
open Go.RowKit (Below)
variable {P : Program} {E : Env} {base : Nat} {w0 : GW} {ok : Nat → Prop} {en : Ent} {G G' : Gam} {s : St} {a : Act} {w w' : GW} {R : Type}
theorem NB (hE : EnvOK P E) (h : Rel E base w0 ok en G s a w) {t : TypeId} {i : TyI} (hi : E.t t = some i) {b off c : Nat} {x : Value} {v : AV} (hc : G.σ b = .blk c) (hv : VR G.D G.σ w v x) (hf : jI i.size v = true) {cs : List AV} (hb : s.M[b]? = some (.cells cs)) (hle : off + (qZ v).length ≤ cs.length) :
  ∃ w', (Instr.storeAt t (.pointer (some ((blkA c).add off))) x).run P w = .ok () w' ∧ Rel E base w0 ok en G { s with M := s.M.set b (.cells (za cs off v)) } a w' := by
 have hs : Sx.storeCells cs off v = some (za cs off v) := by
  unfold Sx.storeCells
  split
  ·rename_i vs
   rw [show Nat.ble (off + vs.length) cs.length = true from Nat.ble_eq_true_of_le hle]
   rfl
  ·simp [jI] at hf
  ·simp [jI] at hf
  ·simp [jI] at hf
  ·rename_i h1 h2 h3 h4
   have e : (qZ v).length = 1 := by cases v <;> first | rfl | exact absurd rfl (h1 _)
   have e2 : za cs off v = cs.set off v := by cases v <;> first | rfl | exact absurd rfl (h1 _)
   rw [show Nat.blt off cs.length = true from Nat.ble_eq_true_of_le (by omega), e2]
   rfl
 exact UZ hE h hi (.ptr b off c hc) hv hf hb hs
theorem YP {kk : IntKind} {x : AV} {n : Int} (h : x.asInt kk = some n) : x = .int kk n := by
 unfold AV.asInt at h
 split at h
 ·split at h
  ·rename_i hk; subst hk; cases h; rfl
  ·simp at h
 ·simp at h
theorem KD {kk : IntKind} {j v : Int} : ∀ (q : Nat) (seg : List AV) (l : List Int), vd kk seg = some l → (vc kk j v q seg).length = seg.length ∧ ∀ i (h : i < seg.length) (h' : i < (vc kk j v q seg).length), (vc kk j v q seg)[i] = if j = ((q + i : Nat) : Int) then .int kk v else seg[i]
 | q, [], l, _ => ⟨rfl, fun i h => by simp at h⟩
 | q, x :: r, l, h => by
   simp only [vd, Option.bind_eq_some_iff, Option.some.injEq] at h
   obtain ⟨n, hn, m, hm, rfl⟩ := h
   obtain ⟨h1, h2⟩ := KD (kk := kk) (j := j) (v := v) (q + 1) r m hm
   have hx : x = .int kk n := YP hn
   subst hx
   have e : vc kk j v q (.int kk n :: r) = .int kk (cnd (ieq j q) v n) :: vc kk j v (q + 1) r := rfl
   rw [e]
   refine ⟨by simp [h1], fun i h3 h4 => ?_⟩
   cases i with
   | zero =>
     simp only [List.getElem_cons_zero, Nat.add_zero, cnd, ieq]
     by_cases hj : j = (q : Int)
     ·simp [hj]
     ·simp [hj]
   | succ i =>
     simp only [List.getElem_cons_succ]
     rw [h2 i (by simpa using h3) (by simpa using h4), show q + 1 + i = q + (i + 1) by omega]
theorem NA (hE : EnvOK P E) (h : Rel E base w0 ok en G s a w) {t : TypeId} {i : TyI} (hi : E.t t = some i) {b off n : Nat} {j v : Int} {kk : IntKind} {u x : Value} (hu : VR G.D G.σ w (.pidx b off n j) u) (hv : VR G.D G.σ w (.int kk v) x) (hf : jI i.size (.int kk v) = true) {cs : List AV} (hb : s.M[b]? = some (.cells cs)) (hle : off + n ≤ cs.length) {l : List Int} (hl : vd kk ((cs.drop off).take n) = some l) :
  ∃ w', (Instr.storeAt t u x).run P w = .ok () w' ∧ Rel E base w0 ok en G { s with M := s.M.set b (.cells (cs.take off ++ vc kk j v 0 ((cs.drop off).take n) ++ cs.drop (off + n))) } a w' := by
 obtain ⟨c, hc, h0, h1, rfl⟩ := hu.pidx_inv
 have hlt : off + j.toNat < cs.length := by omega
 have e : cs.take off ++ vc kk j v 0 ((cs.drop off).take n) ++ cs.drop (off + n) = za cs (off + j.toNat) (.int kk v) := by
  obtain ⟨e1, e2⟩ := KD (j := j) (v := v) 0 _ l hl
  have e1' : (vc kk j v 0 ((cs.drop off).take n)).length = n := by rw [e1]; simp; omega
  apply List.ext_getElem?
  intro q
  simp only [za, List.getElem?_append, List.length_append, List.length_take, List.getElem?_take, List.getElem?_drop, List.getElem?_set, e1']
  rw [show min off cs.length = off by omega]
  by_cases hq1 : q < off
  ·simp [hq1, show q < off + n by omega, show ¬ off + j.toNat = q by omega]
  ·by_cases hq2 : q < off + n
   ·simp only [hq1, hq2, if_true, if_false]
    have hq4 : q - off < ((cs.drop off).take n).length := by simp; omega
    rw [List.getElem?_eq_getElem (by rw [e1']; omega), e2 _ hq4 (by rw [e1']; omega)]
    simp only [List.getElem_take, List.getElem_drop, Nat.zero_add]
    by_cases hq3 : off + j.toNat = q
    ·rw [if_pos (by omega), if_pos hq3, if_pos hlt]
    ·rw [if_neg (by omega), if_neg hq3, List.getElem?_eq_getElem (by omega)]
     congr 2
     omega
   ·simp only [hq1, hq2, if_false, show ¬ off + j.toNat = q by omega]
    congr 1
    omega
 rw [e]
 exact NB hE h hi hc hv hf hb (by simp [qZ]; omega)
theorem Z0 {kk : IntKind} {kv : Kd} (n : Int) (z : kv.T) : ∀ (l : List ((Kd.int kk).T × kv.T)) (es : List MapEntry) (q : Nat), es.length = l.length → (∀ i (h : i < l.length) (h' : i < es.length), es[i].key = .int kk l[i].1) →
  ∃ r, Instr.findNow (.int kk) (.int kk n) es q = some r ∧ (match r with | none => gV l n z = l ++ [(n, z)] | some p => ∃ i, i < l.length ∧ p.1 = q + i ∧ gV l n z = l.set i (n, z))
 | [], [], q, _, _ => ⟨none, rfl, rfl⟩
 | [], _ :: _, q, h, _ => by simp at h
 | _ :: _, [], q, h, _ => by simp at h
 | p :: l, e :: es, q, hl, hk => by
   have h0 : e.key = .int kk p.1 := hk 0 (by simp) (by simp)
   by_cases hn : n = p.1
   ·refine ⟨some (q, e.val), ?_, 0, by simp, rfl, ?_⟩
    ·simp only [Instr.findNow, h0, ja, decide_eq_true hn]
    ·simp [gV, Kd.beq, hn]
   ·obtain ⟨r, h1, h2⟩ := Z0 n z l es (q + 1) (by simpa using hl) (fun i h h' => hk (i + 1) (by simpa using h) (by simpa using h'))
    have e2 : gV (kk := .int kk) (kv := kv) (p :: l) n z = p :: gV (kk := .int kk) (kv := kv) l n z := by
     simp [gV, Kd.beq, hn]
    refine ⟨r, ?_, ?_⟩
    ·simp only [Instr.findNow, h0, ja, decide_eq_false hn]
     exact h1
    ·rw [e2]
     cases r with
     | none => rw [h2]; rfl
     | some p' =>
       obtain ⟨i, a, b, c⟩ := h2
       exact ⟨i + 1, by simpa using a, by omega, by rw [c]; rfl⟩
theorem R3 {kk : IntKind} {n : Int} : ∀ (ks : List AV) (es : List MapEntry), es.length = ks.length → (∀ i (h : i < ks.length) (h' : i < es.length), VR G.D G.σ w ks[i] es[i].key) → (ks.all (G6 kk n)) = true →
  ∀ e ∈ es, ∃ m, e.key = .int kk m ∧ m ≠ n
 | _, [], _, _, _ => fun e he => by simp at he
 | [], _ :: _, h, _, _ => by simp at h
 | k :: ks, e :: es, hl, hk, ha => by
   simp only [List.all_cons, Bool.and_eq_true] at ha
   have h0 := hk 0 (by simp) (by simp)
   simp only [List.getElem_cons_zero] at h0
   have ha1 := ha.1
   unfold G6 at ha1
   intro e' he'
   rcases List.mem_cons.1 he' with rfl | he'
   ·split at ha1
    ·rename_i k' m
     simp only [Bool.and_eq_true, decide_eq_true_eq, bnot, Bool.not_eq_true', decide_eq_false_iff_not] at ha1
     obtain ⟨rfl, hne⟩ := ha1
     exact ⟨m, h0.int_inv, fun hh => hne hh.symm⟩
    ·simp at ha1
   ·exact R3 ks es (by simpa using hl) (fun i h h' => hk (i + 1) (by simpa using h) (by simpa using h')) ha.2 e' he'
theorem Qc {kk : IntKind} {n : Int} : ∀ (es : List MapEntry) (q : Nat), (∀ e ∈ es, ∃ m, e.key = .int kk m ∧ m ≠ n) → Instr.findNow (.int kk) (.int kk n) es q = some none
 | [], q, _ => rfl
 | e :: es, q, h => by
   obtain ⟨m, hm, hne⟩ := h e (by simp)
   simp only [Instr.findNow, hm, ja, decide_eq_false (fun hh : n = m => hne hh.symm)]
   exact Qc es (q + 1) fun e' he' => h e' (List.mem_cons_of_mem _ he')
theorem vS {mt kt et : TypeId} {kk : IntKind} (hm : P.underlying mt = some (.map kt et)) (hd : P.underlying kt = some (.int kk)) {c : Nat} {es : Array MapEntry} {clock : Nat} (hb : w.heap[c]? = some (.map es clock)) {n : Int} {r : Option (Nat × Value)}
  (hf : Instr.findNow (.int kk) (.int kk n) es.toList 0 = some r) (hkeys : ∀ p, r = some p → ∃ h : p.1 < es.size, es[p.1].key = .int kk n) (v : Value) :
  (Instr.mapUpdate mt (.map (some c)) (.int kk n) v).run P w = .ok () { w with heap := w.heap.setIfInBounds c (match r with
   | some p => .map (es.modify p.1 fun e => { e with key := .int kk n, val := v }) clock
   | none => .map (es.push { key := .int kk n, val := v, born := clock }) (clock + 1)) } := by
 unfold Instr.mapUpdate
 simp only [Sem.run_bind, run_underlying hm w, Result.andThen_ok, MapKept.run_getObj_map hb, MapKept.run_checkKey (d := .int kk) (k := .int kk n) hd rfl, MapKept.run_findKey hd hf]
 cases r with
 | none => exact MapKept.run_setObj_map _ hb
 | some p =>
   obtain ⟨hlt, hk⟩ := hkeys p rfl
   have hs : (Instr.keyThatStays (((es[p.1]?).map (·.key)).getD (.int kk n)) (.int kk n)).run P w = .ok (.int kk n) w := by
    rw [Array.getElem?_eq_getElem hlt, Option.map_some, Option.getD_some, hk]
    simp [Instr.keyThatStays, Instr.sameBits]
   simp only [Sem.run_bind, hs, Result.andThen_ok]
   exact MapKept.run_setObj_map _ hb
theorem gP (w : GW) (c : Nat) (o : Obj) : (∀ k, k ≠ c → ({ w with heap := w.heap.setIfInBounds c o } : GW).heap[k]? = w.heap[k]?) ∧ ({ w with heap := w.heap.setIfInBounds c o } : GW).heap.size = w.heap.size ∧ (({ w with heap := w.heap.setIfInBounds c o } : GW).os = w.os ∧ ({ w with heap := w.heap.setIfInBounds c o } : GW).tape = w.tape ∧ ({ w with heap := w.heap.setIfInBounds c o } : GW).output = w.output) :=
 ⟨fun k hk => by simp [Ne.symm hk], by simp, rfl, rfl, rfl⟩
theorem qdc (hE : EnvOK P E) (h : Rel E base w0 ok en G s a w) {mt kt et : TypeId} {kk : IntKind} (hm : P.underlying mt = some (.map kt et)) (hd : P.underlying kt = some (.int kk)) {b : Nat} {u : Value} (hu : VR G.D G.σ w (.mref b) u) {kv : Kd} {l : List ((Kd.int kk).T × kv.T)} (hb : s.M[b]? = some (.map (.int kk) kv l)) {n : Int} {x : Value} {z : kv.T} (hx : DR G.D w (kv.of z) x) :
  ∃ w', (Instr.mapUpdate mt u (.int kk n) x).run P w = .ok () w' ∧ Rel E base w0 ok en G { s with M := s.M.set b (.map (.int kk) kv (gV l n z)) } a w' := by
 obtain ⟨c, hc, rfl⟩ := hu.mref_inv
 obtain ⟨c', es, clock, e1, e2, e3, e4⟩ := h.mem.blocks b _ hb
 rw [hc] at e1
 cases e1
 have hkey : ∀ i (h : i < l.length) (h' : i < es.toList.length), es.toList[i].key = .int kk l[i].1 := fun i h h' => by
  have := (e4 i h (by simpa using h')).1
  generalize hk : es.toList[i].key = y
  have hk2 : es[i].key = y := by simpa using hk
  rw [hk2] at this
  cases this; rfl
 obtain ⟨r, hf, hr⟩ := Z0 (kv := kv) n z l es.toList 0 (by simpa using e3) hkey
 obtain ⟨r2, hf2, hr2⟩ := QE (kv := kv) n l es.toList 0 (by simpa using e3) hkey
 rw [hf] at hf2
 cases hf2
 have hlt : c < w.heap.size := (Array.getElem?_eq_some_iff.1 e2).1
 have hkeys : ∀ p, r = some p → ∃ h : p.1 < es.size, es[p.1].key = .int kk n := by
  intro p hp
  subst hp
  obtain ⟨i, a1, a2, _, _, a4, a5⟩ := hr2
  have hpi : p.1 = i := by omega
  have := hkey i a1 a2
  rw [a5] at this
  subst hpi
  exact ⟨by simpa using a2, by simpa using this⟩
 refine ⟨_, vS hm hd e2 hf hkeys x, ?_⟩
 obtain ⟨g1, g2, g3⟩ := gP w c (match r with
   | some p => .map (es.modify p.1 fun e => { e with key := .int kk n, val := x }) clock
   | none => .map (es.push { key := .int kk n, val := x, born := clock }) (clock + 1))
 have hmut : mutC (G.σ b) (.map (.int kk) kv l) = some c := by rw [hc]; rfl
 refine h.write hb hmut g1 g2 g3 ?_ (by intro c' h'; rw [hc] at h'; cases h'; rfl)
 have hD : ∀ k, G.D k → G.D k ∧ ({ w with heap := w.heap.setIfInBounds c (match r with
   | some p => .map (es.modify p.1 fun e => { e with key := .int kk n, val := x }) clock
   | none => .map (es.push { key := .int kk n, val := x, born := clock }) (clock + 1)) } : GW).heap[k]? = w.heap[k]? := fun k hk => ⟨hk, g1 k fun e' => (h.mem.own b _ c hb hmut).2.2 (e' ▸ hk)⟩
 cases r with
 | none =>
   rw [hr]
   refine ⟨c, _, _, hc, by simp [hlt]; exact ⟨rfl, rfl⟩, by simp [e3], fun i h1 h2 => ?_⟩
   simp only [List.getElem_append, Array.getElem_push]
   by_cases hi : i < l.length
   ·simp only [hi, dite_true, show i < es.size by omega]
    exact ⟨(e4 i hi (by omega)).1.mono hD, (e4 i hi (by omega)).2.mono hD⟩
   ·have : i = l.length := by simp at h1; omega
    subst this
    simp only [Nat.lt_irrefl, dite_false, show ¬ l.length < es.size by omega, Nat.sub_self, List.getElem_singleton]
    exact ⟨(DR.int kk n : DR G.D w (.int kk n) (.int kk n)).mono hD, hx.mono hD⟩
 | some p =>
   obtain ⟨i, a1, a2, a3⟩ := hr
   obtain ⟨p1, p2⟩ := p
   have hpi : p1 = i := by simpa using a2
   subst hpi
   rw [a3]
   refine ⟨c, _, _, hc, by simp [hlt]; exact ⟨rfl, rfl⟩, by simp [e3], fun q h1 h2 => ?_⟩
   simp only [List.getElem_set, Array.getElem_modify]
   by_cases hq : p1 = q
   ·subst hq
    simp only [if_true]
    exact ⟨(DR.int kk n : DR G.D w (.int kk n) (.int kk n)).mono hD, hx.mono hD⟩
   ·simp only [hq, if_false]
    simp only [List.length_set] at h1
    exact ⟨(e4 q h1 (by omega)).1.mono hD, (e4 q h1 (by omega)).2.mono hD⟩
theorem map_any (hE : EnvOK P E) (h : Rel E base w0 ok en G s a w) {mt kt et : TypeId} {kk : IntKind} (hm : P.underlying mt = some (.map kt et)) (hd : P.underlying kt = some (.int kk)) {b : Nat} {u : Value} (hu : VR G.D G.σ w (.mref b) u) {ks vs : List AV} (hb : s.M[b]? = some (.amap ks vs)) {n : Int} {x : Value} {z : AV} (hx : VR G.D G.σ w z x) (hnew : (ks.all (G6 kk n)) = true) :
  ∃ w', (Instr.mapUpdate mt u (.int kk n) x).run P w = .ok () w' ∧ Rel E base w0 ok en G { s with M := s.M.set b (.amap (ks ++ [.int kk n]) (vs ++ [z])) } a w' := by
 obtain ⟨c, hc, rfl⟩ := hu.mref_inv
 obtain ⟨c', es, clock, l, kk0, e1, e2, ⟨p1, p2, p3⟩, e3, e3', e4, e5⟩ := h.mem.blocks b _ hb
 rw [hc] at e1
 cases e1
 have hnl := R3 (G := G) (w := w) (kk := kk) (n := n) ks l e3 e4 hnew
 have hf := Qc (kk := kk) (n := n) es.toList 0 (fun e he => hnl e (p1.mem_iff.2 he))
 have hlt : c < w.heap.size := (Array.getElem?_eq_some_iff.1 e2).1
 refine ⟨_, vS hm hd e2 hf (fun p hp => by cases hp) x, ?_⟩
 obtain ⟨g1, g2, g3⟩ := gP w c (.map (es.push { key := .int kk n, val := x, born := clock }) (clock + 1))
 have hmut : mutC (G.σ b) (.amap ks vs) = some c := by rw [hc]; rfl
 refine h.write hb hmut g1 g2 g3 ?_ (by intro c' h'; rw [hc] at h'; cases h'; rfl)
 have hD : ∀ k, G.D k → G.D k ∧ ({ w with heap := w.heap.setIfInBounds c (.map (es.push { key := .int kk n, val := x, born := clock }) (clock + 1)) } : GW).heap[k]? = w.heap[k]? := fun k hk => ⟨hk, g1 k fun e' => (h.mem.own b _ c hb hmut).2.2 (e' ▸ hk)⟩
 refine ⟨c, _, _, l ++ [{ key := .int kk n, val := x, born := clock }], kk, hc, by simp [hlt]; exact ⟨rfl, rfl⟩, ⟨by rw [Array.toList_push]; exact p1.append_right _, fun e he => ?_, ?_⟩, by simp [e3], by simp [e3'], fun i h1 h2 => ?_, fun i h1 h2 => ?_⟩
 ·rcases List.mem_append.1 he with he | he
  ·obtain ⟨m, hm', _⟩ := hnl e he
   exact ⟨m, hm'⟩
  ·simp only [List.mem_singleton] at he
   subst he
   exact ⟨n, rfl⟩
 ·rw [List.map_append, List.nodup_append]
  refine ⟨p3, by simp, fun a ha b hb' => ?_⟩
  obtain ⟨e, he, rfl⟩ := List.mem_map.1 ha
  obtain ⟨m, hm', hne⟩ := hnl e he
  simp only [List.map_cons, List.map_nil, List.mem_singleton] at hb'
  subst hb'
  rw [hm']
  intro heq
  cases heq
  exact hne rfl
 ·simp only [List.getElem_append]
  by_cases hi : i < ks.length
  ·simp only [hi, dite_true, show i < l.length by omega]
   exact (e4 i hi (by omega)).grow hD (fun _ _ => rfl)
  ·have : i = ks.length := by simp at h1; omega
   subst this
   simp only [Nat.lt_irrefl, dite_false, show ¬ ks.length < l.length by omega, Nat.sub_self, List.getElem_singleton, e3]
   exact .data _ _ (.int kk n)
 ·simp only [List.getElem_append]
  by_cases hi : i < vs.length
  ·simp only [hi, dite_true, show i < l.length by omega]
   exact (e5 i hi (by omega)).grow hD (fun _ _ => rfl)
  ·have : i = vs.length := by simp at h1; omega
   subst this
   simp only [Nat.lt_irrefl, dite_false, show ¬ vs.length < l.length by omega, Nat.sub_self, List.getElem_singleton, e3']
   exact hx.grow hD (fun _ _ => rfl)
end Go.Sx
namespace Go.Sx
open Go
open Go.RowKit (Below)
variable {P : Program} {E : Env} {base : Nat} {w0 : GW} {ok : Nat → Prop} {en : Ent} {G G' : Gam} {s : St} {a : Act} {w w' : GW} {R : Type} {M : Mem}
structure Src (P : Program) (D : Nat → Prop) (w : GW) (kd : Kd) (x : Value) (l2 : List kd.T) (news : List Value) : Prop where
 len : ∀ w', (Builtin.lenOf x).run P w' = .ok l2.length w'
 first : ∀ n, n ≤ l2.length → ∀ w' : GW, w'.heap = w.heap → (Builtin.firstCells kd.size n x).run P w' = .ok (news.take (n * kd.size)).toArray w'
 size : news.length = l2.length * kd.size
 one : ∀ v ∈ news, v.oneCell' = true
 get : ∀ i (h : i < l2.length) j (hj : j < (kd.cells l2[i]).length), DR D w ((kd.cells l2[i])[j]) (news.getD (i * kd.size + j) undef)
theorem ZS {D : Nat → Prop} {kd : Kd} {l2 : List kd.T} {A : Option Addr} {cap : Nat} (hA : ∀ i (h : i < l2.length), ∃ a, A = some a ∧ At (DR D w) w (a.add (i * kd.size)) (kd.cells l2[i])) : ∃ news, Src P D w kd (.slice A l2.length cap) l2 news := by
 cases A with
 | none =>
   have : l2 = [] := by
    cases l2 with
    | nil => rfl
    | cons y r => obtain ⟨a, h, _⟩ := hA 0 (by simp); cases h
   subst this
   exact ⟨[], fun _ => rfl, fun n hn w' _ => by simp [Builtin.firstCells], by simp, by simp, fun i h => by simp at h⟩
 | some ad =>
   let f : Nat → Value := fun q => (w.cell? (ad.add q)).getD undef
   have hf : ∀ i (h : i < l2.length) j (hj : j < (kd.cells l2[i]).length), w.cell? (ad.add (i * kd.size + j)) = some (f (i * kd.size + j)) ∧ (f (i * kd.size + j)).oneCell' = true ∧ DR D w ((kd.cells l2[i])[j]) (f (i * kd.size + j)) := by
    intro i h j hj
    obtain ⟨a, e, hat⟩ := hA i h
    cases e
    obtain ⟨x, h1, h2, h3⟩ := hat j hj
    rw [jh] at h1
    have : f (i * kd.size + j) = x := by simp [f, h1]
    rw [this]
    exact ⟨h1, h2, h3⟩
   have hq : ∀ q, q < l2.length * kd.size → w.cell? (ad.add q) = some (f q) ∧ (f q).oneCell' = true := by
    intro q hq
    have hs : 0 < kd.size := by rcases Nat.eq_zero_or_pos kd.size with h | h; · rw [h] at hq; simp at hq
                                ·exact h
    have hi : q / kd.size < l2.length := by rw [Nat.div_lt_iff_lt_mul hs]; exact hq
    have hj := Nat.mod_lt q hs
    have e : q / kd.size * kd.size + q % kd.size = q := by rw [Nat.mul_comm]; exact Nat.div_add_mod q kd.size
    have := hf (q / kd.size) hi (q % kd.size) (by rw [Kd.cells_length]; exact hj)
    rw [e] at this
    exact ⟨this.1, this.2.1⟩
   refine ⟨(List.range (l2.length * kd.size)).map f, fun _ => rfl, fun n hn w' hw' => ?_, by simp, ?_, fun i h j hj => ?_⟩
   ·have hle : n * kd.size ≤ l2.length * kd.size := Nat.mul_le_mul_right _ hn
    have := run_loadCells (P := P) w' ad (n * kd.size) f (fun j hj => by
     have := (hq j (by omega)).1
     unfold World.cell? at this ⊢
     rw [hw']; exact this)
    simp only [Builtin.firstCells]
    rw [this]
    congr 2
    rw [← List.map_take, List.take_range, Nat.min_eq_left hle]
   ·intro v hv
    simp only [List.mem_map, List.mem_range] at hv
    obtain ⟨q, hq', rfl⟩ := hv
    exact (hq q hq').2
   ·have hj' : j < kd.size := jr h hj
    have hlt : i * kd.size + j < l2.length * kd.size := by
     have : (i + 1) * kd.size ≤ l2.length * kd.size := Nat.mul_le_mul_right _ (by omega)
     rw [Nat.add_mul] at this; omega
    simp only [List.getD_eq_getElem?_getD, List.getElem?_map, List.getElem?_range hlt, Option.map_some, Option.getD_some]
    exact (hf i h j hj).2.2
theorem dr_at {D : Nat → Prop} {e : Kd} {l : List e.T} {A : Option Addr} {n cap : Nat} (h : DR D w (.sl e l) (.slice A n cap)) : n = l.length ∧ ∀ i (h : i < l.length), ∃ a, A = some a ∧ At (DR D w) w (a.add (i * e.size)) (e.cells l[i]) := by
 generalize hx : Value.slice A n cap = x at h
 cases h with
 | sl _ _ A' cap' cv hcap hA hone hr =>
   injection hx with h1 h2 h3
   subst h1
   refine ⟨h2, fun i hi => ?_⟩
   obtain ⟨a, ha, hD, hc⟩ := hA i hi
   refine ⟨a, ha, fun j hj => ?_⟩
   have hj' := jr hi hj
   exact ⟨cv i j, by rw [jh]; exact hc j hj', hone i j hi hj', hr i hi j hj⟩
theorem src_str {D : Nat → Prop} (st : Str) : ∃ news, Src P D w (.int .u8) (.string ⟨st.toArray⟩) (u8s st) news := by
 refine ⟨st.map fun b => .int .u8 (b.toNat : Int), fun w' => ?_, fun n hn w' _ => ?_, by simp [u8s, Kd.size], ?_, fun i h j hj => ?_⟩
 ·simp [Builtin.lenOf, u8s, ByteArray.size]
 ·simp only [Builtin.firstCells, Kd.size, Nat.mul_one, Sem.run_pure]
  congr 1
  simp [ByteArray.data_extract]
 ·intro v hv
  simp only [List.mem_map] at hv
  obtain ⟨b, _, rfl⟩ := hv
  rfl
 ·have hj0 : j = 0 := by simp [Kd.cells] at hj; exact hj
  subst hj0
  have hi : i < st.length := by simpa [u8s] using h
  simp only [Kd.size, Nat.mul_one, Nat.add_zero, List.getD_eq_getElem?_getD, List.getElem?_map, List.getElem?_eq_getElem hi, Option.map_some, Option.getD_some, Kd.cells, List.getElem_cons_zero]
  have : (u8s st)[i] = (st[i].toNat : Int) := by simp [u8s]
  rw [this]
  exact .int _ _
theorem zL (hm : MemOK base ok G w M) {kd : Kd} {y : AV} {x : Value} (hv : VR G.D G.σ w y x) {l2 : List kd.T} (h : zo M kd y = some l2) : ∃ news, Src P G.D w kd x l2 news := by
 have own : ∀ {b c len cap sz : Nat} {A : Option Nat} {l : List kd.T}, (M[b]? = some (.vec kd l) ∨ M[b]? = some (.fvec kd l)) → G.σ b = .hdr A len cap sz → len = l.length ∧ sz = kd.size ∧ ∀ i (h : i < l.length), ∃ c, A = some c ∧ At (DR G.D w) w ((blkA c).add (i * kd.size)) (kd.cells l[i]) := by
  intro b c len cap sz A l hb hσ
  cases A with
  | some c =>
    obtain ⟨h1, h2, h3⟩ := At.of_vec hm hb hσ
    exact ⟨h1, h2, fun i hi => ⟨c, rfl, h3 i hi⟩⟩
  | none =>
    rcases hb with hb | hb
    ·obtain ⟨A', cap', e1, e2, e3, e4⟩ := hm.blocks b _ hb
     rw [hσ] at e1; cases e1
     have := (e3 rfl).1
     subst this
     exact ⟨rfl, rfl, fun i hi => by simp at hi⟩
    ·obtain ⟨A', cap', e1, e2⟩ := hm.blocks b _ hb
     rw [hσ] at e1; cases e1
     obtain ⟨_, h2⟩ := dr_at e2
     refine ⟨rfl, rfl, fun i hi => ?_⟩
     obtain ⟨a, ha, _⟩ := h2 i hi
     cases ha
 have vec : ∀ {b : Nat} {l : List kd.T}, (M[b]? = some (.vec kd l) ∨ M[b]? = some (.fvec kd l)) → VR G.D G.σ w (.vec b) x → ∃ news, Src P G.D w kd x l news := by
  intro b l hb hv
  obtain ⟨A, len, cap, sz, hσ, rfl⟩ := hv.vec_inv
  obtain ⟨e1, e2, e3⟩ := own (c := 0) hb hσ
  subst e1
  exact ZS fun i hi => by obtain ⟨c, hc, h⟩ := e3 i hi; subst hc; exact ⟨blkA c, rfl, h⟩
 have vsl : ∀ {b : Nat} {lo hi : Int} {l : List kd.T}, (M[b]? = some (.vec kd l) ∨ M[b]? = some (.fvec kd l)) → VR G.D G.σ w (.vsl b lo hi) x → ∃ news, Src P G.D w kd x (ldrop (ltake l hi) lo) news := by
  intro b lo hi l hb hv
  obtain ⟨A, len, cap, sz, B, cap', hσ, h0, h01, hlen, hB, hc, rfl⟩ := hv.vsl_inv
  obtain ⟨e1, e2, e3⟩ := own (c := 0) hb hσ
  subst e1
  have hll : (ldrop (ltake l hi) lo).length = (hi - lo).toNat := by simp [ldrop, ltake]; omega
  rw [← hll]
  refine ZS fun i hi' => ?_
  rw [hll] at hi'
  obtain ⟨c, hcA, hat⟩ := e3 (lo.toNat + i) (by omega)
  subst hcA
  refine ⟨(blkA c).add (lo.toNat * sz), by rw [hB (by omega)]; rfl, ?_⟩
  rw [e2, jh, ← Nat.add_mul]
  have : (ldrop (ltake l hi) lo)[i]'(by rw [hll]; exact hi') = l[lo.toNat + i] := by simp [ldrop, ltake]
  rw [this]
  exact hat
 unfold zo at h
 split at h
 ·split at h
  ·rename_i b _ e' l hb
   split at h
   ·rename_i he; subst he; cases h; exact vec (.inl hb) hv
   ·simp at h
  ·rename_i b _ e' l hb
   split at h
   ·rename_i he; subst he; cases h; exact vec (.inr hb) hv
   ·simp at h
  ·simp at h
 ·split at h
  ·rename_i b lo hi _ e' l hb
   split at h
   ·rename_i he; subst he; cases h; exact vsl (.inl hb) hv
   ·simp at h
  ·rename_i b lo hi _ e' l hb
   split at h
   ·rename_i he; subst he; cases h; exact vsl (.inr hb) hv
   ·simp at h
  ·simp at h
 ·rename_i st
  split at h
  ·rename_i he; subst he; cases h
   rw [hv.str_inv]
   exact src_str st
  ·simp at h
 ·have has := jg h
  have hdr : DR G.D w (.sl kd l2) x := by
   cases hv with
   | data _ _ hd => exact has _ _ _ hd
   | _ => simp [AV.asSl] at h
  obtain ⟨A, cap, hcap, rfl⟩ := hdr.sl_inv
  exact ZS (dr_at hdr).2
end Go.Sx
namespace Go.Sx
open Go
open Go.RowKit (Below)
variable {P : Program} {E : Env} {base : Nat} {w0 : GW} {ok : Nat → Prop} {en : Ent} {G G' : Gam} {s : St} {a : Act} {w w' : GW} {R : Type} {M : Mem}
theorem Dg {i b : Nat} (h : i ≠ b) : Nat.beq i b = false := by
 cases e : Nat.beq i b with
 | false => rfl
 | true => exact absurd (Nat.eq_of_beq_eq_true e) h
def KJ : TypeDesc → Bool
 | .slice _ => true
 | .string => true
 | _ => false
theorem Vf {t u ty e : TypeId} {i : TypeInfo} (ht : P.underlying t = some (.slice e)) {du : TypeDesc} (hu : P.underlying u = some du) (hdu : KJ du = true) (hi : P.info? e = some i)
  {c sLen sCap n : Nat} {x : Value} {news : List Value} (hlen : (Builtin.lenOf x).run P w = .ok n w) (hfirst : (Builtin.firstCells i.size n x).run P w = .ok news.toArray w) (hroom : sLen + n ≤ sCap)
  {vs : Array Value} {bt : TypeId} (hb : w.heap[c]? = some (.cells vs bt (0, 0))) (hfit : sLen * i.size + news.length ≤ vs.size) (h1 : ∀ v ∈ news, v.oneCell' = true) :
  (Builtin.append_ #[t, u] ty #[.slice (some (blkA c)) sLen sCap, x]).run P w = .ok (.slice (some (blkA c)) (sLen + n) sCap) (w.setRow c (vs.toList.take (sLen * i.size) ++ news ++ vs.toList.drop (sLen * i.size + news.length)).toArray) := by
 have hst := run_storeCells_at P c (sLen * i.size) bt news 0 vs w hb (by simpa using hfit) h1
 have e2 : (blkA c).add (sLen * i.size) = ⟨c, sLen * i.size, none⟩ := by rw [blkA, add_lit]; simp
 simp only [Nat.add_zero] at hst
 cases du <;> simp [KJ] at hdu <;>
  simp [Builtin.append_, run_underlying ht, run_underlying hu, sizeOf, typeInfo, hi, hlen, hfirst, hroom, e2, hst]
theorem Qp {t u ty e : TypeId} {i : TypeInfo} (ht : P.underlying t = some (.slice e)) {du : TypeDesc} (hu : P.underlying u = some du) (hdu : KJ du = true) (hi : P.info? e = some i)
  {sLen sCap n : Nat} {x : Value} {news : List Value} (hlen : (Builtin.lenOf x).run P w = .ok n w) (hfirst : (Builtin.firstCells i.size n x).run P w = .ok news.toArray w) (hroom : sLen + n ≤ sCap) :
  (Builtin.append_ #[t, u] ty #[.slice none sLen sCap, x]).run P w = .ok (.slice none (sLen + n) sCap) w := by
 cases du <;> simp [KJ] at hdu <;>
  simp [Builtin.append_, run_underlying ht, run_underlying hu, sizeOf, typeInfo, hi, hlen, hfirst, hroom]
theorem Qq {t u ty e : TypeId} {i : TypeInfo} {z : Value} (ht : P.underlying t = some (.slice e)) {du : TypeDesc} (hu : P.underlying u = some du) (hdu : KJ du = true) (hi : P.info? e = some i) (hz : i.zero = some z) (hby : 0 < i.bytes)
  {A : Option Addr} {sLen sCap n : Nat} {x : Value} {olds news : List Value} (hlen : (Builtin.lenOf x).run P w = .ok n w) (hfirst : (Builtin.firstCells i.size n x).run P w.drew = .ok news.toArray w.drew)
  (hold : (Builtin.firstCells i.size sLen (.slice A sLen sCap)).run P w.drew = .ok olds.toArray w.drew) (hgrow : sCap < sLen + n) (hfit : (sLen + n) * i.bytes ≤ 140737488355328) :
  (Builtin.append_ #[t, u] ty #[.slice A sLen sCap, x]).run P w = .ok (.slice (some (blkA w.heap.size)) (sLen + n) (grownCap w (sLen + n) sCap e))
    (w.drew.alloc (.cells (olds.toArray ++ news.toArray ++ Builtin.zeroCells z.cells (grownCap w (sLen + n) sCap e - (sLen + n))) e)) := by
 have hn : ¬ (sLen + n ≤ sCap) := by omega
 have hby' : ¬ i.bytes = 0 := by omega
 have h48' : ¬ (281474976710656 < Builtin.nextslicecap (sLen + n) sCap * i.bytes) := by
  have := growslice_fits hgrow hfit
  omega
 cases du <;> simp [KJ] at hdu <;>
 ·simp [Builtin.append_, run_underlying ht, run_underlying hu, sizeOf, typeInfo, zeroValue, hi, hz, hlen, hn, hby', h48', Question.forced, hfirst, hold, newRow, grownCap, blkA]
  try (congr 2; apply Array.ext'; simp [List.append_assoc])
theorem ZW {t u ty e : TypeId} {i : TypeInfo} {z : Value} {kk : IntKind} (ht : P.underlying t = some (.slice e)) (hu : P.underlying u = some (.int kk)) (hi : P.info? e = some i) (hz : i.zero = some z) (hby : 0 < i.bytes) (hsz : 0 < i.size)
  {n : Nat} (hpos : 0 < n) (hfit : n * i.bytes ≤ 140737488355328) :
  (Builtin.append_ #[t, u] ty #[.slice none 0 0, .int .i64 n]).run P w = .ok (.slice (some (blkA w.heap.size)) n (grownCap w n 0 e))
    (w.drew.alloc (.cells (Builtin.zeroCells z.cells n ++ Builtin.zeroCells z.cells (grownCap w n 0 e - n)) e)) := by
 have hn63 : n ≤ 140737488355328 := by
  have : n * 1 ≤ n * i.bytes := Nat.mul_le_mul_left _ hby
  omega
 have hw : IntKind.i64.wrap (n : Int) = n := IntWalk.i64_in _ ⟨by omega, by omega⟩
 have hl0 : ¬ ((n : Int) < 0) := by omega
 have hl48 : ¬ ((n : Int) * (i.bytes : Int) > 2 ^ 48) := by
  have : ((n * i.bytes : Nat) : Int) ≤ ((140737488355328 : Nat) : Int) := Int.ofNat_le.2 hfit
  rw [Int.natCast_mul] at this
  omega
 have hns : ¬ (n * i.size = 0) := by
  have := Nat.mul_pos hpos hsz
  omega
 have hroom : ¬ (0 + n ≤ 0) := by omega
 have hby' : ¬ i.bytes = 0 := by omega
 have h48' : ¬ (281474976710656 < Builtin.nextslicecap n 0 * i.bytes) := by
  have := growslice_fits (old := 0) hpos hfit
  omega
 have hmax : ¬ ((n : Int) > IntKind.i64.max) := by
  have : IntKind.i64.max = 9223372036854775807 := rfl
  omega
 simp [Builtin.append_, run_underlying ht, run_underlying hu, sizeOf, typeInfo, zeroValue, hi, hz, asInt, asIntOf, hw, hl0, hl48, hns, hroom, hby', h48', hmax, Question.forced, Builtin.firstCells, newRow, grownCap, blkA]
 rw [if_neg (by omega), if_neg (by omega), if_neg (by omega)]
theorem jp (b : Nat) : ∀ (cs : List AV), (AV.kills b cs).length = cs.length ∧ ∀ i (h : i < cs.length) (h' : i < (AV.kills b cs).length), (AV.kills b cs)[i] = AV.kill b cs[i]
 | [] => ⟨rfl, fun i h => by simp at h⟩
 | v :: r => by
   obtain ⟨h1, h2⟩ := jp b r
   have e : AV.kills b (v :: r) = AV.kill b v :: AV.kills b r := by rw [AV.kills]
   rw [e]
   refine ⟨by simp [h1], fun i h h' => ?_⟩
   cases i with
   | zero => rfl
   | succ i => exact h2 i (by simpa using h) (by simpa using h')
theorem qdl {D : Nat → Prop} {b : Nat} {v : AV} {x : Value} (h : DR D w v x) : DR D w (AV.kill b v) x := by
 induction h with
 | agg cs vs hl ho hh ih =>
   obtain ⟨h1, h2⟩ := jp b cs
   rw [AV.kill]
   exact .agg _ vs (by omega) ho fun i a1 a2 => by rw [h2 i (by omega) a1]; exact ih i (by omega) a2
 | tup cs vs hl hh ih =>
   obtain ⟨h1, h2⟩ := jp b cs
   rw [AV.kill]
   exact .tup _ vs (by omega) fun i a1 a2 => by rw [h2 i (by omega) a1]; exact ih i (by omega) a2
 | int k n => exact .int k n
 | bool c => exact .bool c
 | str c => exact .str c
 | sl e l A cap cv h1 h2 h3 h4 => exact .sl e l A cap cv h1 h2 h3 h4
 | slc e l A cv h2 h3 h4 => exact .slc e l A cv h2 h3 h4
 | nilsl => exact .nilsl
 | nilp => exact .nilp
 | nilf => exact .nilf
 | nilm => exact .nilm
 | nili => exact .nili
 | err t v => exact .err t v
theorem gX {D : Nat → Prop} {σ σ' : Nat → SB} {b : Nat} {A : Option Nat} {len cap sz : Nat} (hb : σ b = .hdr A len cap sz) (hσ : ∀ i, i ≠ b → σ' i = σ i) (hD : ∀ c, D c → D c ∧ w'.heap[c]? = w.heap[c]?) {v : AV} {x : Value} (h : VR D σ w v x) : VR D σ' w' (AV.kill b v) x := by
 have hcell : ∀ (a : Addr) (n : Nat), D a.block → w'.cell? (a.add n) = w.cell? (a.add n) := by
  intro a n h
  have := (hD _ h).2
  unfold World.cell?
  rw [add_block, this]
 have blk : ∀ {i c : Nat}, σ i = .blk c → σ' i = .blk c := by
  intro i c hi
  rw [hσ i (fun e => by rw [e, hb] at hi; cases hi)]; exact hi
 induction h with
 | data v x hd => exact .data _ _ ((qdl hd).mono hD)
 | junk x => exact .junk x
 | undef => exact .undef
 | ptr i off c hi => exact .ptr i off c (blk hi)
 | pidx i off n j c hi h0 h1 => exact .pidx i off n j c (blk hi) h0 h1
 | dref cs off a cv hd hc => exact .dref cs off a cv hd fun j hj => by rw [hcell _ _ hd]; exact ⟨(hc j hj).1, (hc j hj).2.1, (hc j hj).2.2.mono hD⟩
 | didx cs off n i a cv hd h0 h1 hc => exact .didx cs off n i a cv hd h0 h1 fun j hj => by rw [hcell _ _ hd]; exact ⟨(hc j hj).1, (hc j hj).2.1, (hc j hj).2.2.mono hD⟩
 | vec i A len cap sz hi =>
   by_cases e : i = b
   ·subst e; rw [AV.kill, Nat.beq_refl]; exact .junk _
   ·rw [AV.kill, show Nat.beq i b = false from Dg e]; exact .vec i A len cap sz (by rw [hσ i e]; exact hi)
 | vsl i lo hi A len cap sz h h0 h1 h2 B cap' hB hc hz =>
   by_cases e : i = b
   ·subst e; rw [AV.kill, Nat.beq_refl]; exact .junk _
   ·rw [AV.kill, show Nat.beq i b = false from Dg e]; exact .vsl i lo hi A len cap sz (by rw [hσ i e]; exact h) h0 h1 h2 B cap' hB hc hz
 | vref i j off c len cap sz h h0 h1 =>
   by_cases e : i = b
   ·subst e; rw [AV.kill, Nat.beq_refl]; exact .junk _
   ·rw [AV.kill, show Nat.beq i b = false from Dg e]; exact .vref i j off c len cap sz (by rw [hσ i e]; exact h) h0 h1
 | csl i off n c hi cap hc => exact .csl i off n c (blk hi) cap hc
 | agg cs vs hl ho hh ih =>
   obtain ⟨h1, h2⟩ := jp b cs
   rw [AV.kill]
   exact .agg _ vs (by omega) ho fun i a1 a2 => by rw [h2 i (by omega) a1]; exact ih i (by omega) a2
 | tup cs vs hl hh ih =>
   obtain ⟨h1, h2⟩ := jp b cs
   rw [AV.kill]
   exact .tup _ vs (by omega) fun i a1 a2 => by rw [h2 i (by omega) a1]; exact ih i (by omega) a2
 | func f x y u v hx hy hh hh' ih ih' =>
   obtain ⟨h1, h2⟩ := jp b x
   obtain ⟨h3, h4⟩ := jp b y
   rw [AV.kill]
   exact .func f _ _ u v (by omega) (by omega) (fun i a1 a2 => by rw [h2 i (by omega) a1]; exact ih i (by omega) a2) (fun i a1 a2 => by rw [h4 i (by omega) a1]; exact ih' i (by omega) a2)
 | mref i c hi => exact .mref i c (blk hi)
 | gp g off => exact .gp g off
theorem qgz {D : Nat → Prop} {σ σ' : Nat → SB} {b : Nat} {A : Option Nat} {len cap sz : Nat} (hb : σ b = .hdr A len cap sz) (hσ : ∀ i, i ≠ b → σ' i = σ i) (hD : ∀ c, D c → D c ∧ w'.heap[c]? = w.heap[c]?) {sb : SB} {x : Blk} (h : BR D σ w sb x)
  (hh : ∀ c, mutC sb x = some c → w'.heap[c]? = w.heap[c]?) : BR D σ' w' sb (Blk.kill b x) := by
 cases x with
 | cells cs =>
   obtain ⟨c, vs, t, rfl, h2, h3, h4⟩ := h
   obtain ⟨k1, k2⟩ := jp b cs
   refine ⟨c, vs, t, rfl, by rw [hh c rfl]; exact h2, by rw [k1]; exact h3, fun i a1 a2 => ?_⟩
   rw [k2 i (by omega) a1]
   exact ⟨(h4 i (by omega) a2).1, gX hb hσ hD (h4 i (by omega) a2).2⟩
 | amap ks vs =>
   obtain ⟨c, es, clock, l, kk, rfl, h2, h3, h4, h4', h5, h6⟩ := h
   obtain ⟨k1, k2⟩ := jp b ks
   obtain ⟨k3, k4⟩ := jp b vs
   refine ⟨c, es, clock, l, kk, rfl, by rw [hh c rfl]; exact h2, h3, by omega, by omega, fun i a1 a2 => ?_, fun i a1 a2 => ?_⟩
   ·rw [k2 i (by omega) a1]; exact gX hb hσ hD (h5 i (by omega) a2)
   ·rw [k4 i (by omega) a1]; exact gX hb hσ hD (h6 i (by omega) a2)
 | gmap =>
   obtain ⟨c, es, clock, rfl, h2⟩ := h
   exact ⟨c, es, clock, rfl, by rw [hh c rfl]; exact h2⟩
 | dead => trivial
 | vec e l =>
   obtain ⟨A, cap, rfl, h2, h3, h4⟩ := h
   refine ⟨A, cap, rfl, h2, h3, fun c hc => ?_⟩
   obtain ⟨vs, t, h5, h6, h7, h8⟩ := h4 c hc
   exact ⟨vs, t, by rw [hh c (by simp [mutC, hc])]; exact h5, h6, h7, fun i hi j hj => (h8 i hi j hj).mono hD⟩
 | fvec e l => obtain ⟨A, cap, rfl, h2⟩ := h; exact ⟨A, cap, rfl, h2.mono hD⟩
 | map kk kv l =>
   obtain ⟨c, es, clock, rfl, h2, h3, h4⟩ := h
   exact ⟨c, es, clock, rfl, by rw [hh c rfl]; exact h2, h3, fun i h1 h2 => ⟨(h4 i h1 h2).1.mono hD, (h4 i h1 h2).2.mono hD⟩⟩
theorem Yp (sb : SB) (b : Nat) (x : Blk) : mutC sb (Blk.kill b x) = mutC sb x := by cases x <;> cases sb <;> rfl
theorem Rel.rehdr (h : Rel E base w0 ok en G s a w) {b : Nat} {kd : Kd} {l l' : List kd.T} {A : Option Nat} {len cap sz : Nat} (hb : s.M[b]? = some (.vec kd l)) (hσ : G.σ b = .hdr A len cap sz) (hlock : s.lock.any (Nat.beq b) = false) {sb : SB}
  (hbel : w'.os = w.os ∧ w'.tape = w.tape ∧ w'.output = w.output) (hsize : w.heap.size ≤ w'.heap.size) (hother : ∀ k, k < w.heap.size → A ≠ some k → w'.heap[k]? = w.heap[k]?)
  (hbr : BR G.D (G.up b sb).σ w' sb (.vec kd l')) (hmut : ∀ c, mutC sb (.vec kd l') = some c → A = some c ∨ (w.heap.size ≤ c ∧ c < w'.heap.size)) :
  Rel E base w0 ok en (G.up b sb) { s.kill b with M := (s.kill b).M.set b (.vec kd l') } a w' := by
 have hbl : b < s.M.length := (List.getElem?_eq_some_iff.1 hb).1
 have hown : ∀ c, A = some c → base ≤ c ∧ c < w.heap.size ∧ ¬ G.D c := fun c hc => h.mem.own b _ c hb (by rw [hσ]; exact hc)
 have hup : ∀ i, i ≠ b → (G.up b sb).σ i = G.σ i := fun i hi => by simp [Gam.up, hi]
 have hupb : (G.up b sb).σ b = sb := Gam.up_self ..
 have hD : ∀ c, G.D c → G.D c ∧ w'.heap[c]? = w.heap[c]? := fun c hc => ⟨hc, hother c (h.mem.dlt c hc) fun e => (hown c e).2.2 hc⟩
 have hbase : Below base w w' := ⟨hbel.1, hbel.2.1, hbel.2.2, hsize, fun k hk => hother k (by have := h.base; omega) fun e => by have := (hown k e).1; omega⟩
 have hget : ∀ j y, ((s.kill b).M.set b (.vec kd l'))[j]? = some y → (j ≠ b ∧ ∃ y0, s.M[j]? = some y0 ∧ y = Blk.kill b y0) ∨ (j = b ∧ y = .vec kd l') := by
  intro j y hj
  rw [List.getElem?_set] at hj
  by_cases e : b = j
  ·subst e
   simp [St.kill, hbl] at hj; exact .inr ⟨rfl, hj.symm⟩
  ·simp only [e, if_false, St.kill, List.getElem?_map, Option.map_eq_some_iff] at hj
   obtain ⟨y0, h1, h2⟩ := hj
   exact .inl ⟨fun q => e q.symm, y0, h1, h2.symm⟩
 have hkeep : ∀ j y0 c, j ≠ b → s.M[j]? = some y0 → mutC (G.σ j) y0 = some c → w'.heap[c]? = w.heap[c]? := by
  intro j y0 c hne hj hc
  refine hother c (h.mem.own j y0 c hj hc).2.1 fun e => ?_
  exact hne (h.mem.apart b j _ y0 c hb (by rw [hσ]; exact e) hj hc)
 refine ⟨h.defers, ?_, ?_, ⟨?_, ?_, ?_, ?_, h.mem.dok, ?_⟩, h.below.trans hbase, h.glob.mono hD, Nat.le_trans h.base hsize, fun c hc => ⟨(h.grow c hc).1, ?_⟩, fun i hi hn => ?_, ?_, h.fr⟩
 ·show a.tmps.size = (AV.kills b s.T).length
  rw [(jp b s.T).1]; exact h.size
 ·intro t v ht
  have ht' : (AV.kills b s.T)[t]? = some v := ht
  obtain ⟨hlt, rfl⟩ := List.getElem?_eq_some_iff.1 ht'
  have hlt' : t < s.T.length := by rw [(jp b s.T).1] at hlt; exact hlt
  rw [(jp b s.T).2 t hlt' hlt]
  exact gX hσ hup hD (h.val t _ (List.getElem?_eq_getElem hlt'))
 ·intro j y hj
  rcases hget j y hj with ⟨hne, y0, h1, rfl⟩ | ⟨rfl, rfl⟩
  ·rw [hup j hne]
   exact qgz hσ hup hD (h.mem.blocks j y0 h1) fun c hc => hkeep j y0 c hne h1 hc
  ·rw [hupb]; exact hbr
 ·intro j y c hj hc
  rcases hget j y hj with ⟨hne, y0, h1, rfl⟩ | ⟨rfl, rfl⟩
  ·rw [hup j hne, Yp] at hc
   obtain ⟨a1, a2, a3⟩ := h.mem.own j y0 c h1 hc
   exact ⟨a1, by omega, a3⟩
  ·rw [hupb] at hc
   rcases hmut c hc with e | ⟨e1, e2⟩
   ·obtain ⟨a1, a2, a3⟩ := hown c e; exact ⟨a1, by omega, a3⟩
   ·exact ⟨by have := h.base; omega, e2, fun hd => by have := h.mem.dlt c hd; omega⟩
 ·intro j j' y y' c hj hc hj' hc'
  have key : ∀ j y, ((s.kill b).M.set b (.vec kd l'))[j]? = some y → mutC ((G.up b sb).σ j) y = some c → (j ≠ b ∧ ∃ y0, s.M[j]? = some y0 ∧ mutC (G.σ j) y0 = some c) ∨ (j = b ∧ (A = some c ∨ w.heap.size ≤ c)) := by
   intro j y hj hc
   rcases hget j y hj with ⟨hne, y0, h1, rfl⟩ | ⟨rfl, rfl⟩
   ·rw [hup j hne, Yp] at hc
    exact .inl ⟨hne, y0, h1, hc⟩
   ·rw [hupb] at hc
    rcases hmut c hc with e | ⟨e1, _⟩
    ·exact .inr ⟨rfl, .inl e⟩
    ·exact .inr ⟨rfl, .inr e1⟩
  rcases key j y hj hc with ⟨n1, y0, h1, h2⟩ | ⟨e1, h1⟩
  ·rcases key j' y' hj' hc' with ⟨n2, y2, h3, h4⟩ | ⟨e2, h3⟩
   ·exact h.mem.apart j j' y0 y2 c h1 h2 h3 h4
   ·rcases h3 with h3 | h3
    ·have := h.mem.apart b j _ y0 c hb (by rw [hσ]; exact h3) h1 h2
     omega
    ·have := (h.mem.own j y0 c h1 h2).2.1
     omega
  ·rcases key j' y' hj' hc' with ⟨n2, y2, h3, h4⟩ | ⟨e2, h3⟩
   ·rcases h1 with h1 | h1
    ·have := h.mem.apart b j' _ y2 c hb (by rw [hσ]; exact h1) h3 h4
     omega
    ·have := (h.mem.own j' y2 c h3 h4).2.1
     omega
   ·omega
 ·intro c hc; have := h.mem.dlt c hc; omega
 ·intro i hi
  have hi' : s.M.length ≤ i := by simpa [St.kill] using hi
  rw [hup i (by omega)]
  exact h.mem.out i hi'
 ·rw [(hD c (h.grow c hc).1).2]; exact (h.grow c hc).2
 ·obtain ⟨e1, e2⟩ := h.held i hi hn
  have : i ≠ b := by
   intro e
   subst e
   have : s.lock.any (Nat.beq i) = true := List.any_eq_true.2 ⟨i, hi, Nat.beq_refl i⟩
   rw [hlock] at this; cases this
  exact ⟨by rw [hup i this]; exact e1, e2⟩
 ·have := h.lo
  simpa [St.kill] using this
end Go.Sx
namespace Go.Sx
open Go
open Go.RowKit (Below)
variable {P : Program} {E : Env} {base : Nat} {w0 : GW} {ok : Nat → Prop} {en : Ent} {G G' : Gam} {s : St} {a : Act} {w w' : GW} {R : Type} {M : Mem}
theorem Uu (a b : List Value) (q : Nat) : (a ++ b).getD q undef = if q < a.length then a.getD q undef else b.getD (q - a.length) undef := by
 simp only [List.getD_eq_getElem?_getD, List.getElem?_append]
 split <;> rfl
theorem YR {D : Nat → Prop} {kd : Kd} {l l2 : List kd.T} {olds news rest : List Value} (ho : olds.length = l.length * kd.size) (hn : news.length = l2.length * kd.size)
  (h1 : ∀ i (h : i < l.length) j (hj : j < (kd.cells l[i]).length), DR D w ((kd.cells l[i])[j]) (olds.getD (i * kd.size + j) undef))
  (h2 : ∀ i (h : i < l2.length) j (hj : j < (kd.cells l2[i]).length), DR D w ((kd.cells l2[i])[j]) (news.getD (i * kd.size + j) undef)) :
  ∀ i (h : i < (l ++ l2).length) j (hj : j < (kd.cells (l ++ l2)[i]).length), DR D w ((kd.cells (l ++ l2)[i])[j]) ((olds ++ news ++ rest).toArray.getD (i * kd.size + j) undef) := by
 intro i h j hj
 have hj' : j < kd.size := jr h hj
 have e0 : (olds ++ news ++ rest).toArray.getD (i * kd.size + j) undef = (olds ++ news ++ rest).getD (i * kd.size + j) undef := by simp
 rw [e0, List.append_assoc, Uu]
 by_cases hi : i < l.length
 ·have hlt : i * kd.size + j < olds.length := by
   have : (i + 1) * kd.size ≤ l.length * kd.size := Nat.mul_le_mul_right _ (by omega)
   rw [Nat.add_mul] at this; omega
  rw [if_pos hlt]
  have e : (l ++ l2)[i] = l[i] := List.getElem_append_left hi
  have := h1 i hi j (by rw [Kd.cells_length]; exact hj')
  simp only [e]
  exact this
 ·have hge : ¬ i * kd.size + j < olds.length := by
   have : l.length * kd.size ≤ i * kd.size := Nat.mul_le_mul_right _ (by omega)
   omega
  have hi2 : i - l.length < l2.length := by simp at h; omega
  rw [if_neg hge, Uu, if_pos (by
   have : (i - l.length + 1) * kd.size ≤ l2.length * kd.size := Nat.mul_le_mul_right _ (by omega)
   rw [Nat.add_mul, Nat.sub_mul] at this
   have : l.length * kd.size ≤ i * kd.size := Nat.mul_le_mul_right _ (by omega)
   omega)]
  have e : (l ++ l2)[i] = l2[i - l.length] := List.getElem_append_right (by omega)
  have := h2 (i - l.length) hi2 j (by rw [Kd.cells_length]; exact hj')
  simp only [e]
  rw [show i * kd.size + j - olds.length = (i - l.length) * kd.size + j by
   rw [ho, Nat.sub_mul]
   have : l.length * kd.size ≤ i * kd.size := Nat.mul_le_mul_right _ (by omega)
   omega]
  exact this
theorem VK {kd : Kd} {z : Value} (hz : zall (kd.cells kd.zero) z.cells.toList = true) (n : Nat) : (Builtin.zeroCells z.cells n).size = n * kd.size ∧ ∀ v ∈ (Builtin.zeroCells z.cells n).toList, v.oneCell' = true := by
 obtain ⟨hl, hh⟩ := zG (D := fun _ => False) (w := default) hz
 have hs : z.cells.size = kd.size := by rw [Kd.cells_length] at hl; simpa using hl.symm
 refine ⟨by simp [Builtin.zeroCells, hs], fun v hv => ?_⟩
 simp only [Builtin.zeroCells, Array.toList_map, List.mem_map] at hv
 obtain ⟨q, hq, rfl⟩ := hv
 have hq' : q < n * z.cells.size := by simpa using hq
 have hpos : 0 < z.cells.size := by
  rcases Nat.eq_zero_or_pos z.cells.size with h | h
  ·rw [h] at hq'; simp at hq'
  ·exact h
 have hlt := Nat.mod_lt q hpos
 rw [getElem!_pos z.cells _ hlt]
 have := (hh (q % z.cells.size) (by rw [hl]; simpa using hlt) (by simpa using hlt)).2
 simpa using this
theorem D3 {d : TypeDesc} {s : Sh} (hs : shOK P d s = true) (h : JV s = true) : KJ d = true := by
 cases s <;> simp [JV] at h
 ·rw [gq hs]; rfl
 ·rw [j3 hs]; rfl
theorem Y4 {kd : Kd} {l l2 : List kd.T} {xb x : Value} {olds news : List Value} (hs1 : Src P G.D w kd xb l olds) (hs2 : Src P G.D w kd x l2 news) {z : Value} (hz : zall (kd.cells kd.zero) z.cells.toList = true) {cap : Nat} (hcap : l.length + l2.length ≤ cap) :
  (olds.toArray ++ news.toArray ++ Builtin.zeroCells z.cells (cap - (l.length + l2.length))).size = cap * kd.size ∧ (∀ v ∈ (olds.toArray ++ news.toArray ++ Builtin.zeroCells z.cells (cap - (l.length + l2.length))).toList, v.oneCell' = true) ∧
  ∀ i (h : i < (l ++ l2).length) j (hj : j < (kd.cells (l ++ l2)[i]).length), DR G.D w ((kd.cells (l ++ l2)[i])[j]) ((olds.toArray ++ news.toArray ++ Builtin.zeroCells z.cells (cap - (l.length + l2.length))).getD (i * kd.size + j) undef) := by
 obtain ⟨z1, z2⟩ := VK hz (cap - (l.length + l2.length))
 have e : olds.toArray ++ news.toArray ++ Builtin.zeroCells z.cells (cap - (l.length + l2.length)) = (olds ++ news ++ (Builtin.zeroCells z.cells (cap - (l.length + l2.length))).toList).toArray := by
  apply Array.ext'; simp
 refine ⟨?_, ?_, ?_⟩
 ·have h1 := hs1.size
  have h2 := hs2.size
  simp only [Array.size_append, List.size_toArray, z1, h1, h2, Nat.sub_mul, Nat.add_mul]
  have : (l.length + l2.length) * kd.size ≤ cap * kd.size := Nat.mul_le_mul_right _ hcap
  rw [Nat.add_mul] at this
  omega
 ·intro v hv
  rw [e] at hv
  simp only [List.mem_append] at hv
  rcases hv with (hv | hv) | hv
  ·exact hs1.one v hv
  ·exact hs2.one v hv
  ·exact z2 v hv
 ·rw [e]
  exact YR hs1.size hs2.size hs1.get hs2.get
theorem Step.of_drew {slot : Nat} {b : Option Blk} (h : Step G w.drew slot b G' w') : Step G w slot b G' w' :=
 ⟨⟨h.below.os, h.below.tape, h.below.output, h.below.size, h.below.block⟩, h.keep, h.new, h.σ, h.slot⟩
theorem Ql (hE : EnvOK P E) {t u : TypeId} {it iu ei : TyI} {et : TypeId} (ht : E.t t = some it) (hsh : it.sh = .sl et) (hu : E.t u = some iu) (hsu : JV iu.sh = true) (hei : E.t et = some ei) {kd : Kd} (hkd : ei.kd = some kd) :
  P.underlying t = some (.slice et) ∧ (∃ du, P.underlying u = some du ∧ KJ du = true) ∧ ∃ n z, P.info? et = some n ∧ n.size = kd.size ∧ n.bytes = ei.bytes ∧ n.zero = some z ∧ zall (kd.cells kd.zero) z.cells.toList = true := by
 obtain ⟨d, hd, hs, _⟩ := (hE.ty t it ht).und
 rw [hsh] at hs
 rw [j3 hs] at hd
 obtain ⟨du, hdu, hsu', _⟩ := (hE.ty u iu hu).und
 obtain ⟨n, z, h1, h2, h3, h4, _, _, h5⟩ := (hE.ty et ei hei).info
 obtain ⟨h6, h7⟩ := h5 kd hkd
 exact ⟨hd, ⟨du, hdu, D3 hsu' hsu⟩, n, z, h1, by omega, h3, h4, h7⟩
theorem Ut (hE : EnvOK P E) (h : Rel E base w0 ok en G s a w) {t u ty : TypeId} {it iu ei : TyI} {et : TypeId} (ht : E.t t = some it) (hsh : it.sh = .sl et) (hu : E.t u = some iu) (hsu : JV iu.sh = true) (hei : E.t et = some ei) {kd : Kd} (hkd : ei.kd = some kd) (hby : 0 < ei.bytes)
  {b : Nat} {l l2 : List kd.T} {v x : Value} {y : AV} (hv : VR G.D G.σ w (.vec b) v) (hb : s.M[b]? = some (.vec kd l)) (hx : VR G.D G.σ w y x) (hl2 : zo s.M kd y = some l2) (hlock : s.lock.any (Nat.beq b) = false) (hfit : ((l.length : Int) + (l2.length : Int)) * (ei.bytes : Int) < 140737488355329) :
  ∃ r w' sb, (Builtin.append_ #[t, u] ty #[v, x]).run P w = .ok r w' ∧ Rel E base w0 ok en (G.up b sb) { s.kill b with M := (s.kill b).M.set b (.vec kd (l ++ l2)) } a w' ∧ VR (G.up b sb).D (G.up b sb).σ w' (.vec b) r := by
 obtain ⟨hd, ⟨du, hdu, hni⟩, ni, z, hn1, hn2, hn3, hn4, hz⟩ := Ql hE ht hsh hu hsu hei hkd
 obtain ⟨news, hsrc⟩ := zL (P := P) h.mem hx hl2
 have hlb : zo s.M kd (.vec b) = some l := by
  simp [zo, hb, zk]
 obtain ⟨olds, hold⟩ := zL (P := P) h.mem hv hlb
 obtain ⟨A, len, cap, sz, hσ, rfl⟩ := hv.vec_inv
 obtain ⟨A', cap', e1, e2, e3, e4⟩ := h.mem.blocks b _ hb
 rw [hσ] at e1
 cases e1
 have hfirst : ∀ w' : GW, w'.heap = w.heap → (Builtin.firstCells ni.size l2.length x).run P w' = .ok news.toArray w' := by
  intro w' hw'
  have := hsrc.first l2.length (Nat.le_refl _) w' hw'
  rw [hn2, this]
  congr 2
  rw [← hsrc.size, List.take_length]
 have hnfit : (l.length + l2.length) * ni.bytes ≤ 140737488355328 := by
  rw [hn3]
  have : (((l.length + l2.length) * ei.bytes : Nat) : Int) < 140737488355329 := by
   rw [Int.natCast_mul, Int.natCast_add]; exact hfit
  omega
 have vnew : ∀ (w' : GW) (A : Option Nat) (len cap : Nat), VR (G.up b (.hdr A len cap kd.size)).D (G.up b (.hdr A len cap kd.size)).σ w' (.vec b) (.slice (A.map blkA) len cap) := fun w' A len cap => .vec b A len cap kd.size (Gam.up_self ..)
 by_cases hroom : l.length + l2.length ≤ cap
 ·cases A with
  | none =>
    obtain ⟨rfl, rfl⟩ := e3 rfl
    have h0 : l2 = [] := by simpa using hroom
    subst h0
    refine ⟨_, _, .hdr none 0 0 kd.size, Qp hd hdu hni hn1 (hsrc.len w) (hfirst w rfl) hroom, ?_, vnew w none 0 0⟩
    exact h.rehdr hb hσ hlock ⟨rfl, rfl, rfl⟩ (Nat.le_refl _) (fun _ _ _ => rfl) ⟨none, 0, rfl, by simp, by simp, by simp⟩ (by intro c hc; cases hc)
  | some c =>
    obtain ⟨vs, bt, e5, e6, e7, e8⟩ := e4 c rfl
    have hnl := hsrc.size
    have hcapm : (l.length + l2.length) * kd.size ≤ cap * kd.size := Nat.mul_le_mul_right _ hroom
    rw [Nat.add_mul] at hcapm
    have hfit' : l.length * ni.size + news.length ≤ vs.size := by rw [hn2, hnl, e6]; exact hcapm
    refine ⟨_, _, .hdr (some c) (l.length + l2.length) cap kd.size, Vf hd hdu hni hn1 (hsrc.len w) (hfirst w rfl) hroom e5 hfit' hsrc.one, ?_, vnew _ (some c) _ _⟩
    rw [hn2]
    generalize hrow : (vs.toList.take (l.length * kd.size) ++ news ++ vs.toList.drop (l.length * kd.size + news.length)).toArray = row
    obtain ⟨g1, g2, g3⟩ := kN w c row
    have hnd : ¬ G.D c := (h.mem.own b _ c hb (by rw [hσ]; rfl)).2.2
    have hD : ∀ k, G.D k → G.D k ∧ (w.setRow c row).heap[k]? = w.heap[k]? := fun k hk => ⟨hk, g1 k fun e => hnd (e ▸ hk)⟩
    refine h.rehdr hb hσ hlock g3 (by omega) (fun k _ hne => g1 k fun e => hne (by rw [e])) ⟨some c, cap, by simp, by simpa using hroom, by simp, fun c' hc' => ?_⟩ (fun c' hc' => .inl hc')
    cases hc'
    refine ⟨row, bt, setRow_heap w c vs _ bt _ e5, ?_, ?_, fun i hi j hj => ?_⟩
    ·rw [← hrow]
     simp only [List.size_toArray, List.length_append, List.length_take, List.length_drop, Array.length_toList, e6, hnl]
     rw [Nat.min_eq_left (by omega)]
     omega
    ·intro v hv
     rw [← hrow] at hv
     simp only [List.mem_append] at hv
     rcases hv with (hv | hv) | hv
     ·exact e7 v (List.mem_of_mem_take hv)
     ·exact hsrc.one v hv
     ·exact e7 v (List.mem_of_mem_drop hv)
    ·refine DR.mono hD ?_
     rw [← hrow]
     refine YR (l := l) (l2 := l2) (olds := vs.toList.take (l.length * kd.size)) (by simp; omega) hnl (fun i hi j hj => ?_) hsrc.get i hi j hj
     have hj' := jr hi hj
     have hlt : i * kd.size + j < l.length * kd.size := by
      have : (i + 1) * kd.size ≤ l.length * kd.size := Nat.mul_le_mul_right _ (by omega)
      rw [Nat.add_mul] at this; omega
     have := e8 i hi j hj
     simp only [List.getD_eq_getElem?_getD, List.getElem?_take, hlt, if_true]
     simpa using this
 ·have hgrow : cap < l.length + l2.length := by omega
  have hfo : (Builtin.firstCells ni.size l.length (.slice (A.map blkA) l.length cap)).run P w.drew = .ok olds.toArray w.drew := by
   have := hold.first l.length (Nat.le_refl _) w.drew rfl
   rw [hn2, this]
   congr 2
   rw [← hold.size, List.take_length]
  have hrun := Qq (ty := ty) hd hdu hni hn1 hn4 (by omega) (hsrc.len w) (hfirst w.drew rfl) hfo hgrow hnfit
  have hge := grownCap_ge w (l.length + l2.length) cap et
  generalize grownCap w (l.length + l2.length) cap et = gc at hrun hge
  obtain ⟨r1, r2, r3⟩ := Y4 hold hsrc hz hge
  refine ⟨_, _, .hdr (some w.heap.size) (l.length + l2.length) gc kd.size, hrun, ?_, vnew _ (some w.heap.size) _ _⟩
  generalize olds.toArray ++ news.toArray ++ Builtin.zeroCells z.cells (gc - (l.length + l2.length)) = row at r1 r2 r3 ⊢
  have hD : ∀ k, G.D k → G.D k ∧ (w.drew.alloc (.cells row et)).heap[k]? = w.heap[k]? := fun k hk => ⟨hk, vY w.drew _ (h.mem.dlt k hk)⟩
  refine h.rehdr hb hσ hlock ⟨rfl, rfl, rfl⟩ (by show w.heap.size ≤ (w.heap.push _).size; simp) (fun k hk _ => vY w.drew _ hk) ⟨some w.heap.size, gc, by simp, by simpa using hge, by simp, fun c' hc' => ?_⟩ (fun c' hc' => ?_)
  ·cases hc'
   exact ⟨row, et, j2 w.drew _, r1, r2, fun i hi j hj => (r3 i hi j hj).mono hD⟩
  ·simp [mutC] at hc'
   subst hc'
   exact .inr ⟨Nat.le_refl _, by show w.heap.size < (w.heap.push _).size; simp⟩
theorem qak (hE : EnvOK P E) (h : Rel E base w0 ok en G s a w) {t u ty : TypeId} {it iu ei : TyI} {et : TypeId} (ht : E.t t = some it) (hsh : it.sh = .sl et) (hu : E.t u = some iu) (hsu : JV iu.sh = true) (hei : E.t et = some ei) {kd : Kd} (hkd : ei.kd = some kd) (hby : 0 < ei.bytes)
  {b : Nat} {hi : Int} {l l2 : List kd.T} {v x : Value} (hv : VR G.D G.σ w (.vsl b 0 hi) v) (hb : s.M[b]? = some (.vec kd l)) (hx : VR G.D G.σ w (.sl kd l2) x) (hlock : s.lock.any (Nat.beq b) = false)
  (hfit : (((ltake l hi).length : Int) + (l2.length : Int)) * (ei.bytes : Int) < 140737488355329) :
  ∃ r w' G', (Builtin.append_ #[t, u] ty #[v, x]).run P w = .ok r w' ∧ Rel E base w0 ok en G' { (s.cutV b kd (ltake l hi)).kill b with M := ((s.cutV b kd (ltake l hi)).kill b).M.set b (.vec kd (ltake l hi ++ l2)) } a w' ∧ VR G'.D G'.σ w' (.vec b) r := by
 obtain ⟨A, len, cap, sz, hσ, h0, hle, rfl⟩ := hv.vsl_inv0
 obtain ⟨A', cap', e1, e2, e3, e4⟩ := h.mem.blocks b _ hb
 rw [hσ] at e1
 cases e1
 have hbl : b < s.M.length := (List.getElem?_eq_some_iff.1 hb).1
 have hlen : (ltake l hi).length = hi.toNat := by simp [ltake]; omega
 have h1 : Rel E base w0 ok en (G.up b (.hdr A hi.toNat cap kd.size)) (s.cutV b kd (ltake l hi)) a w := by
  refine h.rehdr hb hσ hlock ⟨rfl, rfl, rfl⟩ (Nat.le_refl _) (fun _ _ _ => rfl) ⟨A, cap, by rw [hlen], by rw [hlen]; omega, fun hA => ?_, fun c hc => ?_⟩ (fun c hc => .inl (by cases A <;> simp [mutC] at hc ⊢; exact hc))
  ·obtain ⟨q1, q2⟩ := e3 hA
   exact ⟨by rw [q1]; simp [ltake], q2⟩
  ·obtain ⟨vs, bt, e5, e6, e7, e8⟩ := e4 c hc
   refine ⟨vs, bt, e5, e6, e7, fun i hi' j hj => ?_⟩
   have hil : i < l.length := by rw [hlen] at hi'; omega
   have e : (ltake l hi)[i] = l[i] := by simp [ltake]
   have := e8 i hil j (by rw [Kd.cells_length]; rw [Kd.cells_length] at hj; exact hj)
   simp only [e]
   exact this
 have hb1 : (s.cutV b kd (ltake l hi)).M[b]? = some (.vec kd (ltake l hi)) := by
  simp [St.cutV, St.kill, hbl]
 have hv1 : VR (G.up b (.hdr A hi.toNat cap kd.size)).D (G.up b (.hdr A hi.toNat cap kd.size)).σ w (.vec b) (.slice (A.map blkA) hi.toNat cap) := .vec b A _ cap kd.size (Gam.up_self ..)
 have hx1 : VR (G.up b (.hdr A hi.toNat cap kd.size)).D (G.up b (.hdr A hi.toNat cap kd.size)).σ w (.sl kd l2) x := .data _ _ hx.sl_inv
 obtain ⟨r, w', sb, g1, g2, g3⟩ := Ut (ty := ty) hE h1 ht hsh hu hsu hei hkd hby hv1 hb1 hx1 (by simp [zo, AV.asSl, zk]) hlock hfit
 exact ⟨r, w', _, g1, g2, g3⟩
theorem Rel.cut (h : Rel E base w0 ok en G s a w) {kd : Kd} {b : Nat} {hi : Int} {l : List kd.T} {v : Value} (hv : VR G.D G.σ w (.vsl b 0 hi) v) (hb : s.M[b]? = some (.vec kd l)) (hlock : s.lock.any (Nat.beq b) = false) :
  ∃ G', Rel E base w0 ok en G' (s.cutV b kd (ltake l hi)) a w ∧ VR G'.D G'.σ w (.vec b) v := by
 obtain ⟨A, len, cap, sz, hσ, h0, hle, rfl⟩ := hv.vsl_inv0
 obtain ⟨A', cap', e1, e2, e3, e4⟩ := h.mem.blocks b _ hb
 rw [hσ] at e1
 cases e1
 have hlen : (ltake l hi).length = hi.toNat := by simp [ltake]; omega
 refine ⟨G.up b (.hdr A hi.toNat cap kd.size), ?_, .vec b A _ cap kd.size (Gam.up_self ..)⟩
 refine h.rehdr hb hσ hlock ⟨rfl, rfl, rfl⟩ (Nat.le_refl _) (fun _ _ _ => rfl) ⟨A, cap, by rw [hlen], by rw [hlen]; omega, fun hA => ?_, fun c hc => ?_⟩ (fun c hc => .inl (by cases A <;> simp [mutC] at hc ⊢; exact hc))
 ·obtain ⟨q1, q2⟩ := e3 hA
  exact ⟨by rw [q1]; simp [ltake], q2⟩
 ·obtain ⟨vs, bt, e5, e6, e7, e8⟩ := e4 c hc
  refine ⟨vs, bt, e5, e6, e7, fun i hi' j hj => ?_⟩
  have hil : i < l.length := by rw [hlen] at hi'; omega
  have e : (ltake l hi)[i] = l[i] := by simp [ltake]
  have := e8 i hil j (by rw [Kd.cells_length]; rw [Kd.cells_length] at hj; exact hj)
  simp only [e]
  exact this
theorem ZB (hE : EnvOK P E) (h : Rel E base w0 ok en G s a w) {t u ty : TypeId} {it iu ei : TyI} {et : TypeId} (ht : E.t t = some it) (hsh : it.sh = .sl et) (hu : E.t u = some iu) (hsu : JV iu.sh = true) (hei : E.t et = some ei) {kd : Kd} (hkd : ei.kd = some kd) (hby : 0 < ei.bytes)
  {l l2 : List kd.T} {A : Option Addr} {x : Value} {yb y : AV} (hv : VR G.D G.σ w yb (.slice A l.length l.length)) (hlb : zo s.M kd yb = some l) (hx : VR G.D G.σ w y x) (hl2 : zo s.M kd y = some l2) (hpos : 0 < l2.length) (hfit : ((l.length : Int) + (l2.length : Int)) * (ei.bytes : Int) < 140737488355329) :
  ∃ r w' G', (Builtin.append_ #[t, u] ty #[.slice A l.length l.length, x]).run P w = .ok r w' ∧ Rel E base w0 ok en G' { s with M := s.M ++ [.vec kd (l ++ l2)] } a w' ∧ VR G'.D G'.σ w' (.vec s.M.length) r := by
 obtain ⟨hd, ⟨du, hdu, hni⟩, ni, z, hn1, hn2, hn3, hn4, hz⟩ := Ql hE ht hsh hu hsu hei hkd
 obtain ⟨news, hsrc⟩ := zL (P := P) h.mem hx hl2
 obtain ⟨olds, hold⟩ := zL (P := P) h.mem hv hlb
 have hfirst : ∀ w' : GW, w'.heap = w.heap → (Builtin.firstCells ni.size l2.length x).run P w' = .ok news.toArray w' := by
  intro w' hw'
  have := hsrc.first l2.length (Nat.le_refl _) w' hw'
  rw [hn2, this]
  congr 2
  rw [← hsrc.size, List.take_length]
 have hnfit : (l.length + l2.length) * ni.bytes ≤ 140737488355328 := by
  rw [hn3]
  have : (((l.length + l2.length) * ei.bytes : Nat) : Int) < 140737488355329 := by
   rw [Int.natCast_mul, Int.natCast_add]; exact hfit
  omega
 have hgrow : l.length < l.length + l2.length := by omega
 have hfo : (Builtin.firstCells ni.size l.length (.slice A l.length l.length)).run P w.drew = .ok olds.toArray w.drew := by
  have := hold.first l.length (Nat.le_refl _) w.drew rfl
  rw [hn2, this]
  congr 2
  rw [← hold.size, List.take_length]
 have hrun := Qq (ty := ty) hd hdu hni hn1 hn4 (by omega) (hsrc.len w) (hfirst w.drew rfl) hfo hgrow hnfit
 have hge := grownCap_ge w (l.length + l2.length) l.length et
 generalize grownCap w (l.length + l2.length) l.length et = gc at hrun hge
 obtain ⟨r1, r2, r3⟩ := Y4 hold hsrc hz hge
 have hslot := h.mem.out s.M.length (Nat.le_refl _)
 have hD : ∀ k, G.D k → G.D k ∧ w.drew.heap[k]? = w.heap[k]? := fun k hk => ⟨hk, rfl⟩
 have hstep := Step.vec (w := w.drew) hslot h.mem.dlt (e := kd) (l := l ++ l2) (vs := olds.toArray ++ news.toArray ++ Builtin.zeroCells z.cells (gc - (l.length + l2.length))) (cap := gc) et (by simpa using hge) r1 r2 (fun i hi j hj => (r3 i hi j hj).mono hD)
 refine ⟨_, _, _, hrun, h.push hstep.of_drew, ?_⟩
 have := VR.vec_new (D := G.D) (w' := w.drew.alloc (.cells (olds.toArray ++ news.toArray ++ Builtin.zeroCells z.cells (gc - (l.length + l2.length))) et)) G s.M.length w.heap.size (l ++ l2).length gc kd.size
 rw [List.length_append] at this
 rw [List.length_append]
 exact this
theorem append_nil (hE : EnvOK P E) (h : Rel E base w0 ok en G s a w) {t u ty : TypeId} {it iu ei : TyI} {et : TypeId} (ht : E.t t = some it) (hsh : it.sh = .sl et) (hu : E.t u = some iu) (hsu : JV iu.sh = true) (hei : E.t et = some ei) {kd : Kd} (hkd : ei.kd = some kd) (hby : 0 < ei.bytes)
  {l2 : List kd.T} {x : Value} {y : AV} (hx : VR G.D G.σ w y x) (hl2 : zo s.M kd y = some l2) (hfit : (l2.length : Int) * (ei.bytes : Int) < 140737488355329) :
  ∃ r w' G', (Builtin.append_ #[t, u] ty #[.slice none 0 0, x]).run P w = .ok r w' ∧ Rel E base w0 ok en G' { s with M := s.M ++ [.vec kd l2] } a w' ∧ VR G'.D G'.σ w' (.vec s.M.length) r := by
 by_cases h0 : 0 < l2.length
 ·have := ZB (ty := ty) hE h ht hsh hu hsu hei hkd hby (l := []) (l2 := l2) (A := none) (yb := .nilsl) (.data _ _ .nilsl) rfl hx hl2 h0 (by simpa using hfit)
  exact this
 ·have : l2 = [] := List.length_eq_zero_iff.1 (by omega)
  subst this
  obtain ⟨hd, ⟨du, hdu, hni⟩, ni, z, hn1, hn2, hn3, hn4, hz⟩ := Ql hE ht hsh hu hsu hei hkd
  obtain ⟨news, hsrc⟩ := zL (P := P) h.mem hx hl2
  have hfirst : (Builtin.firstCells ni.size 0 x).run P w = .ok news.toArray w := by
   have := hsrc.first 0 (Nat.le_refl _) w rfl
   rw [hn2, this]
   have hn : news = [] := List.length_eq_zero_iff.1 (by have := hsrc.size; simpa using this)
   simp [hn]
  have hslot := h.mem.out s.M.length (Nat.le_refl _)
  refine ⟨_, _, _, Qp hd hdu hni hn1 (hsrc.len w) hfirst (Nat.le_refl _), h.push (Step.nilvec hslot kd), ?_⟩
  exact VR.vec (σ := (G.up s.M.length (.hdr none 0 0 kd.size)).σ) s.M.length none 0 0 kd.size (Gam.up_self ..)
theorem Nw {D : Nat → Prop} {kd : Kd} {z : Value} (hz : zall (kd.cells kd.zero) z.cells.toList = true) (n : Int) (a b : Nat) (hab : n.toNat ≤ a) : ∀ q (hq : q < (lrep n kd.zero).length) j (hj : j < (kd.cells (lrep n kd.zero)[q]).length), DR D w ((kd.cells (lrep n kd.zero)[q])[j]) ((Builtin.zeroCells z.cells a ++ Builtin.zeroCells z.cells b).getD (q * kd.size + j) undef) := by
 intro q hq j hj
 have hlen : (lrep n kd.zero).length = n.toNat := by simp [lrep]
 obtain ⟨hzl, hzz⟩ := zG (D := D) (w := w) hz
 have hzs : z.cells.size = kd.size := by rw [Kd.cells_length] at hzl; simpa using hzl.symm
 have hj' : j < kd.size := jr hq hj
 have hq' : q < a := by rw [hlen] at hq; omega
 have hin : q * kd.size + j < a * kd.size := by
  have : (q + 1) * kd.size ≤ a * kd.size := Nat.mul_le_mul_right _ (by omega)
  rw [Nat.add_mul] at this
  omega
 have e0 : (Builtin.zeroCells z.cells a ++ Builtin.zeroCells z.cells b).getD (q * kd.size + j) undef = z.cells[(q * kd.size + j) % z.cells.size]! := by
  rw [Array.getD_eq_getD_getElem?, Array.getElem?_append_left (by simp [Builtin.zeroCells, hzs]; exact hin)]
  simp [Builtin.zeroCells, hzs, hin]
 rw [e0, hzs]
 have e : (q * kd.size + j) % kd.size = j := by rw [Nat.mul_comm, Nat.mul_add_mod, Nat.mod_eq_of_lt hj']
 rw [e, getElem!_pos z.cells j (by omega)]
 have hlz : (lrep n kd.zero)[q] = kd.zero := by simp [lrep]
 have h9 := (hzz j (by rw [Kd.cells_length]; exact hj') (by simpa [hzs] using hj')).1
 simp only [hlz]
 simpa using h9
theorem Dh (hE : EnvOK P E) (h : Rel E base w0 ok en G s a w) {t u ty : TypeId} {it iu ei : TyI} {et : TypeId} {kk : IntKind} (ht : E.t t = some it) (hsh : it.sh = .sl et) (hu : E.t u = some iu) (hsu : iu.sh = .int kk) (hei : E.t et = some ei) {kd : Kd} (hkd : ei.kd = some kd) (hby : 0 < ei.bytes) (hks : 0 < kd.size)
  {n : Int} (h0 : 0 ≤ n) (hfit : n * (ei.bytes : Int) < 140737488355329) :
  ∃ r w' G', (Builtin.append_ #[t, u] ty #[.slice none 0 0, .int .i64 n]).run P w = .ok r w' ∧ Rel E base w0 ok en G' { s with M := s.M ++ [.vec kd (lrep n kd.zero)] } a w' ∧ VR G'.D G'.σ w' (.vec s.M.length) r := by
 obtain ⟨d, hd, hs, _⟩ := (hE.ty t it ht).und
 rw [hsh] at hs
 rw [j3 hs] at hd
 obtain ⟨du, hdu, hsu', _⟩ := (hE.ty u iu hu).und
 rw [hsu] at hsu'
 rw [vb hsu'] at hdu
 obtain ⟨ni, z, hn1, hn2, hn3, hn4, _, _, hz2⟩ := (hE.ty et ei hei).info
 obtain ⟨hz1, hz⟩ := hz2 kd hkd
 have hslot := h.mem.out s.M.length (Nat.le_refl _)
 obtain ⟨m, rfl⟩ := Int.eq_ofNat_of_zero_le h0
 have hll : (lrep (m : Int) kd.zero).length = m := by simp [lrep]
 rcases Nat.eq_zero_or_pos m with hm | hm
 ·subst hm
  have hrun : (Builtin.append_ #[t, u] ty #[.slice none 0 0, .int .i64 ((0 : Nat) : Int)]).run P w = .ok (.slice none 0 0) w := by
   have hw : IntKind.i64.wrap (0 : Int) = 0 := rfl
   simp [Builtin.append_, run_underlying hd, run_underlying hdu, sizeOf, typeInfo, zeroValue, hn1, hn4, asInt, asIntOf, hw]
  refine ⟨_, _, _, hrun, h.push (Step.nilvec hslot kd), ?_⟩
  exact VR.vec (σ := (G.up s.M.length (.hdr none 0 0 kd.size)).σ) s.M.length none 0 0 kd.size (Gam.up_self ..)
 ·have hfitN : m * ni.bytes ≤ 140737488355328 := by
   rw [hn3]
   have : ((m * ei.bytes : Nat) : Int) < 140737488355329 := by rw [Int.natCast_mul]; exact hfit
   omega
  have hrun := ZW (w := w) (ty := ty) hd hdu hn1 hn4 (by omega) (by omega) hm hfitN
  have hge := grownCap_ge w m 0 et
  generalize grownCap w m 0 et = gc at hrun hge
  have hgc : m ≤ gc := hge
  obtain ⟨z1, z2⟩ := VK hz m
  obtain ⟨z3, z4⟩ := VK hz (gc - m)
  have hD : ∀ k, G.D k → G.D k ∧ w.drew.heap[k]? = w.heap[k]? := fun k hk => ⟨hk, rfl⟩
  have hstep := Step.vec (w := w.drew) hslot h.mem.dlt (e := kd) (l := lrep (m : Int) kd.zero) (vs := Builtin.zeroCells z.cells m ++ Builtin.zeroCells z.cells (gc - m)) (cap := gc) et (by rw [hll]; exact hgc)
   (by rw [Array.size_append, z1, z3, ← Nat.add_mul]; congr 1; omega) (fun v hv => by
    rw [Array.toList_append, List.mem_append] at hv
    rcases hv with hv | hv
    ·exact z2 v hv
    ·exact z4 v hv) (Nw hz (m : Int) m (gc - m) (by simp))
  refine ⟨_, _, _, hrun, h.push hstep.of_drew, ?_⟩
  have := VR.vec_new (D := G.D) (w' := w.drew.alloc (.cells (Builtin.zeroCells z.cells m ++ Builtin.zeroCells z.cells (gc - m)) et)) G s.M.length w.heap.size (lrep (m : Int) kd.zero).length gc kd.size
  rw [hll] at this ⊢
  exact this
end Go.Sx
namespace Go.Sx
open Go
open Go.RowKit (Below)
variable {P : Program} {E : Env} {base : Nat} {w0 : GW} {ok : Nat → Prop} {en : Ent} {G G' : Gam} {s : St} {a : Act} {w w' : GW} {R : Type} {M : Mem}
theorem fit2 {α β : Type} {l : List α} {l2 : List β} {b : Nat} {c : Int} (h : ilt (imul (iadd (qh l) (qh l2)) b) c = true) : ((l.length : Int) + (l2.length : Int)) * (b : Int) < c := by
 have h1 : (qh l + qh l2) * (b : Int) < c := of_decide_eq_true h
 rw [ilen_eq, ilen_eq] at h1
 exact h1
theorem fit1 {β : Type} {l2 : List β} {b : Nat} {c : Int} (h : ilt (imul (qh l2) b) c = true) : (l2.length : Int) * (b : Int) < c := by
 have h1 : qh l2 * (b : Int) < c := of_decide_eq_true h
 rw [ilen_eq] at h1
 exact h1
theorem fit0 {β : Type} {l2 : List β} (h : ilt 0 (qh l2) = true) : 0 < l2.length := by
 have h1 : (0 : Int) < qh l2 := of_decide_eq_true h
 rw [ilen_eq] at h1
 omega
theorem qfd {t u ty e : TypeId} {i : TypeInfo} (ht : P.underlying t = some (.slice e)) (hi : P.info? e = some i) {c len cap n m : Nat} {x : Value} {cs : List Value} (hlen : (Builtin.lenOf x).run P w = .ok n w) (hm : Nat.min n len = m) (hfirst : (Builtin.firstCells i.size m x).run P w = .ok cs.toArray w)
  {vs : Array Value} {bt : TypeId} (hb : w.heap[c]? = some (.cells vs bt (0, 0))) (hfit : cs.length ≤ vs.size) (h1 : ∀ v ∈ cs, v.oneCell' = true) :
  (Builtin.copy_ #[t, u] ty #[.slice (some (blkA c)) len cap, x]).run P w = .ok (goInt m) (w.setRow c (cs ++ vs.toList.drop cs.length).toArray) := by
 have hst := run_storeCells_at P c 0 bt cs 0 vs w hb (by simpa using hfit) h1
 simp only [Nat.zero_add, List.take_zero, List.nil_append] at hst
 simp [Builtin.copy_, run_underlying ht, sizeOf, typeInfo, hi, hlen, hm, hfirst, blkA, hst]
theorem U9 {t u ty e : TypeId} {i : TypeInfo} (ht : P.underlying t = some (.slice e)) (hi : P.info? e = some i) {len cap n m : Nat} {x : Value} {cs : List Value} (hlen : (Builtin.lenOf x).run P w = .ok n w) (hm : Nat.min n len = m) (hfirst : (Builtin.firstCells i.size m x).run P w = .ok cs.toArray w) :
  (Builtin.copy_ #[t, u] ty #[.slice none len cap, x]).run P w = .ok (goInt m) w := by
 simp [Builtin.copy_, run_underlying ht, sizeOf, typeInfo, hi, hlen, hm, hfirst]
theorem MV (hE : EnvOK P E) (h : Rel E base w0 ok en G s a w) {t u ty : TypeId} {it ei : TyI} {et : TypeId} (ht : E.t t = some it) (hsh : it.sh = .sl et) (hei : E.t et = some ei) {kd : Kd} (hkd : ei.kd = some kd)
  {b : Nat} {l l2 : List kd.T} {v x : Value} {y : AV} (hv : VR G.D G.σ w (.vec b) v) (hb : s.M[b]? = some (.vec kd l)) (hx : VR G.D G.σ w y x) (hl2 : zo s.M kd y = some l2) :
  ∃ w', (Builtin.copy_ #[t, u] ty #[v, x]).run P w = .ok (.int .i64 (imin (qh l2) (qh l))) w' ∧ Rel E base w0 ok en G { s with M := s.M.set b (.vec kd (lapp (ltake l2 (qh l)) (ldrop l (qh l2)))) } a w' := by
 obtain ⟨d, hd, hs, _⟩ := (hE.ty t it ht).und
 rw [hsh] at hs
 rw [j3 hs] at hd
 obtain ⟨n, z, hn1, hn2, hn3, hn4, _, _, h5⟩ := (hE.ty et ei hei).info
 have hks := (h5 kd hkd).1
 have hnk : n.size = kd.size := by omega
 obtain ⟨news, hsrc⟩ := zL (P := P) h.mem hx hl2
 obtain ⟨A, len, cap, sz, hσ, rfl⟩ := hv.vec_inv
 obtain ⟨A', cap', e1, e2, e3, e4⟩ := h.mem.blocks b _ hb
 rw [hσ] at e1
 cases e1
 have hmin : goInt (Nat.min l2.length l.length) = .int .i64 (imin (qh l2) (qh l)) := by
  simp only [ilen_eq]; unfold goInt imin
  congr 1
  have : Nat.min l2.length l.length = if l.length < l2.length then l.length else l2.length := by
   show min l2.length l.length = _
   split <;> omega
  rw [this]
  split
  ·rename_i h; rw [if_pos (by omega)]
  ·rename_i h; rw [if_neg (by omega)]
 have hle : Nat.min l2.length l.length ≤ l2.length := Nat.min_le_left _ _
 have hle' : Nat.min l2.length l.length ≤ l.length := Nat.min_le_right _ _
 have hmm : Nat.min l2.length l.length = l2.length ∨ Nat.min l2.length l.length = l.length := by
  show min l2.length l.length = l2.length ∨ min l2.length l.length = l.length
  omega
 have hfirst := hsrc.first _ hle w rfl
 rw [← hnk] at hfirst
 cases A with
 | none =>
   obtain ⟨rfl, rfl⟩ := e3 rfl
   refine ⟨w, ?_, ?_⟩
   ·have := U9 (u := u) (ty := ty) hd hn1 (len := 0) (cap := 0) (hsrc.len w) rfl hfirst
    exact this.trans (by rw [← hmin]; rfl)
   ·have e : s.M.set b (.vec kd (lapp (ltake l2 (qh ([] : List kd.T))) (ldrop ([] : List kd.T) (qh l2)))) = s.M := by
     apply List.ext_getElem?
     intro q
     rw [List.getElem?_set]
     by_cases hq : b = q
     ·subst hq
      have := (List.getElem?_eq_some_iff.1 hb).1
      have e0 : lapp (ltake l2 (qh ([] : List kd.T))) (ldrop ([] : List kd.T) (qh l2)) = [] := by simp [lapp, ltake, ldrop, ilen_eq]
      rw [e0, if_pos rfl, if_pos this, hb]
     ·simp [hq]
    rw [e]; exact h
 | some c =>
   obtain ⟨vs, bt, e5, e6, e7, e8⟩ := e4 c rfl
   generalize hm : Nat.min l2.length l.length = m at hmin hle hle' hmm hfirst
   have hcl : (news.take (m * n.size)).length = m * kd.size := by
    have h1 : m * kd.size ≤ l2.length * kd.size := Nat.mul_le_mul_right _ hle
    rw [List.length_take, hsrc.size, hnk, Nat.min_eq_left h1]
   have hfit : (news.take (m * n.size)).length ≤ vs.size := by
    rw [hcl, e6]; exact Nat.mul_le_mul_right _ (by omega)
   have hone : ∀ v ∈ news.take (m * n.size), v.oneCell' = true := fun v hv => hsrc.one v (List.mem_of_mem_take hv)
   have hrun := qfd (u := u) (ty := ty) (len := l.length) (cap := cap) hd hn1 (hsrc.len w) hm hfirst e5 hfit hone
   rw [hmin] at hrun
   refine ⟨_, hrun, ?_⟩
   ·rw [hcl]
    generalize hrow : (news.take (m * n.size) ++ vs.toList.drop (m * kd.size)).toArray = row
    obtain ⟨g1, g2, g3⟩ := kN w c row
    have hmut : mutC (G.σ b) (.vec kd l) = some c := by rw [hσ]; rfl
    have hD : ∀ k, G.D k → G.D k ∧ (w.setRow c row).heap[k]? = w.heap[k]? := fun k hk => ⟨hk, g1 k fun e => (h.mem.own b _ c hb hmut).2.2 (e ▸ hk)⟩
    have hlist : lapp (ltake l2 (qh l)) (ldrop l (qh l2)) = l2.take m ++ l.drop m := by
     simp only [ilen_eq]; unfold lapp ltake ldrop
     simp only [Int.toNat_natCast]
     rcases hmm with e | e
     ·rw [e, List.take_of_length_le (by omega), List.take_of_length_le (by omega)]
     ·rw [e, List.drop_of_length_le (by omega), List.drop_of_length_le (by omega)]
    rw [hlist]
    have hll : (l2.take m ++ l.drop m).length = l.length := by simp; omega
    refine h.write hb hmut g1 g2 g3 ⟨some c, cap, by rw [hll]; exact hσ, by rw [hll]; exact e2, by simp, fun c' hc' => ?_⟩ (by intro c' h'; rw [hσ] at h'; cases h'; rfl)
    cases hc'
    refine ⟨row, bt, setRow_heap w c vs _ bt _ e5, ?_, ?_, fun i hi j hj => ?_⟩
    ·rw [← hrow]
     simp only [List.size_toArray, List.length_append, List.length_drop, Array.length_toList, hcl, e6]
     have : m * kd.size ≤ cap * kd.size := Nat.mul_le_mul_right _ (by omega)
     omega
    ·intro v hv
     rw [← hrow] at hv
     simp only [List.mem_append] at hv
     rcases hv with hv | hv
     ·exact hone v hv
     ·exact e7 v (List.mem_of_mem_drop hv)
    ·refine DR.mono hD ?_
     have hj' : j < kd.size := jr hi hj
     have e0 : row.getD (i * kd.size + j) undef = (news.take (m * n.size) ++ vs.toList.drop (m * kd.size)).getD (i * kd.size + j) undef := by rw [← hrow]; simp
     rw [e0, Uu, hcl]
     by_cases him : i < m
     ·have hlt : i * kd.size + j < m * kd.size := by
       have : (i + 1) * kd.size ≤ m * kd.size := Nat.mul_le_mul_right _ (by omega)
       rw [Nat.add_mul] at this; omega
      rw [if_pos hlt]
      have e : (l2.take m ++ l.drop m)[i] = l2[i]'(by omega) := by
       rw [List.getElem_append_left (by simp; omega), List.getElem_take]
      have := hsrc.get i (by omega) j (by rw [Kd.cells_length]; exact hj')
      simp only [e]
      rw [List.getD_eq_getElem?_getD, List.getElem?_take, hnk, if_pos hlt, ← List.getD_eq_getElem?_getD]
      exact this
     ·have hge : m * kd.size ≤ i * kd.size := Nat.mul_le_mul_right _ (by omega)
      rw [if_neg (by omega)]
      have hi' : i < l.length := by rw [hll] at hi; exact hi
      have e : (l2.take m ++ l.drop m)[i] = l[i] := by
       rw [List.getElem_append_right (by simp; omega), List.getElem_drop]
       congr 1
       simp
       omega
      have := e8 i hi' j (by rw [Kd.cells_length]; exact hj')
      simp only [e]
      rw [List.getD_eq_getElem?_getD, List.getElem?_drop, show m * kd.size + (i * kd.size + j - m * kd.size) = i * kd.size + j by omega]
      simpa using this
def Wild (P : Program) (E : Env) (base : Nat) (w0 : GW) (ok : Nat → Prop) (en : Ent) (o : Oper) (a : Act) (k : St → Option R) (r : R) (res : Result Next) : Prop :=
 ∃ nx w' x G' s', res = .ok nx w' ∧ ((nx = .skip ∧ x = undef) ∨ nx = .value x) ∧ k s' = some r ∧ Rel E base w0 ok en G' s' (a.put o.dst x) w'
theorem VL {o : Oper} {k : St → Option R} {r : R} {m : Sem Unit} {s' : St} (hrun : m.run P w = .ok () w') (hk : k (s'.put o.dst .junk) = some r) (h : Rel E base w0 ok en G' s' a w') : Wild P E base w0 ok en o a k r ((do m; pure Next.skip : Sem Next).run P w) :=
 ⟨.skip, w', undef, G', _, by simp only [Sem.run_bind, hrun, Result.andThen_ok, Sem.run_pure], .inl ⟨rfl, rfl⟩, hk, h.put (.junk _) _⟩
theorem ZM {o : Oper} {k : St → Option R} {r : R} {m : Sem Value} {x : Value} {v : AV} {s' : St} (hrun : m.run P w = .ok x w') (hk : k (s'.put o.dst v) = some r) (h : Rel E base w0 ok en G' s' a w') (hv : VR G'.D G'.σ w' v x) : Wild P E base w0 ok en o a k r ((do pure (.value (← m)) : Sem Next).run P w) :=
 ⟨.value x, w', x, G', _, by simp only [Sem.run_bind, hrun, Result.andThen_ok, Sem.run_pure], .inr rfl, hk, h.put hv _⟩
theorem qir {kd : Kd} {ei : TyI} {us : Sh} {x y : AV} {d : Option Nat} {k : St → Option R} {r : R} (h : appZ kd ei us x y s d k = some r) :
  ∃ kk n, us = .int kk ∧ x = .nilsl ∧ y = .int .i64 n ∧ 0 < ei.bytes ∧ 0 < kd.size ∧ 0 ≤ n ∧ n * (ei.bytes : Int) < 140737488355329 ∧ k (({ s with M := s.M ++ [.vec kd (lrep n kd.zero)] } : St).put d (.vec s.M.length)) = some r := by
 unfold appZ at h
 split at h
 ·rename_i kk n
  replace h := qq h
  obtain ⟨hb, h⟩ := h
  rw [Bool.and_eq_true] at hb
  replace h := qA h
  obtain ⟨h0, h⟩ := h
  replace h := qA h
  obtain ⟨hfit, h⟩ := h
  exact ⟨kk, n, rfl, rfl, rfl, Nat.le_of_ble_eq_true hb.1, Nat.le_of_ble_eq_true hb.2, of_decide_eq_true h0, of_decide_eq_true hfit, h⟩
 ·cases h
theorem Nn {α : Type} {b : Bool} {x y r : Option α} (h : (bif b then x else y) = r) : (b = true ∧ x = r) ∨ (b = false ∧ y = r) := by
 cases b
 ·exact .inr ⟨rfl, h⟩
 ·exact .inl ⟨rfl, h⟩
theorem G8 (hE : EnvOK P E) (h : Rel E base w0 ok en G s a w) {o : Oper} {k : St → Option R} {r : R} {t : TypeId} {m x v : Operand}
  (hk : (match E.t t with
  | none => none
  | some i => match i.sh with
    | .map kt _ => match (E.t kt).map TyI.sh, evO s.T m, evO s.T x with
      | some (.int kk), .mref b, .int kk' n => bif decide (kk' = kk) then (match (frz s.M (evO s.T v))[b]? with
        | some (.map (.int kk1) kv l) => bif decide (kk1 = kk) then ((ka (frz s.M (evO s.T v)) (evO s.T v)).bind fun z => (z.as kv).bind fun z => k (({ s with M := (frz s.M (evO s.T v)).set b (.map (.int kk1) kv (gV l n z)) } : St).put o.dst .junk)) else none
        | some (.amap ks vs) => bif ks.all (G6 kk n) && oneA (evO s.T v) then k (({ s with M := (frz s.M (evO s.T v)).set b (.amap (ks ++ [.int kk n]) (vs ++ [evO s.T v])) } : St).put o.dst .junk) else none
        | _ => none) else none
      | _, _, _ => none
    | _ => none) = some r) : Wild P E base w0 ok en o a k r ((do Instr.mapUpdate t (a.eval m) (a.eval x) (a.eval v); pure Next.skip : Sem Next).run P w) := by
 split at hk
 ·simp at hk
 ·rename_i i hi
  obtain ⟨d, hd, hs, _⟩ := (hE.ty t i hi).und
  split at hk
  ·rename_i kt et hsh
   rw [hsh] at hs
   rw [JZ hs] at hd
   split at hk
   ·rename_i kk b kk' n hkt hm hx
    obtain ⟨ki, hki, hks⟩ := Option.map_eq_some_iff.1 hkt
    obtain ⟨d2, hd2, hs2, _⟩ := (hE.ty kt ki hki).und
    rw [hks] at hs2
    rw [vb hs2] at hd2
    replace hk := qq hk
    obtain ⟨hc, hk⟩ := hk
    have hkk : kk' = kk := by simpa using hc
    subst hkk
    obtain ⟨G1, h1, hσ1⟩ := h.frz (evO s.T v)
    have hev := qR (G := G1) (w := w) (a := a) h1.val
    have hmm := hev m
    have hxx := hev x
    have hvv := hev v
    simp only at hmm hxx hvv
    rw [hm] at hmm
    rw [hx] at hxx
    rw [hxx.int_inv]
    split at hk
    ·rename_i kk1 kv l hb
     replace hk := qq hk
     obtain ⟨hc, hk⟩ := hk
     have hkk : kk1 = kk' := by simpa using hc
     subst hkk
     obtain ⟨z, hz, hk⟩ := Option.bind_eq_some_iff.1 hk
     obtain ⟨z', hz', hk⟩ := Option.bind_eq_some_iff.1 hk
     obtain ⟨w', g1, g2⟩ := qdc hE h1 hd hd2 hmm hb (n := n) (AV.as_as hz' _ _ _ (zZ h1.mem hvv hz))
     exact VL g1 hk g2
    ·rename_i ks vs hb
     replace hk := qq hk
     obtain ⟨hc, hk⟩ := hk
     simp only [Bool.and_eq_true] at hc
     obtain ⟨w', g1, g2⟩ := map_any hE h1 hd hd2 hmm hb (n := n) hvv hc.1
     exact VL g1 hk g2
    ·simp at hk
   ·simp at hk
  ·simp at hk
theorem Du (hE : EnvOK P E) (h : Rel E base w0 ok en G s a w) {o : Oper} {k : St → Option R} {r : R} (hk : qez E o s k = some r) : Wild P E base w0 ok en o a k r ((execOp a.eval o).run P w) := by
 have hev := qR (G := G) (w := w) (a := a) h.val
 unfold qez at hk
 split at hk
 ·rename_i t ad x ho
  rw [show execOp a.eval o = (do Instr.storeAt t (a.eval ad) (a.eval x); pure .skip) by unfold execOp; rw [ho]]
  split at hk
  ·simp at hk
  ·rename_i i hi
   replace hk := qq hk
   obtain ⟨hf, hk⟩ := hk
   split at hk
   ·rename_i b off had
    have hu := hev ad
    rw [had] at hu
    split at hk
    ·rename_i cs hb
     obtain ⟨cs', hs, hk⟩ := Option.bind_eq_some_iff.1 hk
     obtain ⟨w', g1, g2⟩ := UZ hE h hi hu (hev x) hf hb hs
     exact VL g1 hk g2
    ·simp at hk
   ·rename_i b j off had
    obtain ⟨G1, h1, hσ1⟩ := h.frz (evO s.T x)
    have hev1 := qR (G := G1) (w := w) (a := a) h1.val
    have hu := hev1 ad
    simp only at hu
    rw [had] at hu
    split at hk
    ·rename_i e l hb
     obtain ⟨y, hy, hk⟩ := Option.bind_eq_some_iff.1 hk
     obtain ⟨v, hv, hk⟩ := Option.bind_eq_some_iff.1 hk
     obtain ⟨cs, hcs, hk⟩ := Option.bind_eq_some_iff.1 hk
     obtain ⟨y', hy', hk⟩ := Option.bind_eq_some_iff.1 hk
     obtain ⟨w', g1, g2⟩ := N9 hE h1 hi hu (hev1 x) hf hb hy hv hcs hy'
     exact VL g1 hk g2
    ·simp at hk
   ·rename_i b off n j had
    have hu := hev ad
    rw [had] at hu
    split at hk
    ·rename_i cs kk v hb hx
     replace hk := qq hk
     obtain ⟨hle, hk⟩ := hk
     obtain ⟨l, hl, hk⟩ := Option.bind_eq_some_iff.1 hk
     have hxx := hev x
     rw [hx] at hxx hf
     obtain ⟨w', g1, g2⟩ := NA hE h hi hu hxx hf hb (Nat.le_of_ble_eq_true hle) hl
     exact VL g1 hk g2
    ·simp at hk
   ·simp at hk
 ·rename_i t m x v ho
  rw [show execOp a.eval o = (do Instr.mapUpdate t (a.eval m) (a.eval x) (a.eval v); pure .skip) by unfold execOp; rw [ho]]
  exact G8 hE h hk
 ·rename_i t m x v ho
  rw [show execOp a.eval o = (do Instr.mapUpdate t (a.eval m) (a.eval x) (a.eval v); pure .skip) by unfold execOp; rw [ho]]
  exact G8 hE h hk
 ·rename_i c ho
  have hex : ∀ {b : Builtin} {f : Sem Value}, c.callee = .builtin b → (builtin b c.argTypes o.type (c.args.map fun | .const _ => true | _ => false) (c.args.map a.eval) = (do pure (.value (← f)))) → execOp a.eval o = (do pure (.value (← f))) := by
   intro b f hc hs
   unfold execOp
   rw [ho]
   simp only [resolve, hc, pure_bind, invoke]
   exact hs
  split at hk
  ·rename_i hc
   split at hk
   ·rename_i x y t u hxy htu
    have eA : c.args.map a.eval = #[a.eval x, a.eval y] := by apply Array.ext'; rw [Array.toList_map, hxy]; rfl
    have eT : c.argTypes = #[t, u] := by apply Array.ext'; rw [htu]
    rw [hex (f := Builtin.append_ #[t, u] o.type #[a.eval x, a.eval y]) hc (by rw [eA, eT]; rfl)]
    split at hk
    ·rename_i et us ht hu
     obtain ⟨it, hit, hsh⟩ := Option.map_eq_some_iff.1 ht
     obtain ⟨iu, hiu, hsu⟩ := Option.map_eq_some_iff.1 hu
     split at hk
     ·rename_i ei hei
      split at hk
      ·rename_i kd hkd
       rcases Nn hk with ⟨hc2, hk⟩ | ⟨_, hk⟩
       rotate_left
       ·obtain ⟨kk, n, e1, hx, hy, b1, b2, h0, hfit, hk⟩ := qir hk
        have hxx := hev x
        rw [hx] at hxx
        have hyy := hev y
        rw [hy] at hyy
        rw [hxx.nilsl_inv, hyy.int_inv]
        obtain ⟨rr, w', G', g1, g2, g3⟩ := Dh (ty := o.type) hE h hit hsh hiu (hsu.trans e1) hei hkd b1 b2 h0 hfit
        exact ZM g1 hk g2 g3
       simp only [Bool.and_eq_true] at hc2
       have hby : 0 < ei.bytes := Nat.le_of_ble_eq_true hc2.2
       have hsrc : JV iu.sh = true := by rw [hsu]; exact hc2.1
       split at hk
       ·rename_i b hx
        have hxx := hev x
        rw [hx] at hxx
        split at hk
        ·rename_i e' l hb
         split at hk
         ·rename_i he
          subst he
          obtain ⟨l2, hl2, hk⟩ := Option.bind_eq_some_iff.1 hk
          replace hk := Ji hk
          obtain ⟨hlk, hk⟩ := hk
          replace hk := qA hk
          obtain ⟨hfit, hk⟩ := hk
          obtain ⟨rr, w', sb, g1, g2, g3⟩ := Ut (ty := o.type) hE h hit hsh hiu hsrc hei hkd hby hxx hb (hev y) hl2 hlk (fit2 hfit)
          exact ZM g1 hk g2 g3
         ·simp at hk
        ·simp at hk
       ·rename_i e' l hx
        have hxx := hev x
        rw [hx] at hxx
        split at hk
        ·rename_i he
         subst he
         obtain ⟨l2, hl2, hk⟩ := Option.bind_eq_some_iff.1 hk
         replace hk := qA hk
         obtain ⟨hpos, hk⟩ := hk
         replace hk := qA hk
         obtain ⟨hfit, hk⟩ := hk
         obtain ⟨A, hA⟩ := hxx.slc_inv.slc_inv
         rw [hA] at hxx ⊢
         have hpos' : 0 < l2.length := fit0 hpos
         obtain ⟨rr, w', G', g1, g2, g3⟩ := ZB (ty := o.type) (yb := .slc _ l) hE h hit hsh hiu hsrc hei hkd hby hxx (by simp [zo, AV.asSl, zk]) (hev y) hl2 hpos' (fit2 hfit)
         exact ZM g1 hk g2 g3
        ·simp at hk
       ·rename_i b lo hi hx
        have hxx := hev x
        rw [hx] at hxx
        split at hk
        ·rename_i e' l e2 l2 hb hy
         have hyy := hev y
         rw [hy] at hyy
         split at hk
         ·rename_i he
          obtain ⟨rfl, rfl⟩ := he
          replace hk := Ji hk
          obtain ⟨hlk, hk⟩ := hk
          replace hk := qA hk
          obtain ⟨hlo, hk⟩ := hk
          obtain rfl : lo = 0 := by simpa [ieq] using hlo
          replace hk := qA hk
          obtain ⟨hfit, hk⟩ := hk
          obtain ⟨rr, w', G', g1, g2, g3⟩ := qak (ty := o.type) hE h hit hsh hiu hsrc hei hkd hby hxx hb hyy hlk (fit2 hfit)
          exact ZM g1 hk g2 g3
         ·simp at hk
        ·simp at hk
       ·rename_i hx
        have hxx := hev x
        rw [hx] at hxx
        obtain ⟨l2, hl2, hk⟩ := Option.bind_eq_some_iff.1 hk
        replace hk := qA hk
        obtain ⟨hfit, hk⟩ := hk
        rw [hxx.nilsl_inv]
        obtain ⟨rr, w', G', g1, g2, g3⟩ := append_nil (ty := o.type) hE h hit hsh hiu hsrc hei hkd hby (hev y) hl2 (fit1 hfit)
        exact ZM g1 hk g2 g3
       ·simp at hk
      ·simp at hk
     ·simp at hk
    ·simp at hk
   ·simp at hk
  ·rename_i hc
   split at hk
   ·rename_i x y t u hxy htu
    have eA : c.args.map a.eval = #[a.eval x, a.eval y] := by apply Array.ext'; rw [Array.toList_map, hxy]; rfl
    have eT : c.argTypes = #[t, u] := by apply Array.ext'; rw [htu]
    rw [hex (f := Builtin.copy_ #[t, u] o.type #[a.eval x, a.eval y]) hc (by rw [eA, eT]; rfl)]
    split at hk
    ·rename_i et ht
     obtain ⟨it, hit, hsh⟩ := Option.map_eq_some_iff.1 ht
     split at hk
     ·rename_i ei hei
      split at hk
      ·rename_i kd b hkd hx
       have hxx := hev x
       rw [hx] at hxx
       split at hk
       ·rename_i e' l hb
        split at hk
        ·rename_i he
         subst he
         obtain ⟨l2, hl2, hk⟩ := Option.bind_eq_some_iff.1 hk
         obtain ⟨w', g1, g2⟩ := MV (u := u) (ty := o.type) hE h hit hsh hei hkd hxx hb (hev y) hl2
         exact ZM g1 hk g2 (.data _ _ (.int _ _))
        ·simp at hk
       ·simp at hk
      ·simp at hk
     ·simp at hk
    ·simp at hk
   ·simp at hk
  ·simp at hk
 ·simp at hk
end Go.Sx
namespace Go.Sx
open Go
variable {R : Type} {E : Env} {M : Mem}
theorem gE {α β : Type} (b : Bool) (x y : Option α) (f : α → Option β) : (cnd b x y).bind f = cnd b (x.bind f) (y.bind f) := by cases b <;> rfl
theorem jq {α β : Type} (b : Bool) (x y : Option α) (f : α → Option β) : (bif b then x else y : Option α).bind f = bif b then x.bind f else y.bind f := by cases b <;> rfl
theorem Yu (t : TypeId) (a : AV) (k : AV → Option R) : Jw E M t a k = (Jw E M t a some).bind k := by
 unfold Jw
 repeat' split
 all_goals simp [jq, Option.bind_assoc, obind]
theorem RA (t : TypeId) (x ix : AV) (k : AV → Option R) : idxK E M t x ix k = (idxK E M t x ix some).bind k := by
 unfold idxK
 repeat' split
 all_goals simp [jq, gE, Option.bind_assoc, obind, cnd]
theorem QF (t : TypeId) (x : AV) (f : Nat) (k : AV → Option R) : jB E t x f k = (jB E t x f some).bind k := by
 unfold jB
 repeat' split
 all_goals simp
theorem Nm (op : BinOp) (t : TypeId) (c : Bool) (a b : AV) (k : AV → Option R) : binK E op t c a b k = (binK E op t c a b some).bind k := by
 unfold binK
 repeat' split
 all_goals simp [jq, gE, Option.bind_assoc, obind, cnd]
theorem YF (src dst : TypeId) (x : AV) (k : AV → Option R) : YG E M src dst x k = (YG E M src dst x some).bind k := by
 unfold YG
 repeat' split
 all_goals simp [jq, cnd]
theorem NF {α : Type} (l : List α) (lo hi : Option Int) (f : List α → AV) (k : AV → Option R) : vR l lo hi (fun l => k (f l)) = (vR l lo hi fun l => some (f l)).bind k := by
 unfold vR
 repeat' split
 all_goals simp [jq, cnd]
theorem NE (b : Nat) (n : Int) (lo hi : Option Int) (k : AV → Option R) : Qx b n lo hi k = (Qx b n lo hi some).bind k := by
 unfold Qx
 repeat' split
 all_goals simp [jq, cnd]
theorem Gc (t : TypeId) (x : AV) (lo hi mx : Option AV) (k : AV → Option R) : va E M t x lo hi mx k = (va E M t x lo hi mx some).bind k := by
 unfold va
 split
 ·rfl
 ·rw [Option.bind_assoc]
  congr 1
  funext a
  rw [Option.bind_assoc]
  congr 1
  funext b
  repeat' split
  all_goals simp [jq, cnd, Option.bind_assoc, NF _ _ _ _ k, NE _ _ _ _ k]
theorem R0 (t : TypeId) (x : AV) (k : AV → Option R) : lenK E M t x k = (lenK E M t x some).bind k := by
 unfold lenK
 repeat' split
 all_goals simp
theorem Nj (t : TypeId) (x : AV) (k : AV → Option R) : capK E t x k = (capK E t x some).bind k := by
 unfold capK
 repeat' split
 all_goals simp
theorem Yt (kk : IntKind) (z x : AV) (ok : Bool) (k : AV → Option R) : ∀ (ks vs : List AV), Qr kk z x ok k ks vs = (Qr kk z x ok some ks vs).bind k
 | [], [] => by simp [Qr]
 | [], _ :: _ => by simp [Qr]
 | v :: _, [] => by cases v <;> simp [Qr]
 | y :: ks, v :: vs => by
   cases y <;> simp [Qr, jq, gE, Option.bind_assoc, Yt kk z x ok k ks vs]
theorem KK (t : TypeId) (m x : AV) (ok : Bool) (k : AV → Option R) : QY E M t m x ok k = (QY E M t m x ok some).bind k := by
 unfold QY
 repeat' split
 all_goals simp [jq, cnd, Yt _ _ _ _ k]
theorem YI (hctr : (∀ f c, look E.ctr f = some c → ∀ (R : Type) (args : List AV) (k : AV → Option R), c.run args k = (c.run args some).bind k) ∧ ∀ f c, look E.own f = some c → ∀ (R : Type) (args : List AV) (k : AV → Option R), c.run args k = (c.run args some).bind k) (ev : Operand → AV) (slot : Nat) (o : Oper) (k : AV → Option Blk → Option R) :
  zu E ev M slot o k = (zu E ev M slot o fun v b => some (v, b)).bind fun p => k p.1 p.2 := by
 unfold zu
 split
 ·rfl
 ·repeat' split
  all_goals simp [jq, gE]
 ·repeat' split
  all_goals simp [gE]
 ·repeat' split
  all_goals simp
 ·repeat' split
  all_goals simp [jq]
 ·repeat' split
  all_goals simp [Option.bind_assoc]
 ·repeat' split
  all_goals simp [jq, Option.bind_assoc]
 ·rw [Yu _ _ (fun v => k v none), Yu _ _ (fun v => some (v, none)), Option.bind_assoc]; rfl
 ·repeat' split
  all_goals simp
 ·rw [Nm _ _ _ _ _ (fun v => k v none), Nm _ _ _ _ _ (fun v => some (v, none)), Option.bind_assoc]; rfl
 ·repeat' split
  all_goals simp
 ·rw [YF _ _ _ (fun v => k v none), YF _ _ _ (fun v => some (v, none)), Option.bind_assoc]; rfl
 ·rfl
 ·repeat' split
  all_goals simp
 ·repeat' split
  all_goals simp [jq, gE]
 ·rw [Gc _ _ _ _ _ (fun v => k v none), Gc _ _ _ _ _ (fun v => some (v, none)), Option.bind_assoc]; rfl
 ·rw [QF _ _ _ (fun v => k v none), QF _ _ _ (fun v => some (v, none)), Option.bind_assoc]; rfl
 ·repeat' split
  all_goals simp [Option.bind_assoc]
 ·rw [RA _ _ _ (fun v => k v none), RA _ _ _ (fun v => some (v, none)), Option.bind_assoc]; rfl
 ·repeat' split
  all_goals simp [obind, Option.bind_assoc]
 ·rw [KK _ _ _ _ (fun v => k v none), KK _ _ _ _ (fun v => some (v, none)), Option.bind_assoc]; rfl
 ·repeat' split
  all_goals simp
 ·split
  ·split
   ·split
    ·rw [R0 _ _ (fun v => k v none), R0 _ _ (fun v => some (v, none)), Option.bind_assoc]; rfl
    ·rfl
   ·repeat' split
    all_goals simp
   ·repeat' split
    all_goals simp
   ·split
    ·rw [Nj _ _ (fun v => k v none), Nj _ _ (fun v => some (v, none)), Option.bind_assoc]; rfl
    ·rfl
   ·rfl
  ·split
   ·split
    ·rename_i ct hct
     rw [Option.bind_assoc]
     congr 1
     funext vs
     rw [hctr.2 _ _ hct _ _ (fun v => ownK slot v k), hctr.2 _ _ hct _ _ (fun v => ownK slot v fun v b => some (v, b)), Option.bind_assoc]
     congr 1
     funext v
     unfold ownK
     split <;> rfl
    ·split
     ·rename_i ct hct
      rw [Option.bind_assoc]
      congr 1
      funext vs
      rw [hctr.1 _ _ hct _ _ (fun v => k v none), hctr.1 _ _ hct _ _ (fun v => some (v, none)), Option.bind_assoc]; rfl
     ·split <;> rfl
   ·rfl
  ·rfl
 ·rfl
end Go.Sx
namespace Go.Sx
open Go
open Go.RowKit (Below)
variable {P : Program} {E : Env} {base : Nat} {w0 : GW} {ok : Nat → Prop} {en : Ent} {G G' : Gam} {s : St} {a : Act} {w w' : GW} {R : Type} {M : Mem}
def Wt (ops : Array Oper) (o : Oper) (T : List AV) (b : Bool) : Prop :=
 match o.guard with
 | none => b = true
 | some (j, want) => ∃ g, (ops[j]?).bind (·.dst) = some g ∧ (T[g]? = some (.bool (if b then want else !want)) ∨ (b = false ∧ T[g]? = some .undef))
theorem D5 {α : Type} {l : List α} {i : Nat} {x : α} (h : l[i]? = some x) : l.set i x = l := by
 apply List.ext_getElem?
 intro j
 rw [List.getElem?_set]
 by_cases e : i = j
 ·subst e
  have := (List.getElem?_eq_some_iff.1 h).1
  rw [if_pos rfl, if_pos this, h]
 ·simp [e]
theorem kw {ops : Array Oper} {o : Oper} {s : St} {yes no : St → Option R} {r : R} (h : GQ ops o s yes no = some r) : (Wt ops o s.T true ∧ yes s = some r) ∨ (Wt ops o s.T false ∧ no s = some r) := by
 unfold GQ at h
 unfold Wt
 split at h
 ·rename_i hg
  rw [hg]
  exact .inl ⟨rfl, h⟩
 ·rename_i j want hg
  rw [hg]
  split at h
  ·simp at h
  ·rename_i g hj
   simp only [qa4, z5] at h
   split at h
   ·rename_i t ht
    cases t with
    | true =>
      have e : ({ s with T := s.T.set g (.bool true) } : St) = s := by rw [D5 ht]
      simp only [cnd, cond_true, e] at h
      cases want with
      | true => exact .inl ⟨⟨g, hj, .inl ht⟩, h⟩
      | false => exact .inr ⟨⟨g, hj, .inl ht⟩, h⟩
    | false =>
      have e : ({ s with T := s.T.set g (.bool false) } : St) = s := by rw [D5 ht]
      simp only [cnd, cond_false, e] at h
      cases want with
      | true => exact .inr ⟨⟨g, hj, .inl ht⟩, h⟩
      | false => exact .inl ⟨⟨g, hj, .inl ht⟩, h⟩
   ·rename_i ht
    exact .inr ⟨⟨g, hj, .inr ⟨rfl, ht⟩⟩, h⟩
   ·simp at h
theorem Wt.wanted {ops : Array Oper} {o : Oper} {T : List AV} {b : Bool} (h : Wt ops o T b) (hsize : a.tmps.size = T.length) (hval : ∀ g t, (∃ j want, o.guard = some (j, want) ∧ (ops[j]?).bind (·.dst) = some g) → T[g]? = some (.bool t) → a.tmps.getD g undef = .bool t) (hval2 : ∀ g, (∃ j want, o.guard = some (j, want) ∧ (ops[j]?).bind (·.dst) = some g) → T[g]? = some .undef → a.tmps.getD g undef = undef) : Region.wanted o (yielded ops a.tmps) = b := by
 unfold Wt at h
 unfold Region.wanted
 split at h
 ·rename_i hg; rw [hg, h]
 ·rename_i j want hg
  rw [hg]
  obtain ⟨g, hj, ht | ⟨rfl, ht⟩⟩ := h
  rotate_left
  ·have hv := hval2 g ⟨j, want, hg, hj⟩ ht
   have hlt : g < a.tmps.size := by rw [hsize]; exact (List.getElem?_eq_some_iff.1 ht).1
   have hy : yielded ops a.tmps j = none := by
    unfold yielded
    rw [hj]
    simp only [Option.bind_some]
    rw [Array.getElem?_eq_getElem hlt]
    have : a.tmps[g] = undef := by
     rw [← hv]; simp [hlt]
    rw [this]
    rfl
   simp only [hy]
   rfl
  have hv := hval g _ ⟨j, want, hg, hj⟩ ht
  have hlt : g < a.tmps.size := by rw [hsize]; exact (List.getElem?_eq_some_iff.1 ht).1
  have hy : yielded ops a.tmps j = some (if b then want else !want) := by
   unfold yielded
   rw [hj]
   simp only [Option.bind_some]
   rw [Array.getElem?_eq_getElem hlt]
   have : a.tmps[g] = .bool (if b then want else !want) := by
    rw [← hv]; simp [hlt]
   rw [this]
  simp only [hy]
  cases b <;> cases want <;> rfl
theorem Rel.undefs (h : Rel E base w0 ok en G s a w) {g : Nat} (ht : s.T[g]? = some .undef) : a.tmps.getD g undef = undef := by
 have := h.val g _ ht
 revert this
 generalize a.tmps.getD g undef = x
 intro this
 cases this with
 | data _ _ h => cases h
 | undef => rfl
theorem Rel.bools (h : Rel E base w0 ok en G s a w) {g : Nat} {t : Bool} (ht : s.T[g]? = some (.bool t)) : a.tmps.getD g undef = .bool t := (h.val g _ ht).bool_inv
def ZE (P : Program) (E : Env) (base : Nat) (w0 : GW) (ok : Nat → Prop) (run : zC R) : Prop :=
 ∀ (g : Nat) (fn : Func) (args : List AV) (s : St) (k : AV → St → Option R) (r : R) (en : Ent) (G : Gam) (a : Act) (w : GW) (xs : List Value), look E.inl g = some fn → run g fn args s k = some r → Rel E base w0 ok en G s a w →
  args.length = xs.length → (∀ i (h : i < args.length) (h' : i < xs.length), VR G.D G.σ w args[i] xs[i]) →
  Calls P g xs.toArray w fun e w' => ∃ v x G' s', e = .returned x ∧ k v s' = some r ∧ Rel E base w0 ok en G' s' a w' ∧ VR G'.D G'.σ w' v x
theorem wild_wp {o : Oper} {k : St → Option R} {r : R} (h : Wild P E base w0 ok en o a k r ((execOp a.eval o).run P w)) {K : Act → GW → Prop} {Q : Exit → Act → GW → Prop} (hK : ∀ s' G' a' w', k s' = some r → Rel E base w0 ok en G' s' a' w' → K a' w') : o.wp P a w K Q := by
 obtain ⟨nx, w', x, G', s', hrun, hx, hk, hrel⟩ := h
 unfold Oper.wp
 rw [hrun]
 rcases hx with ⟨rfl, rfl⟩ | rfl
 ·exact hK _ _ _ _ hk hrel
 ·exact hK _ _ _ _ hk hrel
theorem Vv {o : Oper} {slot : Nat} {b : Option Blk} {v : AV} (h : zw P G w slot b v ((execOp a.eval o).run P w)) {K : Act → GW → Prop} {Q : Exit → Act → GW → Prop} (hK : ∀ x G' w', Step G w slot b G' w' → VR G'.D G'.σ w' v x → K (a.put o.dst x) w') : o.wp P a w K Q := by
 unfold Oper.wp
 generalize (execOp a.eval o).run P w = res at h
 unfold zw at h
 split at h
 ·rename_i x w1
  obtain ⟨G', h1, h2⟩ := h
  exact hK x G' w1 h1 h2
 ·rename_i f args w1
  obtain ⟨rfl, h⟩ := h
  refine h.mono ?_
  rintro e w2 ⟨x, rfl, G', h1, h2⟩
  exact hK x G' w2 h1 h2
 ·exact h.elim
theorem KR (M : Mem) (v : AV) : (frz1 M v).length = M.length := by cases v <;> simp [frz1]
theorem KP : ∀ (vs : List AV) (M : Mem), (frzs M vs).length = M.length
 | [], _ => rfl
 | v :: r, M => (KP r (frz1 M v)).trans (KR M v)
theorem MJ (M : Mem) (v : AV) : (frz M v).length = M.length := by
 unfold frz
 split
 ·exact KP _ _
 ·exact KR _ _
theorem vq : ∀ (vs : List AV) (M : Mem), (frzArgs M vs).length = M.length
 | [], _ => rfl
 | v :: r, M => (vq r (frz M v)).trans (MJ M v)
theorem Qa (ev : Operand → AV) (M : Mem) (o : Oper) : (frzOp ev M o).length = M.length := by
 unfold frzOp
 split
 ·split
  ·exact vq _ _
  ·rfl
 ·exact vq _ _
 ·rfl
theorem Ke {D D' : Nat → Prop} {σ σ' : Nat → SB} {v : AV} {x : Value} (h : JD v = true) (hv : VR D σ w v x) : VR D' σ' w v x := by
 cases v with
 | int k n => rw [hv.int_inv]; exact .data _ _ (.int _ _)
 | bool b => rw [hv.bool_inv]; exact .data _ _ (.bool _)
 | str s => rw [hv.str_inv]; exact .data _ _ (.str _)
 | _ => simp [JD] at h
theorem qgh {D D' : Nat → Prop} {σ σ' : Nat → SB} {v : AV} {x : Value} (h : B1 v = true) (hv : VR D σ w v x) : VR D' σ' w v x := by
 unfold B1 at h
 split at h
 ·obtain ⟨xs, h1, h2, rfl⟩ := hv.tup_inv
  rw [List.all_eq_true] at h
  exact .tup _ xs h1 fun i a b => Ke (h _ (List.getElem_mem a)) (h2 i a b)
 ·exact Ke h hv
theorem MS (hE : EnvOK P E) (h : Rel E base w0 ok en G s a w) {o : Oper} {b : Nat} (hc : Uf E s o = some b) {k : St → Option R} {r : R} (hk : cutK s b o.dst k = some r) :
  ∃ v s' G', (execOp a.eval o).run P w = .ok (.value v) w ∧ k (s'.put o.dst (.vec b)) = some r ∧ Rel E base w0 ok en G' s' a w ∧ VR G'.D G'.σ w (.vec b) v := by
 unfold Uf at hc
 split at hc
 ·rename_i t x hi ho
  split at hc
  ·rename_i i kk ht hx hhi
   split at hc
   ·rename_i et e l hsh hm
    replace hc := qq hc
    obtain ⟨hc1, hc2⟩ := hc
    cases hc2
    rw [Bool.and_eq_true] at hc1
    have hlock : s.lock.any (Nat.beq b) = false := by
     have := hc1.2
     cases hh : s.lock.any (Nat.beq b) with
     | false => rfl
     | true => rw [hh] at this; cases this
    unfold cutK at hk
    rw [hm] at hk
    simp only at hk
    have hev := qR (G := G) (w := w) (a := a) h.val
    have hsl : va E s.M t (evO s.T x) none (some (evO s.T hi)) none (fun v => some v) = some (.vsl b 0 0) := by
     have h0 : ile 0 (qh l) = true := by unfold ile; rw [ilen_eq]; exact decide_eq_true (by omega)
     unfold va
     rw [ht, hx, hhi]
     simp only [JE, Rg, Option.bind_some, hsh, hm, hc1.1, cond_true, Qx]
     show cnd (ile 0 0) (cnd (ile 0 (qh l)) (some (AV.vsl b 0 0)) none) none = _
     rw [h0]
     rfl
    obtain ⟨v, z, h1, h2, h3⟩ := JW hE h.mem h.glob (hev x) (kU hev none) (kU hev (some hi)) (kU hev none) hsl
    cases h1
    obtain ⟨G', g1, g2⟩ := h.cut h3 hm hlock
    refine ⟨z, _, G', ?_, hk, g1, g2⟩
    rw [show execOp a.eval o = (do pure (.value (← Instr.sliceAt t (a.eval x) none (some (a.eval hi)) none))) by unfold execOp; rw [ho]; rfl]
    have h2' : (Instr.sliceAt t (a.eval x) none (some (a.eval hi)) none).run P w = .ok z w := h2
    simp only [Sem.run_bind, h2', Result.andThen_ok, Sem.run_pure]
   ·cases hc
  ·cases hc
 ·cases hc
theorem Kg (hE : EnvOK P E) {run : zC R} (hrun : ZE P E base w0 ok run) (h : Rel E base w0 ok en G s a w) {ops : Array Oper} {o : Oper} {k : St → Option R} {r : R} (hk : opK E run ops o s k = some r) {K : Act → GW → Prop} {Q : Exit → Act → GW → Prop} (hK : ∀ s' G' a' w', k s' = some r → Rel E base w0 ok en G' s' a' w' → K a' w') :
  (Region.wanted o (yielded ops a.tmps) = true ∧ o.wp P a w K Q) ∨ (Region.wanted o (yielded ops a.tmps) = false ∧ K (a.put o.dst undef) w) := by
 unfold opK at hk
 rcases kw hk with ⟨hw, hk⟩ | ⟨hw, hk⟩
 ·refine .inl ⟨hw.wanted h.size (fun g t _ ht => h.bools ht) (fun g _ ht => h.undefs ht), ?_⟩
  cases hwild : vn o with
  | true =>
    rw [hwild] at hk
    exact wild_wp (Du hE h hk) hK
  | false =>
    rw [hwild] at hk
    simp only [cond_false] at hk
    split at hk
    ·rename_i f fn args hc
     unfold zi at hc
     split at hc
     ·rename_i c ho
      split at hc
      ·rename_i x hcal
       split at hc
       ·rename_i p hp
        split at hc
        ·rename_i fn' hfn
         cases hc
         obtain ⟨xs, e1, e2, e3⟩ := Qi (qR (G := G) (w := w) (a := a) h.val) ho hcal hp
         obtain ⟨i1, i2, i3⟩ := hE.inl _ _ hfn
         unfold Oper.wp
         rw [e1, kO i1 i2 i3]
         refine (hrun _ _ _ _ _ r en G a w xs hfn hk h e2 e3).mono ?_
         rintro e w' ⟨v, x, G', s', rfl, h1, h2, h3⟩
         exact hK _ _ _ _ h1 (h2.put h3 _)
        ·simp at hc
       ·simp at hc
      ·simp at hc
     ·simp at hc
    ·split at hk
     ·rename_i b hcu
      obtain ⟨v, s', G', h1, h2, h3, h4⟩ := MS hE h hcu hk
      unfold Oper.wp
      rw [h1]
      exact hK _ _ _ _ h2 (h3.put h4 _)
     split at hk
     ·rename_i n t hsn
      obtain ⟨b, hrun, hb⟩ := D4 hE (qR (G := G) (w := w) (a := a) h.val) hsn
      unfold Oper.wp
      rw [hrun]
      have fin : ∀ b, k (s.put o.dst (.bool b)) = some r → o.upon P a K Q (.ok (.value (.bool b)) w) := fun b hkb => hK _ _ _ _ hkb (h.put (.data _ _ (.bool b)) _)
      unfold cnd at hk
      cases hn : ilt 0 n with
      | true =>
        rw [hn] at hk
        rcases hb with rfl | ⟨_, hf⟩
        ·exact fin _ hk
        ·rw [hn] at hf; cases hf
      | false =>
        rw [hn] at hk
        obtain ⟨h1, h2⟩ := Gg (show q6 _ _ = some r from hk)
        rcases hb with rfl | ⟨rfl, _⟩
        ·exact fin _ h2
        ·exact fin _ h1
     obtain ⟨G1, h1, hσ⟩ := h.frzOp (evO s.T) o
     obtain ⟨v, b, hk', hcalm⟩ := JL hE h1.mem h1.glob h1.base (h1.mem.out _ (Nat.le_refl _)) (qR (G := G1) (w := w) (a := a) h1.val) (by
      simp only [Qa]
      exact hk)
     cases hpl : (B1 v && b.isNone) with
     | false =>
       rw [hpl] at hk'
       refine Vv hcalm fun x G' w' hst hv => ?_
       exact hK _ _ _ _ hk' ((h1.push hst).put hv _)
     | true =>
       rw [hpl] at hk'
       rw [Bool.and_eq_true] at hpl
       have hb : b = none := Option.isNone_iff_eq_none.1 hpl.2
       subst hb
       refine Vv hcalm fun x G' w' hst hv => ?_
       have hst2 : Step G w s.M.length none G w' := ⟨hst.below, fun _ h => h, fun _ h => .inl h, fun _ _ => rfl, rfl⟩
       have hv2 : VR G.D G.σ w' v x := qgh hpl.1 hv
       exact hK _ _ _ _ hk' ((h.push hst2).put hv2 _)
 ·exact .inr ⟨hw.wanted h.size (fun g t _ ht => h.bools ht) (fun g _ ht => h.undefs ht), hK _ _ _ _ hk (h.put .undef _)⟩
theorem G3 (hE : EnvOK P E) {run : zC R} (hrun : ZE P E base w0 ok run) {ops : Array Oper} {k : St → Option R} {r : R} {Q : Exit → Act → GW → Prop} (hQ : ∀ s' G' a' w', k s' = some r → Rel E base w0 ok en G' s' a' w' → Q .normal a' w') :
  ∀ (l : List Oper) (s : St) (G : Gam) (a : Act) (w : GW), opsK E run ops l s k = some r → Rel E base w0 ok en G s a w → wpList P ops Q l a w
 | [], s, G, a, w, hk, h => hQ _ _ _ _ hk h
 | o :: l, s, G, a, w, hk, h => by
   unfold opsK at hk
   have := Kg hE hrun h hk (K := wpList P ops Q l) (Q := Q) fun s' G' a' w' hk' h' => G3 hE hrun hQ l s' G' a' w' (by rw [qbm] at hk'; exact hk') h'
   unfold wpList
   rcases this with ⟨h1, h2⟩ | ⟨h1, h2⟩
   ·rw [if_pos h1]; exact .inl h2
   ·rw [if_neg (by rw [h1]; simp)]; exact h2
theorem gb (hE : EnvOK P E) {ops : Array Oper} {k : St → Option R} {r : R} {Q : Exit → Act → GW → Prop} :
  ∀ (l : List Oper) (s : St) (G : Gam) (a : Act) (w : GW), vr E ops l s k = some r → Rel E base w0 ok en G s a w →
   (∀ s' G' a' w', k s' = some r → Rel E base w0 ok en G' s' a' w' → Below w.heap.size w w' → s'.T.length = s.T.length → (∀ t, t ∉ l.filterMap (·.dst) → a'.tmps.getD t undef = a.tmps.getD t undef) → Q .normal a' w') → wpList P ops Q l a w
 | [], s, G, a, w, hk, h, hQ => hQ _ _ _ _ hk h (Below.refl _ _) rfl fun _ _ => rfl
 | o :: l, s, G, a, w, hk, h, hQ => by
   unfold vr at hk
   have step : ∀ (s' : St) (G' : Gam) (x : Value) (w' : GW), vr E ops l s' k = some r → Rel E base w0 ok en G' s' (a.put o.dst x) w' → Below w.heap.size w w' → s'.T.length = s.T.length → wpList P ops Q l (a.put o.dst x) w' := by
    intro s' G' x w' hk' h' hb hl
    refine gb hE l s' G' _ w' hk' h' fun s2 G2 a2 w2 g1 g2 g3 g4 g5 => ?_
    refine hQ s2 G2 a2 w2 g1 g2 (hb.trans (g3.mono hb.size)) (g4.trans hl) fun t ht => ?_
    have ht1 : t ∉ l.filterMap (·.dst) := fun hm => ht (by
     rw [List.filterMap_cons]
     split
     ·exact hm
     ·exact List.mem_cons_of_mem _ hm)
    have ht2 : o.dst ≠ some t := fun e => ht (by rw [List.filterMap_cons, e]; exact List.mem_cons_self)
    rw [g5 t ht1]
    cases hd : o.dst with
    | none => rfl
    | some d =>
      have : d ≠ t := fun e => ht2 (by rw [hd, e])
      simp only [Act.put, Array.getD_eq_getD_getElem?]
      rw [Array.getElem?_setIfInBounds_ne this]
   have hlen : ∀ (s' : St) (d : Option Nat) (v : AV), (s'.put d v).T.length = s'.T.length := by
    intro s' d v
    cases d <;> simp [St.put, z5]
   unfold wpList
   rcases kw hk with ⟨hw, hk⟩ | ⟨hw, hk⟩
   ·rw [if_pos (hw.wanted h.size (fun g t _ ht => h.bools ht) (fun g _ ht => h.undefs ht))]
    refine .inl ?_
    obtain ⟨G1, h1, hσ⟩ := h.frzOp (evO s.T) o
    obtain ⟨v, b, hk', hcalm⟩ := JL hE h1.mem h1.glob h1.base (h1.mem.out _ (Nat.le_refl _)) (qR (G := G1) (w := w) (a := a) h1.val) (by
     simp only [Qa]
     exact hk)
    rw [gC] at hk'
    exact Vv hcalm fun x G' w' hst hv => step _ G' x w' hk' ((h1.push hst).put hv _) hst.below (hlen _ _ _)
   ·rw [gC] at hk
    rw [if_neg (by rw [hw.wanted h.size (fun g t _ ht => h.bools ht) (fun g _ ht => h.undefs ht)]; simp)]
    exact step _ G undef w hk (h.put .undef _) (Below.refl _ _) (hlen _ _ _)
theorem UY {ds : List Nat} : ∀ (i : Nat) (T T2 : List AV) (t : Nat) (v : AV), T2.length = T.length → (KC ds i T T2)[t]? = some v → ∃ u v2, T[t]? = some u ∧ T2[t]? = some v2 ∧ v = bif ds.any (Nat.beq (i + t)) then (bif JD v2 then v2 else .junk) else u
 | i, [], [], t, v, _, h => by simp [KC] at h
 | i, u :: r, v2 :: q, 0, v, _, h => by
   simp only [KC, List.getElem?_cons_zero, Option.some.injEq] at h
   exact ⟨u, v2, rfl, rfl, h.symm⟩
 | i, u :: r, v2 :: q, t + 1, v, hl, h => by
   simp only [KC, List.getElem?_cons_succ] at h
   obtain ⟨u', v', h1, h2, h3⟩ := UY (i + 1) r q t v (by simpa using hl) h
   exact ⟨u', v', by simpa using h1, by simpa using h2, by rw [h3, show i + 1 + t = i + (t + 1) by omega]⟩
theorem JU {ds : List Nat} : ∀ (i : Nat) (T T2 : List AV), T2.length = T.length → (KC ds i T T2).length = T.length
 | _, [], [], _ => rfl
 | i, u :: r, v :: q, h => by simp only [KC, List.length_cons]; rw [JU (i + 1) r q (by simpa using h)]
theorem Rel.thaw (h : Rel E base w0 ok en G s a w) {G2 : Gam} {s2 : St} {a2 : Act} {w2 : GW} (h2 : Rel E base w0 ok en G2 s2 a2 w2) (hb : Below w.heap.size w w2) (hl : s2.T.length = s.T.length) {ds : List Nat} (ht : ∀ t, t ∉ ds → a2.tmps.getD t undef = a.tmps.getD t undef) :
  Rel E base w0 ok en G (thaw ds s s2) a2 w2 := by
 have h3 : Rel E base w0 ok en G s a w2 := h.push (b := none) ⟨hb, fun _ h => h, fun _ h => .inl h, fun _ _ => rfl, rfl⟩
 refine ⟨h2.defers, ?_, fun t v hv => ?_, h3.mem, h3.below, h3.glob, h3.base, h3.grow, h3.held, h3.lo, h3.fr⟩
 ·rw [h2.size, hl]
  exact (JU 0 _ _ hl).symm
 ·obtain ⟨u, v2, g1, g2, rfl⟩ := UY 0 _ _ t v hl hv
  rw [Nat.zero_add]
  cases hd : ds.any (Nat.beq t) with
  | true =>
    simp only [cond_true]
    cases hp : JD v2 with
    | true => exact Ke hp (h2.val t v2 g2)
    | false => exact .junk _
  | false =>
    rw [ht t fun hm => by rw [List.any_eq_true.2 ⟨t, hm, Nat.beq_refl t⟩] at hd; cases hd]
    exact h3.val t u g1
end Go.Sx
