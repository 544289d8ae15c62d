/-
  SX, part R: what abstract values, blocks and states say of the machine's.
-/
import Derived.Test.YtkogopmfpcbbkaaDoorSxE
import Derived.Laws.CopyRow
import Derived.Laws.Rows
set_option linter.unusedVariables false
set_option linter.unusedSimpArgs false
namespace Go.Sx
open Go

abbrev GW := Go.World

theorem add_add (a : Addr) (x y : Nat) : (a.add x).add y = a.add (x + y) := by
  unfold Addr.add
  by_cases hx : x = 0
  · subst hx; simp
  · by_cases hy : y = 0
    · subst hy; simp [hx]
    · simp [hx, hy, Nat.add_assoc]
theorem add_block (a : Addr) (x : Nat) : (a.add x).block = a.block := by unfold Addr.add; split <;> rfl
theorem add_zero (a : Addr) : a.add 0 = a := by simp [Addr.add]
theorem add_lit (c o x : Nat) : (⟨c, o, none⟩ : Addr).add x = ⟨c, o + x, none⟩ := by
  unfold Addr.add; split
  · rename_i h; subst h; simp
  · rfl

/-- A data value. D: the blocks that hold data: nobody writes them. -/
inductive DR (D : Nat → Prop) (w : GW) : AV → Value → Prop
  | int (k : IntKind) (n : Int) : DR D w (.int k n) (.int k n)
  | bool (b : Bool) : DR D w (.bool b) (.bool b)
  | str (s : Str) : DR D w (.str s) (.string ⟨s.toArray⟩)
  | sl (e : Kd) (l : List e.T) (A : Option Addr) (cap : Nat) (cv : Nat → Nat → Value) (hcap : l.length ≤ cap)
      (hA : ∀ i, i < l.length → ∃ a, A = some a ∧ D a.block ∧ ∀ j, j < e.size → w.cell? (a.add (i * e.size + j)) = some (cv i j))
      (hone : ∀ i j, i < l.length → j < e.size → (cv i j).oneCell' = true)
      (hr : ∀ i (h : i < l.length) j (hj : j < (e.cells l[i]).length), DR D w ((e.cells l[i])[j]) (cv i j)) : DR D w (.sl e l) (.slice A l.length cap)
  | slc (e : Kd) (l : List e.T) (A : Option Addr) (cv : Nat → Nat → Value)
      (hA : ∀ i, i < l.length → ∃ a, A = some a ∧ D a.block ∧ ∀ j, j < e.size → w.cell? (a.add (i * e.size + j)) = some (cv i j))
      (hone : ∀ i j, i < l.length → j < e.size → (cv i j).oneCell' = true)
      (hr : ∀ i (h : i < l.length) j (hj : j < (e.cells l[i]).length), DR D w ((e.cells l[i])[j]) (cv i j)) : DR D w (.slc e l) (.slice A l.length l.length)
  | nilsl : DR D w .nilsl (.slice none 0 0)
  | nilp : DR D w .nilp (.pointer none)
  | nilf : DR D w .nilf .nilFunc
  | nilm : DR D w .nilm (.map none)
  | nili : DR D w .nili .nilIface
  | err (t : TypeId) (v : Value) : DR D w .err (.iface t v)
  | agg (cs : List AV) (vs : List Value) (hl : cs.length = vs.length) (hone : ∀ v ∈ vs, v.oneCell' = true)
      (h : ∀ i (h1 : i < cs.length) (h2 : i < vs.length), DR D w cs[i] vs[i]) : DR D w (.agg cs) (.agg vs.toArray)
  | tup (cs : List AV) (vs : List Value) (hl : cs.length = vs.length)
      (h : ∀ i (h1 : i < cs.length) (h2 : i < vs.length), DR D w cs[i] vs[i]) : DR D w (.tup cs) (.tuple vs.toArray)

/-- Where an abstract block lies: nowhere yet, a block, a slice's header (of elements of so many cells). -/
inductive SB where
  | none
  | blk (c : Nat)
  | hdr (A : Option Nat) (len cap sz : Nat)

def blkA (c : Nat) : Addr := ⟨c, 0, Option.none⟩
structure Gam where
  σ : Nat → SB
  D : Nat → Prop

/-- Any abstract value. -/
inductive VR (D : Nat → Prop) (σ : Nat → SB) (w : GW) : AV → Value → Prop
  | data (v : AV) (x : Value) (h : DR D w v x) : VR D σ w v x
  | junk (x : Value) : VR D σ w .junk x
  | undef : VR D σ w .undef Go.undef
  | ptr (b off c : Nat) (h : σ b = .blk c) : VR D σ w (.ptr b off) (.pointer (some ((blkA c).add off)))
  | pidx (b off n : Nat) (i : Int) (c : Nat) (h : σ b = .blk c) (h0 : 0 ≤ i) (h1 : i < n) : VR D σ w (.pidx b off n i) (.pointer (some ((blkA c).add (off + i.toNat))))
  | dref (cs : List AV) (off : Nat) (a : Addr) (cv : Nat → Value) (hD : D a.block)
      (h : ∀ j (hj : j < cs.length), w.cell? (a.add j) = some (cv j) ∧ (cv j).oneCell' = true ∧ DR D w cs[j] (cv j)) : VR D σ w (.dref cs off) (.pointer (some (a.add off)))
  | didx (cs : List AV) (off n : Nat) (i : Int) (a : Addr) (cv : Nat → Value) (hD : D a.block) (h0 : 0 ≤ i) (h1 : i < n)
      (h : ∀ j (hj : j < cs.length), w.cell? (a.add j) = some (cv j) ∧ (cv j).oneCell' = true ∧ DR D w cs[j] (cv j)) : VR D σ w (.didx cs off n i) (.pointer (some (a.add (off + i.toNat))))
  | vec (b : Nat) (A : Option Nat) (len cap sz : Nat) (h : σ b = .hdr A len cap sz) : VR D σ w (.vec b) (.slice (A.map blkA) len cap)
  | vsl (b : Nat) (lo hi : Int) (A : Option Nat) (len cap sz : Nat) (h : σ b = .hdr A len cap sz) (h0 : 0 ≤ lo) (h1 : lo ≤ hi) (h2 : hi ≤ len) (B : Option Addr) (cap' : Nat)
      (hB : lo < hi → B = A.map fun c => (blkA c).add (lo.toNat * sz)) (hc : (hi - lo).toNat ≤ cap') (hz : lo = 0 → B = A.map blkA ∧ cap' = cap) : VR D σ w (.vsl b lo hi) (.slice B (hi - lo).toNat cap')
  | vref (b : Nat) (i : Int) (off : Nat) (c len cap sz : Nat) (h : σ b = .hdr (some c) len cap sz) (h0 : 0 ≤ i) (h1 : i < len) : VR D σ w (.vref b i off) (.pointer (some ((blkA c).add (i.toNat * sz + off))))
  | csl (b off len c : Nat) (h : σ b = .blk c) (cap : Nat) (hc : len ≤ cap) : VR D σ w (.csl b off len) (.slice (some ((blkA c).add off)) len cap)
  | agg (cs : List AV) (vs : List Value) (hl : cs.length = vs.length) (hone : ∀ v ∈ vs, v.oneCell' = true)
      (h : ∀ i (h1 : i < cs.length) (h2 : i < vs.length), VR D σ w cs[i] vs[i]) : VR D σ w (.agg cs) (.agg vs.toArray)
  | tup (cs : List AV) (vs : List Value) (hl : cs.length = vs.length)
      (h : ∀ i (h1 : i < cs.length) (h2 : i < vs.length), VR D σ w cs[i] vs[i]) : VR D σ w (.tup cs) (.tuple vs.toArray)
  | func (f : FuncId) (x y : List AV) (u v : List Value) (hx : x.length = u.length) (hy : y.length = v.length)
      (h : ∀ i (h1 : i < x.length) (h2 : i < u.length), VR D σ w x[i] u[i]) (h' : ∀ i (h1 : i < y.length) (h2 : i < v.length), VR D σ w y[i] v[i]) :
      VR D σ w (.func f x y) (.func (.func f) u.toArray v.toArray)
  | mref (b c : Nat) (h : σ b = .blk c) : VR D σ w (.mref b) (.map (some c))
  | gp (g off : Nat) : VR D σ w (.gp g off) (.pointer (some ((blkA g).add off)))

/-- Cells of a block, one by one. -/
def CellsR (R : AV → Value → Prop) (cs : List AV) (vs : Array Value) : Prop :=
  vs.size = cs.length ∧ ∀ i (h : i < cs.length) (h' : i < vs.size), vs[i].oneCell' = true ∧ R cs[i] vs[i]

/-- An abstract block, and what lies there. -/
def BR (D : Nat → Prop) (σ : Nat → SB) (w : GW) (sb : SB) : Blk → Prop
  | .dead => True
  | .cells cs => ∃ c vs t, sb = .blk c ∧ w.heap[c]? = some (.cells vs t (0, 0)) ∧ CellsR (VR D σ w) cs vs
  | .vec e l => ∃ A cap, sb = .hdr A l.length cap e.size ∧ l.length ≤ cap ∧ (A = none → l = [] ∧ cap = 0) ∧ ∀ c, A = some c → ∃ vs t, w.heap[c]? = some (.cells vs t (0, 0)) ∧ vs.size = cap * e.size ∧
      (∀ v ∈ vs.toList, v.oneCell' = true) ∧ ∀ i (h : i < l.length) j (hj : j < (e.cells l[i]).length), DR D w ((e.cells l[i])[j]) (vs.getD (i * e.size + j) undef)
  | .fvec e l => ∃ A cap, sb = .hdr A l.length cap e.size ∧ DR D w (.sl e l) (.slice (A.map blkA) l.length cap)
  | .map kk kv l => ∃ c es clock, sb = .blk c ∧ w.heap[c]? = some (.map es clock) ∧ es.size = l.length ∧ ∀ i (h : i < l.length) (h' : i < es.size), DR D w (kk.of l[i].1) es[i].key ∧ DR D w (kv.of l[i].2) es[i].val
  | .amap ks vs => ∃ c es clock, sb = .blk c ∧ w.heap[c]? = some (.map es clock) ∧ es.size = ks.length ∧ es.size = vs.length ∧ (∀ i (h : i < ks.length) (h' : i < es.size), VR D σ w ks[i] es[i].key) ∧ ∀ i (h : i < vs.length) (h' : i < es.size), VR D σ w vs[i] es[i].val

/-- The machine's block that an abstract block may write. -/
def mutC : SB → Blk → Option Nat
  | .blk c, .cells _ => some c
  | .blk c, .map _ _ _ => some c
  | .blk c, .amap _ _ => some c
  | .hdr A _ _ _, .vec _ _ => A
  | _, _ => none

structure MemOK (base : Nat) (ok : Nat → Prop) (G : Gam) (w : GW) (M : Mem) : Prop where
  blocks : ∀ (b : Nat) (x : Blk), M[b]? = some x → BR G.D G.σ w (G.σ b) x
  own : ∀ (b : Nat) (x : Blk) (c : Nat), M[b]? = some x → mutC (G.σ b) x = some c → base ≤ c ∧ c < w.heap.size ∧ ¬ G.D c
  apart : ∀ (b b' : Nat) (x x' : Blk) (c : Nat), M[b]? = some x → mutC (G.σ b) x = some c → M[b']? = some x' → mutC (G.σ b') x' = some c → b' = b
  dlt : ∀ c, G.D c → c < w.heap.size
  dok : ∀ c, G.D c → ok c ∨ base ≤ c
  out : ∀ b, M.length ≤ b → G.σ b = .none

/-! ### Monotony -/
theorem DR.mono {D D' : Nat → Prop} {w w' : GW} (h : ∀ c, D c → D' c ∧ w'.heap[c]? = w.heap[c]?) {v : AV} {x : Value} (hv : DR D w v x) : DR D' w' v x := by
  have hcell : ∀ (a : Addr) (n : Nat), D a.block → w'.cell? (a.add n) = w.cell? (a.add n) := by
    intro a n hD
    have := (h _ hD).2
    unfold World.cell?
    rw [add_block, this]
  induction hv with
  | int k n => exact .int k n
  | bool b => exact .bool b
  | str s => exact .str s
  | sl e l A cap cv hcap hA hone hr ih =>
    refine .sl e l A cap cv hcap (fun i hi => ?_) hone ih
    obtain ⟨a, rfl, hD, hc⟩ := hA i hi
    exact ⟨a, rfl, (h _ hD).1, fun j hj => by rw [hcell _ _ hD]; exact hc j hj⟩
  | slc e l A cv hA hone hr ih =>
    refine .slc e l A cv (fun i hi => ?_) hone ih
    obtain ⟨a, rfl, hD, hc⟩ := hA i hi
    exact ⟨a, rfl, (h _ hD).1, fun j hj => by rw [hcell _ _ hD]; exact hc j hj⟩
  | nilsl => exact .nilsl
  | nilp => exact .nilp
  | nilf => exact .nilf
  | nilm => exact .nilm
  | nili => exact .nili
  | err t v => exact .err t v
  | agg cs vs hl hone _ ih => exact .agg cs vs hl hone ih
  | tup cs vs hl _ ih => exact .tup cs vs hl ih

/-- Nobody's σ is asked beyond the blocks that a value names. -/
theorem ids_mem {cs : List AV} {i : Nat} (h : i < cs.length) {b : Nat} (hb : b ∈ AV.ids cs[i]) : b ∈ AV.idss cs := by
  induction cs generalizing i with
  | nil => simp at h
  | cons v r ih =>
    cases i with
    | zero => simp [AV.idss] at hb ⊢; exact .inl hb
    | succ i => simp [AV.idss] at hb ⊢; exact .inr (ih (by simpa using h) hb)

theorem VR.mono {D D' : Nat → Prop} {σ σ' : Nat → SB} {w w' : GW} (h : ∀ c, D c → D' c ∧ w'.heap[c]? = w.heap[c]?) {v : AV} {x : Value} (hv : VR D σ w v x)
    (hσ : ∀ b ∈ v.ids, σ b ≠ .none → σ' b = σ b) : VR D' σ' w' v x := by
  have hcell : ∀ (a : Addr) (n : Nat), D a.block → w'.cell? (a.add n) = w.cell? (a.add n) := by
    intro a n hD
    have := (h _ hD).2
    unfold World.cell?
    rw [add_block, this]
  have key : ∀ {b : Nat} {s : SB}, s ≠ .none → σ b = s → b ∈ v.ids → (∀ b ∈ v.ids, σ b ≠ .none → σ' b = σ b) → σ' b = s := by
    intro b s hs he hm hh
    rw [hh b hm (by rw [he]; exact hs), he]
  clear key
  induction hv with
  | data v x hd => exact .data v x (hd.mono h)
  | junk x => exact .junk x
  | undef => exact .undef
  | ptr b off c hb => exact .ptr b off c (by rw [hσ b (by simp [AV.ids]) (by rw [hb]; simp), hb])
  | pidx b off n i c hb h0 h1 => exact .pidx b off n i c (by rw [hσ b (by simp [AV.ids]) (by rw [hb]; simp), hb]) h0 h1
  | dref cs off a cv hD hc => exact .dref cs off a cv (h _ hD).1 fun j hj => by rw [hcell _ _ hD]; exact ⟨(hc j hj).1, (hc j hj).2.1, (hc j hj).2.2.mono h⟩
  | didx cs off n i a cv hD h0 h1 hc => exact .didx cs off n i a cv (h _ hD).1 h0 h1 fun j hj => by rw [hcell _ _ hD]; exact ⟨(hc j hj).1, (hc j hj).2.1, (hc j hj).2.2.mono h⟩
  | vec b A len cap sz hb => exact .vec b A len cap sz (by rw [hσ b (by simp [AV.ids]) (by rw [hb]; simp), hb])
  | vsl b lo hi A len cap sz hb h0 h1 h2 B cap' hB hc hz => exact .vsl b lo hi A len cap sz (by rw [hσ b (by simp [AV.ids]) (by rw [hb]; simp), hb]) h0 h1 h2 B cap' hB hc hz
  | vref b i off c len cap sz hb h0 h1 => exact .vref b i off c len cap sz (by rw [hσ b (by simp [AV.ids]) (by rw [hb]; simp), hb]) h0 h1
  | csl b off len c hb cap hc => exact .csl b off len c (by rw [hσ b (by simp [AV.ids]) (by rw [hb]; simp), hb]) cap hc
  | agg cs vs hl hone hh ih => exact .agg cs vs hl hone fun i h1 h2 => ih i h1 h2 fun b hb => hσ b (by simp only [AV.ids]; exact ids_mem h1 hb)
  | tup cs vs hl hh ih => exact .tup cs vs hl fun i h1 h2 => ih i h1 h2 fun b hb => hσ b (by simp only [AV.ids]; exact ids_mem h1 hb)
  | func f x y u v hx hy hh hh' ih ih' =>
    exact .func f x y u v hx hy (fun i h1 h2 => ih i h1 h2 fun b hb => hσ b (by simp only [AV.ids, List.mem_append]; exact .inl (ids_mem h1 hb)))
      (fun i h1 h2 => ih' i h1 h2 fun b hb => hσ b (by simp only [AV.ids, List.mem_append]; exact .inr (ids_mem h1 hb)))
  | mref b c hb => exact .mref b c (by rw [hσ b (by simp [AV.ids]) (by rw [hb]; simp), hb])
  | gp g off => exact .gp g off

/-- A value's blocks lie somewhere. -/
theorem DR.ids {D : Nat → Prop} {w : GW} {v : AV} {x : Value} (hv : DR D w v x) : v.ids = [] := by
  have nil : ∀ cs : List AV, (∀ i (h : i < cs.length), AV.ids cs[i] = []) → AV.idss cs = [] := by
    intro cs
    induction cs with
    | nil => intro _; rfl
    | cons v r ih => intro h; have h0 := h 0 (by simp); simp only [List.getElem_cons_zero] at h0; simp only [AV.idss]; rw [ih fun i hi => h (i + 1) (by simpa using hi), h0]; rfl
  induction hv with
  | agg cs vs hl hone _ ih => simp only [AV.ids]; exact nil cs fun i h => ih i h (by omega)
  | tup cs vs hl _ ih => simp only [AV.ids]; exact nil cs fun i h => ih i h (by omega)
  | _ => rfl
theorem idss_of {cs : List AV} {b : Nat} (hb : b ∈ AV.idss cs) : ∃ i, ∃ h : i < cs.length, b ∈ AV.ids cs[i] := by
  induction cs with
  | nil => simp [AV.idss] at hb
  | cons v r ih =>
    simp only [AV.idss, List.mem_append] at hb
    rcases hb with hb | hb
    · exact ⟨0, by simp, hb⟩
    · obtain ⟨i, h, hi⟩ := ih hb
      exact ⟨i + 1, by simpa using h, by simpa using hi⟩
theorem VR.known {D : Nat → Prop} {σ : Nat → SB} {w : GW} {v : AV} {x : Value} (hv : VR D σ w v x) : ∀ b ∈ v.ids, σ b ≠ .none := by
  induction hv with
  | data v x hd => intro b hb; rw [hd.ids] at hb; simp at hb
  | junk x => intro b hb; simp [AV.ids] at hb
  | undef => intro b hb; simp [AV.ids] at hb
  | ptr b off c hb => intro b' hb'; simp [AV.ids] at hb'; subst hb'; rw [hb]; simp
  | pidx b off n i c hb => intro b' hb'; simp [AV.ids] at hb'; subst hb'; rw [hb]; simp
  | dref => intro b hb; simp [AV.ids] at hb
  | didx => intro b hb; simp [AV.ids] at hb
  | vec b A len cap sz hb => intro b' hb'; simp [AV.ids] at hb'; subst hb'; rw [hb]; simp
  | vsl b lo hi A len cap sz hb => intro b' hb'; simp [AV.ids] at hb'; subst hb'; rw [hb]; simp
  | vref b i off c len cap sz hb => intro b' hb'; simp [AV.ids] at hb'; subst hb'; rw [hb]; simp
  | csl b off len c hb => intro b' hb'; simp [AV.ids] at hb'; subst hb'; rw [hb]; simp
  | agg cs vs hl hone hh ih => intro b hb; simp only [AV.ids] at hb; obtain ⟨i, h, hi⟩ := idss_of hb; exact ih i h (by omega) b hi
  | tup cs vs hl hh ih => intro b hb; simp only [AV.ids] at hb; obtain ⟨i, h, hi⟩ := idss_of hb; exact ih i h (by omega) b hi
  | func f x y u v hx hy hh hh' ih ih' =>
    intro b hb; simp only [AV.ids, List.mem_append] at hb
    rcases hb with hb | hb
    · obtain ⟨i, h, hi⟩ := idss_of hb; exact ih i h (by omega) b hi
    · obtain ⟨i, h, hi⟩ := idss_of hb; exact ih' i h (by omega) b hi
  | mref b c hb => intro b' hb'; simp [AV.ids] at hb'; subst hb'; rw [hb]; simp
  | gp => intro b hb; simp [AV.ids] at hb

/-- Everything that is said stays, where σ grows alone. -/
theorem VR.grow {D D' : Nat → Prop} {σ σ' : Nat → SB} {w w' : GW} (h : ∀ c, D c → D' c ∧ w'.heap[c]? = w.heap[c]?) (hσ : ∀ b, σ b ≠ .none → σ' b = σ b) {v : AV} {x : Value} (hv : VR D σ w v x) : VR D' σ' w' v x :=
  hv.mono h fun b _ hb => hσ b hb

end Go.Sx
