/-
  What is in what: loops over tree.up's iterator.
-/
import Derived.Test.YtcpabdpbldmmmaaGreatDoorLyHb
set_option linter.unusedVariables false
set_option linter.unusedSimpArgs false
namespace Go.Proofs
open Go Go.RowKit Go.Shelf
theorem j4 {H l : Nat} {W0 W : World} (h : Below H W0 W) (hl : H ≤ l) (o : Obj) : Below H W0 (W.putObj l o) :=
 ⟨h.os, h.tape, h.output, Nat.le_trans h.size (by simp [World.putObj]), fun k hk => (World.putObj_heap_other (by omega)).trans (h.block k hk)⟩
theorem Q5 (W : World) (l : Nat) (o : Obj) : (W.putObj l o).heap.size = W.heap.size := by simp [World.putObj]
theorem Tryz.range_up (n : Nat) (hn : 3 ≤ n) {g : Operand} {ps : Array Tmp} {assign body : Code} {Q : Exit → Act → World → Prop} {a : Act} {w : World}
  {Bw Bi H : Nat} {W0 : World} {ws : List Sx.Place} {A : Option Addr} {cap : Nat} (hs : WSee H W0 Bw A cap ws) {i : Int} (hBi : Bi < H) (hi0 : W0.cell? ⟨Bi, 0, none⟩ = some (.int .i64 i))
  {p0 : Sx.Place} (h0 : Sx.lget ws i = some p0) {path : List Sx.Place} (hp : zf ws path p0)
  (hg : a.eval g = .func (.func 147) #[] #[.pointer (some ⟨Bw, 0, none⟩), .pointer (some ⟨Bi, 0, none⟩)]) (hB : Below H W0 w) (hH : H ≤ w.heap.size) (hps : ps.size = 1)
  (I Ix : List Sx.Place → World → Prop) (Pr : Nat → List Sx.Place → World → Prop)
  (hIa : ∀ pre W o, I pre W → I pre (W.alloc o))
  (hPn : ∀ pre W o, I pre W → Pr W.heap.size pre (W.alloc o))
  (hPs : ∀ b pre W k v, I pre W → Pr b pre W → I pre (W.setCell ⟨b, k, none⟩ v) ∧ Pr b pre (W.setCell ⟨b, k, none⟩ v))
  (hIp : ∀ pre W l o o', I pre W → W.heap[l]? = some o → o.isCells = false → I pre (W.putObj l o'))
  (hPp : ∀ b pre W l o o', I pre W → Pr b pre W → W.heap[l]? = some o → o.isCells = false → Pr b pre (W.putObj l o'))
  (hXp : ∀ pre W l o o', Ix pre W → w.heap.size ≤ l → W.heap[l]? = some o → o.isCells = false → Ix pre (W.putObj l o'))
  (hI0 : I [] w)
  (hround : ∀ (l b : Nat) (pre : List Sx.Place) (x : Sx.Place) (W : World), I pre W → Pr b pre W → w.heap.size + 2 ≤ b → j9 W b x → Below H W0 W → (∃ rest, path = pre ++ x :: rest) →
   assign.wpIn (Fence.wide.inRound l) (n - 1 - 1) Tryz.prog (Exit.then (fun a₁ w₁ => KeepsFrom w.heap.size W w₁ ∧ ∀ o o', w₁.heap[w.heap.size + 1]? = some o → o.isCells = false →
    body.wpIn (Fence.wide.inRound l) (n - 1 - 1) Tryz.prog (fun e _ W' => KeepsFrom w.heap.size (w₁.putObj (w.heap.size + 1) o') W' ∧ ((e = .normal ∧ Below H W0 W' ∧ I (pre ++ [x]) W' ∧ Pr b (pre ++ [x]) W' ∧ W'.heap[b]? = W.heap[b]?) ∨ (e = .ret ∧ Ix (pre ++ [x]) W')))
     a₁ (w₁.putObj (w.heap.size + 1) o')) (fun _ _ _ => False))
    { tmps := (ps.zip #[plV x]).foldl (fun t (p, v) => t.setIfInBounds p v) a.tmps, defers := [] } W)
  (hdone : ∀ (D : Nat) (W : World), w.heap.size ≤ D → Below H W0 W → I path W → W.heap[D]? = some (.deferred (some [])) → Q .normal { a with defers := { target := .collected D, args := #[] } :: a.defers } W)
  (hstop : ∀ (D : Nat) (pre : List Sx.Place) (W : World), w.heap.size ≤ D → pre <+: path → Ix pre W → W.heap[D]? = some (.deferred (some [])) → Code.ret.wpIn Fence.wide n Tryz.prog Q { a with defers := { target := .collected D, args := #[] } :: a.defers } W) :
  (Code.rangeFunc g ps assign body).wpIn Fence.wide n Tryz.prog Q a w := by
 refine wpIn_rangeFunc ?_
 intro fn hfn
 rw [show Fence.wide.round = none from rfl]
 let rec0 : LoopState → Option Code → Loop := fun st pe => { state := st, pending := pe, fn, tmps := a.tmps, params := ps, assign, body, defers := w.heap.size }
 obtain ⟨rec, hrec⟩ : ∃ rec : LoopState → Option Code → Loop, rec = rec0 := ⟨_, rfl⟩
 obtain ⟨W1, hW1⟩ : ∃ W1, (w.alloc (.deferred (some []))).alloc (.loop (rec .ready none)) = W1 := ⟨_, rfl⟩
 have hL1 : W1.heap[w.heap.size + 1]? = some (.loop (rec .ready none)) := by
  rw [← hW1]
  simpa only [World.size_alloc] using World.alloc_heap_new (w.alloc (.deferred (some []))) (.loop (rec .ready none))
 have hK1 : W1.heap[w.heap.size]? = some (.deferred (some [])) := by
  rw [← hW1]
  exact (Below.heap_alloc _ _ _ (by simp)).trans (World.alloc_heap_new w _)
 have hz1 : W1.heap.size = w.heap.size + 2 := by rw [← hW1]; simp
 have hI1 : I [] W1 := hW1 ▸ hIa _ _ _ (hIa _ _ _ hI0)
 have hB1 : Below H W0 W1 := by
  rw [← hW1]
  exact (hB.alloc hH _).alloc (by simp; omega) _
 refine ⟨w.heap.size + 1, [{ target := .collected w.heap.size, args := #[] }], W1, { target := .fn (.func 147) #[.pointer (some ⟨Bw, 0, none⟩), .pointer (some ⟨Bi, 0, none⟩)], args := #[.func (.yield (w.heap.size + 1)) #[] #[]] }, W1, 147,
  #[.func (.yield (w.heap.size + 1)) #[] #[], .pointer (some ⟨Bw, 0, none⟩), .pointer (some ⟨Bi, 0, none⟩)], W1, ?_, ?_, ?_, ?_, fun _ => by omega, ?_⟩
 ·rw [← hW1, hrec]
  exact run_enterLoop_outer _ _ _ _ _
 ·simp only [resolve, hg]
  simp [go_sem]
 ·intro f' hf'
  simp [Target.leads] at hf'
  subst hf'
  trivial
 ·have eg := enters_of (P := Tryz.prog) Tryz.func147 (by kernel_rfl) rfl
  simp [invoke, go_sem, eg]
 ·refine (Tryz.up_in (n - 1) (by omega) (w.heap.size + 1) Bw Bi H W0 ws A cap hs i hBi hi0 p0 h0 path hp
   (fun b pre W => I pre W ∧ (∀ b', b = some b' → Pr b' pre W ∧ w.heap.size + 2 ≤ b') ∧ W.heap[w.heap.size + 1]? = some (.loop (rec .ready none)) ∧ W.heap[w.heap.size]? = some (.deferred (some [])) ∧ w.heap.size + 2 ≤ W.heap.size)
   (fun pre W => Ix pre W ∧ W.heap[w.heap.size + 1]? = some (.loop (rec .done (some .ret))) ∧ W.heap[w.heap.size]? = some (.deferred (some [])))
   ?_ ?_ ?_ W1 hB1 (by omega) ⟨hI1, (fun _ h => nomatch h), hL1, hK1, by omega⟩).mono ?_
  ·rintro b pre W o ⟨x1, x2, x3, x4, x5⟩
   refine ⟨hIa _ _ _ x1, fun b' hb' => ?_, (Below.heap_alloc _ _ _ (by omega)).trans x3, (Below.heap_alloc _ _ _ (by omega)).trans x4, by simp; omega⟩
   cases hb'
   exact ⟨hPn _ _ _ x1, x5⟩
  ·rintro b pre W k v ⟨x1, x2, x3, x4, x5⟩
   obtain ⟨y1, y2⟩ := x2 b rfl
   obtain ⟨z1, z2⟩ := hPs b pre W k v x1 y1
   exact ⟨z1, fun b' hb' => by cases hb'; exact ⟨z2, y2⟩, (Below.heap_setCell _ _ _ _ (by show w.heap.size + 1 ≠ b; omega)).trans x3, (Below.heap_setCell _ _ _ _ (by show w.heap.size ≠ b; omega)).trans x4, by simpa [World.setCell] using x5⟩
  ·rintro b pre x W ⟨hi, hpr, hl, hk, hz⟩ hBW hHb hbW hrest
   obtain ⟨hpr, hb2⟩ := hpr b rfl
   have hy := run_yield (P := Tryz.prog) (args := #[plV x]) hl (by rw [hrec]; exact hps.symm)
   rw [hrec] at hy
   refine ⟨fn, _, assign, body, hy, roundIn_of_wpIn hfn (wpIn_mono (hround (w.heap.size + 1) b pre x W hi hpr hb2 hbW hBW hrest) ?_)⟩
   rintro e a1 w1 he
   cases e with
   | normal =>
     obtain ⟨hk1, hbody⟩ := he
     have hl1 := hk1.same _ _ (by omega) hl rfl
     have hk1' := hk1.same _ _ (by omega) hk rfl
     refine ⟨_, run_beginRound hl1 (by rw [hrec]), ?_⟩
     have hlt : w.heap.size + 1 < w1.heap.size := (Array.getElem?_eq_some_iff.1 hl1).1
     refine wpIn_mono (hbody _ _ hl1 rfl) ?_
     have hl2 : (w1.putObj (w.heap.size + 1) (.loop { rec .ready none with state := .busy })).heap[w.heap.size + 1]? = some (.loop { rec .ready none with state := .busy }) := World.putObj_heap_same hlt
     have hk2 : (w1.putObj (w.heap.size + 1) (.loop { rec .ready none with state := .busy })).heap[w.heap.size]? = some (.deferred (some [])) := (World.putObj_heap_other (by omega)).trans hk1'
     rintro e a3 W3 ⟨hk3, (⟨rfl, hB3, hi3, hp3, hb3⟩ | ⟨rfl, hx3⟩)⟩
     ·have hl3 := hk3.same _ _ (by omega) hl2 rfl
      have hd3 := hk3.same _ _ (Nat.le_refl _) hk2 rfl
      have hr := run_endRound (P := Tryz.prog) none hl3
      have hl3' := hl3
      rw [hrec] at hr hl3
      refine ⟨_, _, hr, .inl ⟨rfl, ⟨hIp _ _ _ _ _ hi3 hl3' rfl, fun b' hb' => ?_, ?_, ?_, ?_⟩, j4 hB3 (by omega) _, ?_⟩⟩
      ·cases hb'
       exact ⟨hPp _ _ _ _ _ _ hi3 hp3 hl3' rfl, hb2⟩
      ·rw [hrec]
       exact World.putObj_heap_same (Array.getElem?_eq_some_iff.1 hl3).1
      ·exact (World.putObj_heap_other (by omega)).trans hd3
      ·rw [Q5]
       have := (Array.getElem?_eq_some_iff.1 hl3).1
       omega
      ·rw [World.putObj_heap_other (by omega), hb3]
     ·have hl3 := hk3.same _ _ (by omega) hl2 rfl
      have hd3 := hk3.same _ _ (Nat.le_refl _) hk2 rfl
      have hr := run_endRound (P := Tryz.prog) (some .ret) hl3
      have hl3' := hl3
      rw [hrec] at hr hl3
      refine ⟨_, _, hr, .inr ⟨rfl, ⟨hXp _ _ _ _ _ hx3 (by omega) hl3' rfl, ?_, (World.putObj_heap_other (by omega)).trans hd3⟩⟩⟩
      rw [hrec]
      exact World.putObj_heap_same (Array.getElem?_eq_some_iff.1 hl3).1
   | _ => exact he.elim
  ·rintro e W2 ⟨⟨v, rfl⟩, (⟨b, ⟨hi, _, hl, hk, _⟩, hB2⟩ | ⟨pre, hpre, hx, hl, hk⟩)⟩
   ·have hr := run_endLoop (P := Tryz.prog) hl (by rw [hrec]; simp [rec0])
    have hl' := hl
    rw [hrec] at hr
    exact ⟨none, _, hr, hdone _ _ (Nat.le_refl _) (j4 hB2 (by omega) _) (hIp _ _ _ _ _ hi hl' rfl) ((World.putObj_heap_other (by omega)).trans hk)⟩
   ·have hr := run_endLoop (P := Tryz.prog) hl (by rw [hrec]; simp [rec0])
    have hl' := hl
    rw [hrec] at hr
    exact ⟨some .ret, _, hr, hstop _ pre _ (Nat.le_refl _) hpre (hXp _ _ _ _ _ hx (by omega) hl' rfl) ((World.putObj_heap_other (by omega)).trans hk)⟩
end Go.Proofs
