/-
  What is in what: the walk of tree.up's iterator, whole.
-/
import Derived.Test.YtcpabdpbldmmmaaGreatDoorLyHa
set_option linter.unusedVariables false
set_option linter.unusedSimpArgs false
namespace Go.Proofs
open Go Go.RowKit Go.Shelf
attribute [local go_sem] Oper.semAt_some
noncomputable def plAt (v : Value) (W : World) : Sx.Place := match v with
 | .pointer (some a) => match W.cell? a, W.cell? ⟨a.block, a.off + 1, none⟩ with
   | some (.int _ k), some (.int _ d) => ⟨k, d⟩
   | _, _ => ⟨0, 0⟩
 | _ => ⟨0, 0⟩
theorem qa1 {W : World} {b : Nat} {p : Sx.Place} (h : j9 W b p) : plAt (.pointer (some ⟨b, 0, none⟩)) W = p := by
 simp only [plAt, h.c0, h.c1]
set_option maxRecDepth 100000 in
set_option maxHeartbeats 2000000 in
theorem Tryz.up_in (n : Nat) (hn : 1 ≤ n) (l Bw Bi H : Nat) (W0 : World) (ws : List Sx.Place) (A : Option Addr) (cap : Nat) (hs : WSee H W0 Bw A cap ws) (i : Int) (hBi : Bi < H) (hi0 : W0.cell? ⟨Bi, 0, none⟩ = some (.int .i64 i))
  (p0 : Sx.Place) (h0 : Sx.lget ws i = some p0) (path : List Sx.Place) (hp : zf ws path p0)
  (J : Option Nat → List Sx.Place → World → Prop) (Jx : List Sx.Place → World → Prop)
  (hJa : ∀ b pre W o, J b pre W → J (some W.heap.size) pre (W.alloc (.cells o 65)))
  (hJs : ∀ b pre W k v, J (some b) pre W → J (some b) pre (W.setCell ⟨b, k, none⟩ v))
  (hY : ∀ b pre x W, J (some b) pre W → Below H W0 W → H ≤ b → j9 W b x → (∃ rest, path = pre ++ x :: rest) → YieldAt Fence.wide (n - 1) Tryz.prog l #[plV x] W fun e W' =>
   (e = .returned (.bool true) ∧ J (some b) (pre ++ [x]) W' ∧ Below H W0 W' ∧ W'.heap[b]? = W.heap[b]?) ∨ (e = .returned (.bool false) ∧ Jx (pre ++ [x]) W'))
  (W : World) (hB : Below H W0 W) (hH : H ≤ W.heap.size) (hJ0 : J none [] W) :
  CallsIn Fence.wide n Tryz.prog 147 #[.func (.yield l) #[] #[], .pointer (some ⟨Bw, 0, none⟩), .pointer (some ⟨Bi, 0, none⟩)] W fun e W' => (∃ v, e = .returned v) ∧
   ((∃ b, J b path W' ∧ Below H W0 W') ∨ (∃ pre, pre <+: path ∧ Jx pre W')) := by
 have hc : W.cell? ⟨Bw, 10, none⟩ = some (.slice A ws.length cap) := (hB.cell (p := ⟨Bw, 10, none⟩) hs.lt).trans hs.cell
 have hi : W.cell? ⟨Bi, 0, none⟩ = some (.int .i64 i) := (hB.cell (p := ⟨Bi, 0, none⟩) hBi).trans hi0
 obtain ⟨g0, g1, a, rfl, hk, hd⟩ := hs.get hB h0
 refine callsIn_of_wp Tryz.func147 rfl trivial ?_ rfl
 simp only [Tryz.ntmps147, List.size_toArray, List.length_cons, List.length_nil, Nat.reduceAdd, Nat.reduceSub, Array.replicate_succ, Array.replicate_zero, List.push_toArray, List.append_toArray, List.nil_append, List.cons_append]
 gi_wp2
 gi_loopw [4] (fun v4 wr => ∃ (b : Nat) (pre : List Sx.Place) (p : Sx.Place) (rest : List Sx.Place), v4 = .pointer (some ⟨b, 0, none⟩) ∧ j9 wr b p ∧ path = pre ++ rest ∧ zf ws rest p ∧ J (some b) pre wr ∧ Below H W0 wr ∧ H ≤ b)
  (fun v4 wr => upM ws (plAt v4 wr))
 case atStart =>
  exact ⟨W.heap.size, [], p0, path, rfl, j9.new W p0, rfl, hp, hJa _ _ _ _ hJ0, hB.alloc hH _, hH⟩
 case round =>
  obtain ⟨b, pre, p, rest, rfl, bx, hpath, hip, hJ, hBr, hb⟩ := hrel
  have c0 := bx.c0
  have c1 := bx.c1
  obtain ⟨q, r, rfl⟩ : ∃ q r, rest = q :: r := by
   cases rest with
   | nil => exact hip.elim
   | cons q r => exact ⟨q, r, rfl⟩
  obtain ⟨rfl, hcase⟩ := hip
  obtain ⟨fn, tmps, assign, body, hy, hR⟩ := hY b pre q wr hJ hBr hb bx ⟨r, hpath⟩
  gi_wp2
  refine hR.mono ?_
  rintro e W3 (⟨rfl, hJ3, hB3, hk3⟩ | ⟨rfl, hJx3⟩)
  ·have bx3 : j9 W3 b q := hk3.trans bx
   have d0 := bx3.c0
   have d1 := bx3.c1
   have d2 := bx3.f0
   have d3 := bx3.f1
   rcases hcase with ⟨hk2, rfl⟩ | ⟨hk2, p', hp', hip'⟩
   ·gi_wp2
    go_end0
    exact ⟨⟨_, rfl⟩, .inl ⟨some b, by rw [hpath]; exact hJ3, hB3⟩⟩
   ·have hc3 : W3.cell? ⟨Bw, 10, none⟩ = some (.slice (some a) ws.length cap) := (hB3.cell (p := ⟨Bw, 10, none⟩) hs.lt).trans hs.cell
    obtain ⟨e0, e1, a', ea, f0, f1⟩ := hs.get hB3 hp'
    cases ea
    gi_wp2
    obtain ⟨W4, hW4⟩ : ∃ W4, (W3.setCell ⟨b, 0, none⟩ (.int .i64 p'.kind)).setCell ⟨b, 1, none⟩ (.int .i64 p'.id) = W4 := ⟨_, rfl⟩
    have hsz : W4.heap.size = W3.heap.size := by rw [← hW4]; simp [World.setCell]
    have hJ4 : J (some b) (pre ++ [q]) W4 := hW4 ▸ hJs _ _ _ _ _ (hJs _ _ _ _ _ hJ3)
    have hB4 : Below H W0 W4 := hW4 ▸ (hB3.setCell (p := ⟨b, 0, none⟩) hb _).setCell (p := ⟨b, 1, none⟩) hb _
    rw [hW4, ← hsz]
    have bn := j9.new W4 p'
    have hlt := bx3.lt
    refine ⟨⟨W4.heap.size, pre ++ [q], p', r, rfl, bn, by rw [hpath]; simp, hip', hJa _ _ _ _ hJ4, hB4.alloc (by omega) _, by omega⟩, ?_⟩
    rw [qa1 bn, qa1 bx, qe1 hip', qe1 (show zf ws (q :: r) q from ⟨rfl, .inr ⟨hk2, p', hp', hip'⟩⟩)]
    simp
  ·gi_wp2
   go_end0
   exact ⟨⟨_, rfl⟩, .inr ⟨pre ++ [q], by rw [hpath]; simp, hJx3⟩⟩
end Go.Proofs
