/-
  What is in what: the walk of tree.up's iterator.
-/
import Derived.Test.YtcpabdpbldmmmaaGreatDoorLyM
import Derived.RangeFuncBox
import Derived.RangeFuncNested
import Derived.RangeFuncBound
import Derived.RangeFuncCalls
import Derived.RangeFuncLeaves
import Derived.Shelf.Abstract
import Derived.WalkKit
import Derived.OwnWalkIn
import Derived.TacticsInMore
import Derived.LoopNIn
import Derived.LoopIn
import Derived.Maps.AppendAt
import Derived.Test.YtcpabdpbldmmmaaGreatDoorProg
set_option linter.unusedVariables false
set_option linter.unusedSimpArgs false
namespace Go.Proofs
open Go Go.RowKit Go.Shelf
attribute [local go_sem] Oper.semAt_some
abbrev plV (p : Sx.Place) : Value := .agg #[.int .i64 p.kind, .int .i64 p.id]
theorem add_one (x : Addr) : x.add 1 = ⟨x.block, x.off + 1, none⟩ := by simp [Addr.add]
def zf (ws : List Sx.Place) : List Sx.Place → Sx.Place → Prop
 | [], _ => False
 | q :: r, p => q = p ∧ ((p.kind ≠ 2 ∧ r = []) ∨ (p.kind = 2 ∧ ∃ p', Sx.lget ws p.id = some p' ∧ zf ws r p'))
theorem Rb {ws : List Sx.Place} : ∀ {l l' : List Sx.Place} {p : Sx.Place}, zf ws l p → zf ws l' p → l = l'
 | [], _, _, h, _ => h.elim
 | _ :: _, [], _, _, h => h.elim
 | q :: r, q' :: r', p, ⟨h1, h2⟩, ⟨k1, k2⟩ => by
   subst h1
   subst k1
   rcases h2 with ⟨a, rfl⟩ | ⟨a, p', b, c⟩
   ·rcases k2 with ⟨_, rfl⟩ | ⟨a', _⟩
    ·rfl
    ·exact absurd a' a
   ·rcases k2 with ⟨a', _⟩ | ⟨_, p'', b', c'⟩
    ·exact absurd a a'
    ·rw [b] at b'
     cases b'
     rw [Rb c c']
open Classical in
noncomputable def upM (ws : List Sx.Place) (p : Sx.Place) : Nat := if h : ∃ l, zf ws l p then h.choose.length else 0
open Classical in
theorem qe1 {ws : List Sx.Place} {l : List Sx.Place} {p : Sx.Place} (h : zf ws l p) : upM ws p = l.length := by
 unfold upM
 rw [dif_pos ⟨l, h⟩]
 exact congrArg _ (Rb (Exists.choose_spec (⟨l, h⟩ : ∃ l, zf ws l p)) h)
structure WSee (H : Nat) (W0 : World) (Bw : Nat) (A : Option Addr) (cap : Nat) (ws : List Sx.Place) : Prop where
 lt : Bw < H
 cell : W0.cell? ⟨Bw, 10, none⟩ = some (.slice A ws.length cap)
 at_ : ∀ i (h : i < ws.length), ∃ a, A = some a ∧ a.block < H ∧ W0.cell? (a.add (i * 2)) = some (.int .i64 ws[i].kind) ∧ W0.cell? ((a.add (i * 2)).add 1) = some (.int .i64 ws[i].id)
theorem jE (a : Addr) (n : Nat) : (a.add n).block = a.block := Sx.add_block a n
theorem WSee.get {H Bw cap : Nat} {W0 W : World} {A : Option Addr} {ws : List Sx.Place} (h : WSee H W0 Bw A cap ws) (hB : Below H W0 W) {i : Int} {p : Sx.Place} (hi : Sx.lget ws i = some p) :
  0 ≤ i ∧ i < (ws.length : Int) ∧ ∃ a, A = some a ∧ W.cell? (a.add (i.toNat * 2)) = some (.int .i64 p.kind) ∧ W.cell? ⟨(a.add (i.toNat * 2)).block, (a.add (i.toNat * 2)).off + 1, none⟩ = some (.int .i64 p.id) := by
 unfold Sx.lget at hi
 split at hi
 ·rename_i h0
  obtain ⟨hlt, rfl⟩ := List.getElem?_eq_some_iff.1 hi
  obtain ⟨a, rfl, hb, h1, h2⟩ := h.at_ i.toNat hlt
  refine ⟨h0, by omega, a, rfl, ?_, ?_⟩
  ·rw [hB.cell (p := a.add (i.toNat * 2)) (by rw [jE]; exact hb)]; exact h1
  ·rw [← add_one, hB.cell (p := (a.add (i.toNat * 2)).add 1) (by rw [jE, jE]; exact hb)]; exact h2
 ·cases hi
def j9 (W : World) (b : Nat) (p : Sx.Place) : Prop := W.heap[b]? = some (.cells #[.int .i64 p.kind, .int .i64 p.id] 65 (0, 0))
theorem j9.c0 {W : World} {b : Nat} {p : Sx.Place} (h : j9 W b p) : W.cell? ⟨b, 0, none⟩ = some (.int .i64 p.kind) := by simp [World.cell?, show W.heap[b]? = _ from h]
theorem j9.c1 {W : World} {b : Nat} {p : Sx.Place} (h : j9 W b p) : W.cell? ⟨b, 1, none⟩ = some (.int .i64 p.id) := by simp [World.cell?, show W.heap[b]? = _ from h]
theorem j9.f0 {W : World} {b : Nat} {p : Sx.Place} (h : j9 W b p) : W.frozen? ⟨b, 0, none⟩ = false := by simp [World.frozen?, show W.heap[b]? = _ from h]
theorem j9.f1 {W : World} {b : Nat} {p : Sx.Place} (h : j9 W b p) : W.frozen? ⟨b, 1, none⟩ = false := by simp [World.frozen?, show W.heap[b]? = _ from h]
theorem j9.lt {W : World} {b : Nat} {p : Sx.Place} (h : j9 W b p) : b < W.heap.size := (Array.getElem?_eq_some_iff.1 h).1
theorem Ge {W : World} {b : Nat} {vs : Array Value} {t : TypeId} {fr : Nat × Nat} (h : W.heap[b]? = some (.cells vs t fr)) (k : Nat) (v : Value) : (W.setCell ⟨b, k, none⟩ v).heap[b]? = some (.cells (vs.setIfInBounds k v) t fr) := by
 obtain ⟨hlt, hk⟩ := Array.getElem?_eq_some_iff.1 h
 show (W.heap.modify b _)[b]? = _
 rw [Array.getElem?_eq_getElem (by rw [Array.size_modify]; exact hlt), Array.getElem_modify_self, hk]
 rfl
theorem j9.put {W : World} {b : Nat} {q p : Sx.Place} (h : j9 W b q) : j9 ((W.setCell ⟨b, 0, none⟩ (.int .i64 p.kind)).setCell ⟨b, 1, none⟩ (.int .i64 p.id)) b p := by
 unfold j9
 rw [Ge (Ge h 0 _) 1 _]
 rfl
theorem j9.new (W : World) (q : Sx.Place) : j9 (W.alloc (.cells #[.int .i64 q.kind, .int .i64 q.id] 65)) W.heap.size q := World.alloc_heap_new W _
end Go.Proofs
