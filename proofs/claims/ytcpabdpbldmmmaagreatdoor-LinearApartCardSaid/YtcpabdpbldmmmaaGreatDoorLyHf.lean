/-
  What is in what: tree.Within.
-/
import Derived.Test.YtcpabdpbldmmmaaGreatDoorLyHe
set_option linter.unusedVariables false
set_option linter.unusedSimpArgs false
namespace Go.Proofs
open Go Go.RowKit Go.Shelf
attribute [local go_sem] Oper.semAt_some
def WI (B5 B6 : Nat) (b : Int) (pre : List Sx.Place) (W : World) : Prop := (Boxed W B5 3 (.int .i64 b) ∧ Boxed W B6 4 (.bool false)) ∧ ∀ p ∈ pre, p ≠ ⟨2, b⟩
def WX (w : World) (B6 : Nat) (b : Int) (pre : List Sx.Place) (W : World) : Prop := (Boxed W B6 4 (.bool true) ∧ Below w.heap.size w W) ∧ ∃ p ∈ pre, p = ⟨2, b⟩
theorem jD {W : World} {B l : Nat} {t : TypeId} {v : Value} {o : Obj} (o' : Obj) (h : Boxed W B t v) (hl : W.heap[l]? = some o) (ho : o.isCells = false) : Boxed (W.putObj l o') B t v := by
 refine (World.putObj_heap_other ?_).trans h
 intro e
 subst e
 rw [show W.heap[B]? = _ from h] at hl
 cases hl
 cases ho
set_option maxRecDepth 100000 in
set_option maxHeartbeats 2000000 in
theorem Tryz.within_in (n : Nat) (hn : 9 ≤ n) (x : WV) {ws : List Sx.Place} {w : World} (ht : Things w x ws) {i b : Int} (hne : i ≠ b) {p0 : Sx.Place} (h0 : Sx.lget ws i = some p0) {path : List Sx.Place} (hp : zf ws path p0) :
  CallsIn Fence.wide n Tryz.prog 112 #[.agg x.cs, .int .i64 i, .int .i64 b] w fun e W' => (∃ t, e = .returned (.bool t) ∧ (t = true ↔ ∃ p ∈ path, p = ⟨2, b⟩)) ∧ Below w.heap.size w W' := by
 have hcs : x.cs = #[.slice x.a0 x.n0 x.c0, .slice x.a1 x.n1 x.c1, .slice x.a2 x.n2 x.c2, .slice x.a3 x.n3 x.c3, .slice x.a4 x.n4 x.c4, .int .i64 x.r, .int .i64 x.p, .int .i64 x.b, .slice x.a8 x.n8 x.c8, .slice x.a9 x.n9 x.c9, .slice x.a10 x.n10 x.c10] := rfl
 refine callsIn_of_wp_marks Tryz.func112 rfl trivial ?_ rfl
 simp only [Tryz.ntmps112, List.size_toArray, List.length_cons, List.length_nil, Nat.reduceAdd, Nat.reduceSub, Array.replicate_succ, Array.replicate_zero, List.push_toArray, List.append_toArray, List.nil_append, List.cons_append]
 rw [hcs]
 have hnb : (i == b) = false := by simpa using hne
 gi_wp2
 rw [← hcs]
 refine ⟨trivial, fun _ => by omega, ?_⟩
 refine (Tryz.up_call _ (by omega) x i _).mono ?_
 rintro e w' ⟨rfl, rfl⟩
 gi_wp2
 rw [← hcs]
 obtain ⟨W3, hW3⟩ : ∃ W3, ((w.alloc (.cells x.cs 29)).alloc (.cells #[.int .i64 b] 3)).alloc (.cells #[.bool false] 4) = W3 := ⟨_, rfl⟩
 have hz3 : W3.heap.size = w.heap.size + 3 := by rw [← hW3]; simp
 have hb3 : Below w.heap.size w W3 := by
  rw [← hW3]
  exact (((Below.refl _ w).alloc (Nat.le_refl _) _).alloc (by simp) _).alloc (by simp; omega) _
 have bB : Boxed W3 (w.heap.size + 1) 3 (.int .i64 b) := by
  have := Boxed.new (w.alloc (.cells x.cs 29)) 3 (.int .i64 b)
  simp only [World.size_alloc] at this
  rw [← hW3]
  exact this.alloc _
 have bT : Boxed W3 (w.heap.size + 1 + 1) 4 (.bool false) := by
  have := Boxed.new ((w.alloc (.cells x.cs 29)).alloc (.cells #[.int .i64 b] 3)) 4 (.bool false)
  simp only [World.size_alloc] at this
  rw [← hW3]
  exact this
 have hs := ht.see (w := W3) (i := i) hb3
 rw [hW3]
 obtain ⟨WR, hWR⟩ : ∃ WR, (W3.alloc (.cells x.cs 29)).alloc (.cells #[.int .i64 i] 3) = WR := ⟨_, rfl⟩
 have hBi : WR.cell? ⟨w.heap.size + 1 + 1 + 1 + 1, 0, none⟩ = some (.int .i64 i) := by
  have := (Boxed.new (W3.alloc (.cells x.cs 29)) 3 (.int .i64 i)).cell
  simp only [World.size_alloc, hz3] at this
  rw [← hWR]
  exact this
 have bB' : Boxed WR (w.heap.size + 1) 3 (.int .i64 b) := by rw [← hWR]; exact (bB.alloc _).alloc _
 have bT' : Boxed WR (w.heap.size + 1 + 1) 4 (.bool false) := by rw [← hWR]; exact (bT.alloc _).alloc _
 have hbR : Below w.heap.size w WR := by
  rw [← hWR]
  exact (hb3.alloc (by omega) _).alloc (by simp; omega) _
 have hzR : WR.heap.size = w.heap.size + 5 := by rw [← hWR]; simp; omega
 rw [hWR] at hs ⊢
 have hH : W3.heap.size + 2 ≤ WR.heap.size := by omega
 have hBlt : w.heap.size + 1 + 1 + 1 + 1 < W3.heap.size + 2 := by omega
 have hlim : w.heap.size + 1 + 1 < WR.heap.size := by omega
 clear hW3 hWR hb3 bB bT
 refine Tryz.range_up _ (by omega) hs hBlt hBi h0 hp (by rw [show W3.heap.size = w.heap.size + 1 + 1 + 1 from hz3]; rfl) (Below.refl _ _) hH rfl (WI (w.heap.size + 1) (w.heap.size + 1 + 1) b) (WX w (w.heap.size + 1 + 1) b)
  (fun c _ W => c ≠ w.heap.size + 1 ∧ c ≠ w.heap.size + 1 + 1) ?qa ?qb ?qc ?qd ?qe ?qf ⟨⟨bB', bT'⟩, by simp⟩ ?qround ?qdone ?qstop
 case qa =>
  rintro pre W o ⟨⟨h1, h2⟩, h3⟩
  exact ⟨⟨h1.alloc o, h2.alloc o⟩, h3⟩
 case qb =>
  rintro pre W o ⟨⟨h1, h2⟩, h3⟩
  have := h1.lt
  have := h2.lt
  exact ⟨by omega, by omega⟩
 case qc =>
  rintro c pre W k u ⟨⟨h1, h2⟩, h3⟩ ⟨p1, p2⟩
  exact ⟨⟨⟨h1.kept (vZ W c k u) (by simp; exact fun e => p1 e.symm), h2.kept (vZ W c k u) (by simp; exact fun e => p2 e.symm)⟩, h3⟩, p1, p2⟩
 case qd =>
  rintro pre W l o o' ⟨⟨h1, h2⟩, h3⟩ hl ho
  exact ⟨⟨jD o' h1 hl ho, jD o' h2 hl ho⟩, h3⟩
 case qe => exact fun c pre W l o o' _ h _ _ => h
 case qf =>
  rintro pre W l o o' ⟨⟨h1, h2⟩, h3⟩ hle hl ho
  exact ⟨⟨jD o' h1 hl ho, j4 h2 (by omega) _⟩, h3⟩
 case qround =>
  rintro l c pre y W hI ⟨p1, p2⟩ hc2 bx hBW ⟨rest, hrest⟩
  gi_wp2
  refine ⟨(KeepsOthers.alloc W _).from _, fun o o' hl ho => ?_⟩
  obtain ⟨Wa, hWa⟩ : ∃ Wa, W.alloc (.cells #[.int .i64 y.kind, .int .i64 y.id] 65) = Wa := ⟨_, rfl⟩
  have b5 : j9 Wa W.heap.size y := hWa ▸ j9.new W y
  have hcW := bx.lt
  have bxa : j9 Wa c y := by rw [← hWa]; exact (Below.heap_alloc _ _ _ hcW).trans bx
  obtain ⟨⟨h1, h2⟩, h3⟩ := hI
  have h1a : Boxed Wa (w.heap.size + 1) 3 (.int .i64 b) := hWa ▸ h1.alloc _
  have h2a : Boxed Wa (w.heap.size + 1 + 1) 4 (.bool false) := hWa ▸ h2.alloc _
  have hBa := hWa ▸ hBW.alloc (by have := hBW.size; omega) (.cells #[.int .i64 y.kind, .int .i64 y.id] 65)
  rw [hWa] at hl ⊢
  have hne : ∀ {q : Nat} {z : Sx.Place}, j9 Wa q z → q ≠ WR.heap.size + 1 := by
   intro q z hq e
   subst e
   rw [show Wa.heap[WR.heap.size + 1]? = _ from hq] at hl
   cases hl
   cases ho
  obtain ⟨W2, hW2⟩ : ∃ W2, Wa.putObj (WR.heap.size + 1) o' = W2 := ⟨_, rfl⟩
  have k1 : Boxed W2 (w.heap.size + 1) 3 (.int .i64 b) := hW2 ▸ jD o' h1a hl ho
  have k2 : Boxed W2 (w.heap.size + 1 + 1) 4 (.bool false) := hW2 ▸ jD o' h2a hl ho
  have k5 : j9 W2 W.heap.size y := hW2 ▸ (World.putObj_heap_other (hne b5)).trans b5
  have kc : j9 W2 c y := hW2 ▸ (World.putObj_heap_other (hne bxa)).trans bxa
  have hB2 := hW2 ▸ j4 hBa (show W3.heap.size + 2 ≤ WR.heap.size + 1 by omega) o'
  rw [hW2]
  have c1 := k1.cell
  have c2 := k2.cell
  have f2 := k2.frozen
  have d0 := k5.c0
  have d1 := k5.c1
  clear hWa hW2 b5 h1a h2a hBa bxa
  by_cases hy : y = ⟨2, b⟩
  ·have y1 : y.kind = 2 := by rw [hy]
   have y2 : y.id = b := by rw [hy]
   gi_wp2
   exact ⟨(KeepsOthers.setCell _ _ _).from _, ⟨k2.set (.bool true), (hbR.trans (hB2.mono (by omega))).setCell (p := ⟨w.heap.size + 1 + 1, 0, none⟩) (by show _ ≤ w.heap.size + 1 + 1; omega) _⟩, _, by simp, rfl⟩
  ·have hyb : ((y.kind == 2) && (y.id == b)) = false := by
    cases h : ((y.kind == 2) && (y.id == b)) with
    | false => rfl
    | true =>
      simp at h
      exact absurd (by cases y; simp at h; simp [h.1, h.2]) hy
   have hfin : KeepsFrom (w.heap.size + 5) W2 W2 ∧ Below (w.heap.size + 3 + 2) WR W2 ∧ WI (w.heap.size + 1) (w.heap.size + 1 + 1) b (pre ++ [y]) W2 ∧ W2.heap[c]? = some W.heap[c] := by
    refine ⟨KeepsFrom.refl _ _, by rw [← hz3]; exact hB2, ⟨⟨k1, k2⟩, fun p hp' => ?_⟩, ?_⟩
    ·rcases List.mem_append.1 hp' with h | h
     ·exact h3 p h
     ·rw [List.mem_singleton.1 h]; exact hy
    ·rw [← Array.getElem?_eq_getElem hcW]
     exact (show W2.heap[c]? = _ from kc).trans (show W.heap[c]? = _ from bx).symm
   gi_wp2
   ·rename_i e1 e2
    exact absurd (by cases y; simp at e1 e2; simp [e1, e2]) hy
 case qdone =>
  rintro D W hD hBW ⟨⟨h1, h2⟩, h3⟩ hK
  have c2 := h2.cell
  have f2 := h2.frozen
  gi_wp2
  have hK' : (W.setCell ⟨w.heap.size + 1 + 1, 0, none⟩ (.bool false)).heap[D]? = some (.deferred (some [])) := (Below.heap_setCell _ _ _ _ (by show D ≠ w.heap.size + 1 + 1; omega)).trans hK
  have n2 := jD (.deferred none) (h2.set (.bool false)) hK' rfl
  have m2 := n2.cell
  refine ⟨by simp, .inl ⟨_, _, rfl, run_takeDeferred hK', ?_⟩⟩
  refine ⟨.bool false, by simp [results, Tryz.results112, go_sem, m2], ⟨false, rfl, ?_⟩, ?_⟩
  ·simp only [Bool.false_eq_true, false_iff]
   rintro ⟨p, hp1, hp2⟩
   exact h3 p hp1 hp2
  ·exact j4 ((hbR.trans (hBW.mono (by omega))).setCell (p := ⟨w.heap.size + 1 + 1, 0, none⟩) (by show _ ≤ w.heap.size + 1 + 1; omega) _) (by omega) _
 case qstop =>
  rintro D pre W hD hpre ⟨⟨h1, h2⟩, h3⟩ hK
  have n2 := jD (.deferred none) h1 hK rfl
  have m2 := n2.cell
  gi_wp2
  refine ⟨by simp, .inl ⟨_, _, rfl, run_takeDeferred hK, ?_⟩⟩
  refine ⟨.bool true, by simp [results, Tryz.results112, go_sem, m2], ⟨true, rfl, ?_⟩, ?_⟩
  ·simp only [true_iff]
   obtain ⟨p, hp1, hp2⟩ := h3
   exact ⟨p, hpre.subset hp1, hp2⟩
  ·exact j4 h2 (by omega) _
set_option maxRecDepth 100000 in
set_option maxHeartbeats 2000000 in
theorem Tryz.within_eq (n : Nat) (hn : 9 ≤ n) (x : WV) {w : World} {i : Int} :
  CallsIn Fence.wide n Tryz.prog 112 #[.agg x.cs, .int .i64 i, .int .i64 i] w fun e W' => e = .returned (.bool true) ∧ Below w.heap.size w W' := by
 have hcs : x.cs = #[.slice x.a0 x.n0 x.c0, .slice x.a1 x.n1 x.c1, .slice x.a2 x.n2 x.c2, .slice x.a3 x.n3 x.c3, .slice x.a4 x.n4 x.c4, .int .i64 x.r, .int .i64 x.p, .int .i64 x.b, .slice x.a8 x.n8 x.c8, .slice x.a9 x.n9 x.c9, .slice x.a10 x.n10 x.c10] := rfl
 refine callsIn_of_wp Tryz.func112 rfl trivial ?_ rfl
 simp only [Tryz.ntmps112, List.size_toArray, List.length_cons, List.length_nil, Nat.reduceAdd, Nat.reduceSub, Array.replicate_succ, Array.replicate_zero, List.push_toArray, List.append_toArray, List.nil_append, List.cons_append]
 rw [hcs]
 gi_wp2
 rw [← hcs]
 have m := (Boxed.new ((w.alloc (.cells x.cs 29)).alloc (.cells #[.int .i64 i] 3)) 4 (.bool true)).cell
 simp only [World.size_alloc] at m
 have hb : Below w.heap.size w (((w.alloc (.cells x.cs 29)).alloc (.cells #[.int .i64 i] 3)).alloc (.cells #[.bool true] 4)) := (((Below.refl _ w).alloc (Nat.le_refl _) _).alloc (by simp) _).alloc (by simp; omega) _
 obtain ⟨W3, hW3⟩ : ∃ W3, ((w.alloc (.cells x.cs 29)).alloc (.cells #[.int .i64 i] 3)).alloc (.cells #[.bool true] 4) = W3 := ⟨_, rfl⟩
 rw [hW3] at m hb ⊢
 exact bodyPost_ret (v := .bool true) (by simp [results, Tryz.results112, go_sem, m]) rfl ⟨rfl, hb⟩
end Go.Proofs
