/-
  What is in what: tree.Root, tree.Depth.
-/
import Derived.Test.YtcpabdpbldmmmaaGreatDoorLyHd
set_option linter.unusedVariables false
set_option linter.unusedSimpArgs false
namespace Go.Proofs
open Go Go.RowKit Go.Shelf
attribute [local go_sem] Oper.semAt_some
structure WV where
 a0 : Option Addr
 n0 : Nat
 c0 : Nat
 a1 : Option Addr
 n1 : Nat
 c1 : Nat
 a2 : Option Addr
 n2 : Nat
 c2 : Nat
 a3 : Option Addr
 n3 : Nat
 c3 : Nat
 a4 : Option Addr
 n4 : Nat
 c4 : Nat
 r : Int
 p : Int
 b : Int
 a8 : Option Addr
 n8 : Nat
 c8 : Nat
 a9 : Option Addr
 n9 : Nat
 c9 : Nat
 a10 : Option Addr
 n10 : Nat
 c10 : Nat
def WV.cs (x : WV) : Array Value := #[.slice x.a0 x.n0 x.c0, .slice x.a1 x.n1 x.c1, .slice x.a2 x.n2 x.c2, .slice x.a3 x.n3 x.c3, .slice x.a4 x.n4 x.c4, .int .i64 x.r, .int .i64 x.p, .int .i64 x.b, .slice x.a8 x.n8 x.c8, .slice x.a9 x.n9 x.c9, .slice x.a10 x.n10 x.c10]
set_option maxHeartbeats 1000000 in
theorem Tryz.up_call (n : Nat) (hn : 1 ≤ n) (x : WV) (i : Int) (w : World) :
  CallsIn Fence.wide n Tryz.prog 141 #[.agg x.cs, .int .i64 i] w fun e w' => e = .returned (.func (.func 147) #[] #[.pointer (some ⟨w.heap.size, 0, none⟩), .pointer (some ⟨w.heap.size + 1, 0, none⟩)]) ∧
   w' = (w.alloc (.cells x.cs 29)).alloc (.cells #[.int .i64 i] 3) := by
 obtain ⟨a0, n0, c0, a1, n1, c1, a2, n2, c2, a3, n3, c3, a4, n4, c4, r, p, b, a8, n8, c8, a9, n9, c9, a10, n10, c10⟩ := x
 simp only [WV.cs]
 refine callsIn_of_wp Tryz.func141 rfl trivial ?_ rfl
 simp only [Tryz.ntmps141, List.size_toArray, List.length_cons, List.length_nil, Nat.reduceAdd, Nat.reduceSub, Array.replicate_succ, Array.replicate_zero, List.push_toArray, List.append_toArray, List.nil_append, List.cons_append]
 gi_wp2
 go_ret
 exact ⟨rfl, rfl⟩
structure Things (w : World) (x : WV) (ws : List Sx.Place) : Prop where
 len : x.n10 = ws.length
 at_ : ∀ i (h : i < ws.length), ∃ a, x.a10 = some a ∧ a.block < w.heap.size ∧ w.cell? (a.add (i * 2)) = some (.int .i64 ws[i].kind) ∧ w.cell? ((a.add (i * 2)).add 1) = some (.int .i64 ws[i].id)
theorem Things.see {w w0 : World} {x : WV} {i : Int} {ws : List Sx.Place} (h : Things w0 x ws) (hB : Below w0.heap.size w0 w) :
  WSee (w.heap.size + 2) ((w.alloc (.cells x.cs 29)).alloc (.cells #[.int .i64 i] 3)) w.heap.size x.a10 x.c10 ws := by
 have hb : Below w.heap.size w ((w.alloc (.cells x.cs 29)).alloc (.cells #[.int .i64 i] 3)) := ((Below.refl _ w).alloc (Nat.le_refl _) _).alloc (by simp) _
 have hbx : ((w.alloc (.cells x.cs 29)).alloc (.cells #[.int .i64 i] 3)).heap[w.heap.size]? = some (.cells x.cs 29 (0, 0)) := (Below.heap_alloc _ _ _ (by simp)).trans (World.alloc_heap_new w _)
 refine ⟨by omega, ?_, fun j hj => ?_⟩
 ·rw [← h.len]
  have : ((w.alloc (.cells x.cs 29)).alloc (.cells #[.int .i64 i] 3)).cell? ⟨w.heap.size, 10, none⟩ = x.cs[10]? := by simp [World.cell?, hbx]
  rw [this]
  simp [WV.cs]
 ·obtain ⟨a, e, h1, h2, h3⟩ := h.at_ j hj
  have hs := hB.size
  refine ⟨a, e, by omega, ?_, ?_⟩
  ·rw [hb.cell (p := a.add (j * 2)) (by rw [jE]; omega), hB.cell (p := a.add (j * 2)) (by rw [jE]; exact h1)]; exact h2
  ·rw [hb.cell (p := (a.add (j * 2)).add 1) (by rw [jE, jE]; omega), hB.cell (p := (a.add (j * 2)).add 1) (by rw [jE, jE]; exact h1)]; exact h3
set_option maxHeartbeats 1000000 in
theorem Tryz.collect_in (n : Nat) (hn : 7 ≤ n) {Bw Bi H : Nat} {W0 w : World} {ws : List Sx.Place} {A : Option Addr} {cap : Nat} (hs : WSee H W0 Bw A cap ws) {i : Int} (hBi : Bi < H) (hi0 : W0.cell? ⟨Bi, 0, none⟩ = some (.int .i64 i))
  {p0 : Sx.Place} (h0 : Sx.lget ws i = some p0) {path : List Sx.Place} (hp : zf ws path p0) (hpl : path.length ≤ 1000000) (hB : Below H W0 w) (hH : H ≤ w.heap.size) :
  CallsIn Fence.wide n Tryz.prog 142 #[.func (.func 147) #[] #[.pointer (some ⟨Bw, 0, none⟩), .pointer (some ⟨Bi, 0, none⟩)]] w fun e W' =>
   ∃ v, e = .returned v ∧ W'.ownsRow H 65 2 v path.length (Qs path) ∧ Below H W0 W' := by
 refine callsIn_of_wp Tryz.func142 rfl trivial ?_ rfl
 simp only [Tryz.ntmps142, List.size_toArray, List.length_cons, List.length_nil, Nat.reduceAdd, Nat.reduceSub, Array.replicate_succ, Array.replicate_zero, List.push_toArray, List.append_toArray, List.nil_append, List.cons_append]
 gi_wp2
 refine ⟨trivial, fun _ => by omega, ?_⟩
 refine (Tryz.append_in _ (by omega) hs hBi hi0 h0 hp hpl hB hH).mono ?_
 rintro e w' ⟨v, rfl, hr, hb⟩
 gi_wp2
 go_ret
 exact ⟨_, rfl, hr, hb⟩
set_option maxRecDepth 100000 in
set_option maxHeartbeats 1000000 in
theorem Tryz.depth_in (n : Nat) (hn : 9 ≤ n) (x : WV) {ws : List Sx.Place} {w : World} (ht : Things w x ws) {i : Int} {p0 : Sx.Place} (h0 : Sx.lget ws i = some p0) {path : List Sx.Place} (hp : zf ws path p0) (hpl : path.length ≤ 1000000) :
  CallsIn Fence.wide n Tryz.prog 114 #[.agg x.cs, .int .i64 i] w fun e W' => e = .returned (.int .i64 ((path.length : Int) - 1)) ∧ Below w.heap.size w W' := by
 obtain ⟨k, hk⟩ : ∃ k, path.length = k + 1 := by
  cases path with
  | nil => exact hp.elim
  | cons q r => exact ⟨r.length, rfl⟩
 rw [hk]
 refine callsIn_of_wp Tryz.func114 rfl trivial ?_ rfl
 simp only [Tryz.ntmps114, List.size_toArray, List.length_cons, List.length_nil, Nat.reduceAdd, Nat.reduceSub, Array.replicate_succ, Array.replicate_zero, List.push_toArray, List.append_toArray, List.nil_append, List.cons_append]
 have hcs : x.cs = #[.slice x.a0 x.n0 x.c0, .slice x.a1 x.n1 x.c1, .slice x.a2 x.n2 x.c2, .slice x.a3 x.n3 x.c3, .slice x.a4 x.n4 x.c4, .int .i64 x.r, .int .i64 x.p, .int .i64 x.b, .slice x.a8 x.n8 x.c8, .slice x.a9 x.n9 x.c9, .slice x.a10 x.n10 x.c10] := rfl
 rw [hcs]
 gi_wp2
 rw [← hcs]
 refine ⟨trivial, fun _ => by omega, ?_⟩
 refine (Tryz.up_call _ (by omega) x i _).mono ?_
 rintro e w' ⟨rfl, rfl⟩
 gi_wp2
 rw [← hcs]
 have hs := ht.see (w := w.alloc (.cells x.cs 29)) (i := i) ((Below.refl _ w).alloc (Nat.le_refl _) _)
 simp only [World.size_alloc] at hs
 have hBi : (((w.alloc (.cells x.cs 29)).alloc (.cells x.cs 29)).alloc (.cells #[.int .i64 i] 3)).cell? ⟨w.heap.size + 1 + 1, 0, none⟩ = some (.int .i64 i) := by
  have := (Boxed.new ((w.alloc (.cells x.cs 29)).alloc (.cells x.cs 29)) 3 (.int .i64 i)).cell
  simpa only [World.size_alloc] using this
 have hb0 : Below w.heap.size w (((w.alloc (.cells x.cs 29)).alloc (.cells x.cs 29)).alloc (.cells #[.int .i64 i] 3)) := (((Below.refl _ w).alloc (Nat.le_refl _) _).alloc (by simp) _).alloc (by simp; omega) _
 refine ⟨trivial, fun _ => by omega, ?_⟩
 refine (Tryz.collect_in _ (by omega) hs (Bi := w.heap.size + 1 + 1) (by omega) hBi h0 hp hpl (Below.refl _ _) (by simp)).mono ?_
 rintro e w' ⟨v, rfl, hr, hb⟩
 have hbw : Below w.heap.size w w' := hb0.trans (hb.mono (by omega))
 clear hBi hs
 rw [hk] at hr
 obtain ⟨g, cap, rfl⟩ := ownsRow_succ hr
 have hkl : k < 1000000 := by omega
 clear hk hb hb0
 have hw : wrap64 (k : Int) = k := IntWalk.wrap64_in _ (by omega)
 gi_wp2
 go_ret
 exact ⟨by simp [hw], hbw⟩
theorem RN : ∀ pre : List Sx.Place, (Qs pre).length = pre.length * 2
 | [] => rfl
 | a :: r => by
   have e : Qs (a :: r) = .int .i64 a.kind :: .int .i64 a.id :: Qs r := rfl
   rw [e, List.length_cons, List.length_cons, RN r, List.length_cons]
   omega
theorem qfm {W : World} {H g cap : Nat} {pre : List Sx.Place} {z : Sx.Place} (h : W.ownsRow H 65 2 (.slice (some ⟨g, 0, none⟩) (pre.length + 1) cap) (pre.length + 1) (Qs (pre ++ [z]))) :
  W.cell? ⟨g, pre.length * 2, none⟩ = some (.int .i64 z.kind) ∧ W.cell? ⟨g, pre.length * 2 + 1, none⟩ = some (.int .i64 z.id) := by
 obtain ⟨_, ⟨h, _⟩ | ⟨g', cap', cur, h, k2, k3, k4, k5, k6, k7⟩⟩ := h
 ·cases h
 ·cases h
  have hl : (Qs pre).length = pre.length * 2 := RN pre
  rw [RO] at k7
  have key : ∀ j, j < 2 → cur[pre.length * 2 + j]? = [Value.int .i64 z.kind, Value.int .i64 z.id][j]? := by
   intro j hj
   have := congrArg (fun l : List Value => l[pre.length * 2 + j]?) k7
   simp only [List.getElem?_take_of_lt (show pre.length * 2 + j < (pre.length + 1) * 2 by omega), Array.getElem?_toList] at this
   rw [this, List.getElem?_append_right (by omega), hl]
   congr 1
   omega
  have h0 := key 0 (by omega)
  have h1 := key 1 (by omega)
  refine ⟨?_, ?_⟩
  ·simp only [World.cell?, k3]
   simpa using h0
  ·simp only [World.cell?, k3]
   simpa using h1
set_option maxRecDepth 100000 in
set_option maxHeartbeats 1000000 in
theorem Tryz.root_in (n : Nat) (hn : 9 ≤ n) (x : WV) {ws : List Sx.Place} {w : World} (ht : Things w x ws) {i : Int} {p0 : Sx.Place} (h0 : Sx.lget ws i = some p0) {pre : List Sx.Place} {z : Sx.Place} (hp : zf ws (pre ++ [z]) p0) (hpl : pre.length < 1000000) :
  CallsIn Fence.wide n Tryz.prog 140 #[.agg x.cs, .int .i64 i] w fun e W' => e = .returned (plV z) ∧ Below w.heap.size w W' := by
 have hcs : x.cs = #[.slice x.a0 x.n0 x.c0, .slice x.a1 x.n1 x.c1, .slice x.a2 x.n2 x.c2, .slice x.a3 x.n3 x.c3, .slice x.a4 x.n4 x.c4, .int .i64 x.r, .int .i64 x.p, .int .i64 x.b, .slice x.a8 x.n8 x.c8, .slice x.a9 x.n9 x.c9, .slice x.a10 x.n10 x.c10] := rfl
 refine callsIn_of_wp Tryz.func140 rfl trivial ?_ rfl
 simp only [Tryz.ntmps140, List.size_toArray, List.length_cons, List.length_nil, Nat.reduceAdd, Nat.reduceSub, Array.replicate_succ, Array.replicate_zero, List.push_toArray, List.append_toArray, List.nil_append, List.cons_append]
 rw [hcs]
 gi_wp2
 rw [← hcs]
 refine ⟨trivial, fun _ => by omega, ?_⟩
 refine (Tryz.up_call _ (by omega) x i _).mono ?_
 rintro e w' ⟨rfl, rfl⟩
 gi_wp2
 rw [← hcs]
 have hb00 : Below w.heap.size w ((w.alloc (.cells x.cs 29)).alloc (.cells #[.int .i64 0, .int .i64 0] 65)) := ((Below.refl _ w).alloc (Nat.le_refl _) _).alloc (by simp) _
 have hs := ht.see (w := (w.alloc (.cells x.cs 29)).alloc (.cells #[.int .i64 0, .int .i64 0] 65)) (i := i) hb00
 simp only [World.size_alloc] at hs
 have hBi : ((((w.alloc (.cells x.cs 29)).alloc (.cells #[.int .i64 0, .int .i64 0] 65)).alloc (.cells x.cs 29)).alloc (.cells #[.int .i64 i] 3)).cell? ⟨w.heap.size + 1 + 1 + 1, 0, none⟩ = some (.int .i64 i) := by
  have := (Boxed.new (((w.alloc (.cells x.cs 29)).alloc (.cells #[.int .i64 0, .int .i64 0] 65)).alloc (.cells x.cs 29)) 3 (.int .i64 i)).cell
  simpa only [World.size_alloc] using this
 have hb0 : Below w.heap.size w ((((w.alloc (.cells x.cs 29)).alloc (.cells #[.int .i64 0, .int .i64 0] 65)).alloc (.cells x.cs 29)).alloc (.cells #[.int .i64 i] 3)) := (hb00.alloc (by simp; omega) _).alloc (by simp; omega) _
 have hx4 : j9 ((((w.alloc (.cells x.cs 29)).alloc (.cells #[.int .i64 0, .int .i64 0] 65)).alloc (.cells x.cs 29)).alloc (.cells #[.int .i64 i] 3)) (w.heap.size + 1) ⟨0, 0⟩ := by
  have := j9.new (w.alloc (.cells x.cs 29)) ⟨0, 0⟩
  simp only [World.size_alloc] at this
  exact (Below.heap_alloc _ _ _ (by simp)).trans ((Below.heap_alloc _ _ _ (by simp)).trans this)
 refine ⟨trivial, fun _ => by omega, ?_⟩
 refine (Tryz.collect_in _ (by omega) hs (Bi := w.heap.size + 1 + 1 + 1) (by omega) hBi h0 hp (by simp; omega) (Below.refl _ _) (by simp)).mono ?_
 rintro e w' ⟨v, rfl, hr, hb⟩
 have hbw : Below w.heap.size w w' := hb0.trans (hb.mono (by omega))
 have hx : j9 w' (w.heap.size + 1) ⟨0, 0⟩ := (hb.block _ (by omega)).trans hx4
 clear hBi hs hx4
 rw [List.length_append] at hr
 obtain ⟨g, cap, rfl⟩ := ownsRow_succ hr
 obtain ⟨l0, l1⟩ := qfm hr
 obtain ⟨k, hk⟩ : ∃ k, pre.length = k := ⟨_, rfl⟩
 simp only [List.length_cons, List.length_nil, Nat.zero_add]
 rw [hk] at l0 l1 hpl ⊢
 clear hr hb hb0 hk hb00
 have hw : wrap64 (k : Int) = k := IntWalk.wrap64_in _ (by omega)
 have f0 := hx.f0
 have f1 := hx.f1
 have g0 := hx.c0
 have g1 := hx.c1
 gi_wp2
 have bn : j9 ((w'.setCell ⟨w.heap.size + 1, 0, none⟩ (.int .i64 z.kind)).setCell ⟨w.heap.size + 1, 1, none⟩ (.int .i64 z.id)) (w.heap.size + 1) z := hx.put
 obtain ⟨W3, hW3⟩ : ∃ W3, (w'.setCell ⟨w.heap.size + 1, 0, none⟩ (.int .i64 z.kind)).setCell ⟨w.heap.size + 1, 1, none⟩ (.int .i64 z.id) = W3 := ⟨_, rfl⟩
 have hb3 : Below w.heap.size w W3 := hW3 ▸ (hbw.setCell (p := ⟨w.heap.size + 1, 0, none⟩) (by show _ ≤ w.heap.size + 1; omega) _).setCell (p := ⟨w.heap.size + 1, 1, none⟩) (by show _ ≤ w.heap.size + 1; omega) _
 rw [hW3] at bn ⊢
 have e0 := bn.c0
 have e1 := bn.c1
 refine bodyPost_ret (v := plV z) (by simp [results, Tryz.results140, go_sem, e0, e1]) rfl ⟨rfl, hb3⟩
end Go.Proofs
