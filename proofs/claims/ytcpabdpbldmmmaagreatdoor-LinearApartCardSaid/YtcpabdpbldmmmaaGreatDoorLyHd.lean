/-
  What is in what: tree.up's places, collected.
-/
import Derived.Test.YtcpabdpbldmmmaaGreatDoorLyHc
set_option linter.unusedVariables false
set_option linter.unusedSimpArgs false
namespace Go.Proofs
open Go Go.RowKit Go.Shelf
attribute [local go_sem] Oper.semAt_some
theorem Tryz.u27 : Tryz.prog.underlying 27 = some (.slice 65) := by kernel_rfl
theorem Tryz.info65 : (Tryz.prog.info? 65).map (fun i => (i.zero, i.size, i.bytes)) = some (some (.agg #[.int .i64 0, .int .i64 0]), 2, 16) := by kernel_rfl
def Qs (l : List Sx.Place) : List Value := l.flatMap fun p => [.int .i64 p.kind, .int .i64 p.id]
theorem RO (l : List Sx.Place) (p : Sx.Place) : Qs (l ++ [p]) = Qs l ++ [.int .i64 p.kind, .int .i64 p.id] := by simp [Qs]
theorem qfl {W : World} {b b' : Nat} {e : TypeId} {size : Nat} {v : Value} {k : Nat} {xs : List Value} (h : W.ownsRow b e size v k xs) (hb : b' ≤ b) : W.ownsRow b' e size v k xs := by
 obtain ⟨h1, h2 | ⟨g, cap, cur, x1, x2, x3⟩⟩ := h
 ·exact ⟨h1, .inl h2⟩
 ·exact ⟨h1, .inr ⟨g, cap, cur, x1, Nat.le_trans hb x2, x3⟩⟩
theorem vZ (W : World) (b k : Nat) (v : Value) : W.grownBy (W.setCell ⟨b, k, none⟩ v) (some b) :=
 ⟨rfl, rfl, rfl, (KeepsWalks.setCell W _ v).size, fun q _ hk => Below.heap_setCell _ _ _ q (fun e => hk (by rw [e]))⟩
theorem K3 {W : World} {B : Nat} {t : TypeId} {u v : Value} (h : Boxed W B t u) (h' : Boxed W B t v) : u = v := by
 have := (show W.heap[B]? = _ from h).symm.trans h'
 simpa using this
def CI (H B : Nat) (pre : List Sx.Place) (W : World) : Prop := ∃ v, Boxed W B 27 v ∧ W.ownsRow H 65 2 v pre.length (Qs pre) ∧ (pre = [] → v = .slice none 0 0)
def CP (B b : Nat) (W : World) : Prop := b ≠ B ∧ b < W.heap.size ∧ ∀ v, Boxed W B 27 v → v.ownBlock ≠ some b
theorem row_lt {W : World} {base : Nat} {e : TypeId} {size : Nat} {v : Value} {k : Nat} {xs : List Value} (h : W.ownsRow base e size v k xs) {g : Nat} (hg : v.ownBlock = some g) : g < W.heap.size := by
 obtain ⟨_, ⟨rfl, _⟩ | ⟨g', cap, cur, rfl, _, h3, _⟩⟩ := h
 ·simp [Value.ownBlock] at hg
 ·simp [Value.ownBlock] at hg
  subst hg
  exact (Array.getElem?_eq_some_iff.1 h3).1
theorem qbt {H B : Nat} {pre : List Sx.Place} {W W' : World} {row : Option Nat} (h : CI H B pre W) (hg : W.grownBy W' row) (hB : some B ≠ row) (hr : ∀ v, Boxed W B 27 v → v.ownBlock = none ∨ v.ownBlock ≠ row) : CI H B pre W' := by
 obtain ⟨v, h1, h2, h3⟩ := h
 exact ⟨v, h1.kept hg hB, h2.kept hg (hr v h1), h3⟩
theorem YH {H B : Nat} {pre : List Sx.Place} {W : World} {l : Nat} {o : Obj} (o' : Obj) (h : CI H B pre W) (hl : W.heap[l]? = some o) (ho : o.isCells = false) : CI H B pre (W.putObj l o') := by
 obtain ⟨v, h1, h2, h3⟩ := h
 refine ⟨v, ?_, ownsRow_putObj h2 _ hl ho, h3⟩
 refine (World.putObj_heap_other ?_).trans h1
 intro e
 subst e
 rw [show W.heap[B]? = _ from h1] at hl
 cases hl
 cases ho
theorem YD {H B b : Nat} {pre : List Sx.Place} {W : World} {l : Nat} {o : Obj} (o' : Obj) (h : CI H B pre W) (hp : CP B b W) (hl : W.heap[l]? = some o) (ho : o.isCells = false) : CP B b (W.putObj l o') := by
 obtain ⟨v, h1, h2, h3⟩ := h
 obtain ⟨p1, p2, p3⟩ := hp
 refine ⟨p1, by rw [Q5]; exact p2, fun u hu => p3 u ?_⟩
 refine (World.putObj_heap_other ?_).symm.trans hu
 intro e
 subst e
 rw [show W.heap[B]? = _ from h1] at hl
 cases hl
 cases ho
theorem Nh {H B : Nat} {pre : List Sx.Place} {W : World} (o : Obj) (h : CI H B pre W) : CI H B pre (W.alloc o) :=
 qbt h (World.grownBy_alloc W o none) (by simp) (fun v hv => by cases hb : v.ownBlock <;> simp)
theorem qia {H B b : Nat} {pre : List Sx.Place} {W : World} (o : Obj) (h : CI H B pre W) (hp : CP B b W) : CP B b (W.alloc o) := by
 obtain ⟨v, h1, h2, h3⟩ := h
 obtain ⟨p1, p2, p3⟩ := hp
 refine ⟨p1, by simp; omega, fun u hu => ?_⟩
 rw [K3 hu (h1.alloc o)]
 exact p3 v h1
theorem qcb (W : World) (x : Sx.Place) (j : Nat) (u : Value) (h : [Value.int .i64 x.kind, Value.int .i64 x.id][j]? = some u) : (W.alloc (.cells #[.int .i64 x.kind, .int .i64 x.id] 65)).cell? ((⟨W.heap.size, 0, none⟩ : Addr).add j) = some u := by
 have b := j9.new W x
 rw [Sx.add_lit]
 match j, h with
 | 0, h => simp at h; rw [← h]; exact b.c0
 | 1, h => simp at h; rw [← h]; exact b.c1
 | j + 2, h => simp at h
set_option maxRecDepth 100000 in
set_option maxHeartbeats 2000000 in
theorem Tryz.append_in (n : Nat) (hn : 6 ≤ n) {Bw Bi H : Nat} {W0 w : World} {ws : List Sx.Place} {A : Option Addr} {cap : Nat} (hs : WSee H W0 Bw A cap ws) {i : Int} (hBi : Bi < H) (hi0 : W0.cell? ⟨Bi, 0, none⟩ = some (.int .i64 i))
  {p0 : Sx.Place} (h0 : Sx.lget ws i = some p0) {path : List Sx.Place} (hp : zf ws path p0) (hpl : path.length ≤ 1000000) (hB : Below H W0 w) (hH : H ≤ w.heap.size) :
  CallsIn Fence.wide n Tryz.prog 148 #[.slice none 0 0, .func (.func 147) #[] #[.pointer (some ⟨Bw, 0, none⟩), .pointer (some ⟨Bi, 0, none⟩)]] w fun e W' =>
   ∃ v, e = .returned v ∧ W'.ownsRow H 65 2 v path.length (Qs path) ∧ Below H W0 W' := by
 obtain ⟨i0, hi, hz0, hz1, hz2⟩ := info_parts Tryz.info65
 refine callsIn_of_wp_marks Tryz.func148 rfl trivial ?_ rfl
 simp only [Tryz.ntmps148, List.size_toArray, List.length_cons, List.length_nil, Nat.reduceAdd, Nat.reduceSub, Array.replicate_succ, Array.replicate_zero, List.push_toArray, List.append_toArray, List.nil_append, List.cons_append]
 gi_wp2
 generalize hwL : w.alloc (Obj.cells #[Value.slice none 0 0] 27) = wL
 have hsz : wL.heap.size = w.heap.size + 1 := by rw [← hwL]; simp
 have bO : Boxed wL w.heap.size 27 (.slice none 0 0) := by rw [← hwL]; exact Boxed.new w 27 _
 have hBL : Below H W0 wL := by rw [← hwL]; exact hB.alloc hH _
 refine Tryz.range_up _ (by omega) hs hBi hi0 h0 hp rfl hBL (by omega) rfl (CI H w.heap.size) (fun _ _ => False) (fun b _ W => CP w.heap.size b W) ?qa ?qb ?qc ?qd ?qe (fun _ _ _ _ _ h => h.elim) ⟨_, bO, World.ownsRow_nil _ _ _ _, fun _ => rfl⟩ ?qround ?qdone (fun _ _ _ _ _ h => h.elim)
 case qa =>
  rintro pre W o h
  exact Nh o h
 case qb =>
  rintro pre W o ⟨v, h1, h2, _⟩
  refine ⟨fun e => ?_, by simp, fun u hu e => ?_⟩
  ·have := h1.lt
   omega
  ·rw [K3 hu (h1.alloc o)] at e
   have := row_lt h2 e
   omega
 case qc =>
  rintro b pre W k u h ⟨p1, p2, p3⟩
  refine ⟨qbt h (vZ W b k u) (by simp; exact fun e => p1 e.symm) (fun v hv => .inr (p3 v hv)), p1, by simpa [World.setCell] using p2, fun v hv => p3 v ?_⟩
  exact (Below.heap_setCell _ _ _ _ (by show w.heap.size ≠ b; exact fun e => p1 e.symm)).symm.trans hv
 case qd => exact fun pre W l o o' h hl ho => YH o' h hl ho
 case qe => exact fun b pre W l o o' h hp hl ho => YD o' h hp hl ho
 case qround =>
  rintro l b pre x W hI hPr hb2 bx hBW ⟨rest, hrest⟩
  gi_wp2
  refine ⟨(KeepsOthers.alloc W _).from _, fun o o' hl ho => ?_⟩
  obtain ⟨Wa, hWa⟩ : ∃ Wa, W.alloc (.cells #[.int .i64 x.kind, .int .i64 x.id] 65) = Wa := ⟨_, rfl⟩
  have b5 : j9 Wa W.heap.size x := hWa ▸ j9.new W x
  have hza : Wa.heap.size = W.heap.size + 1 := by rw [← hWa]; simp
  have hbW := bx.lt
  have bxa : j9 Wa b x := by rw [← hWa]; exact (Below.heap_alloc _ _ _ hbW).trans bx
  have hIa := hWa ▸ Nh (.cells #[.int .i64 x.kind, .int .i64 x.id] 65) hI
  have hPa := hWa ▸ qia (.cells #[.int .i64 x.kind, .int .i64 x.id] 65) hI hPr
  have hBa : Below H W0 Wa := hWa ▸ hBW.alloc (by have := hBW.size; have := bx.lt; omega) _
  have hba : Wa.heap[b]? = W.heap[b]? := bxa.trans (show W.heap[b]? = _ from bx).symm
  rw [hWa] at hl ⊢
  have hne : ∀ {q : Nat} {y : Sx.Place}, j9 Wa q y → q ≠ wL.heap.size + 1 := by
   intro q y hq e
   subst e
   rw [show Wa.heap[wL.heap.size + 1]? = _ from hq] at hl
   cases hl
   cases ho
  obtain ⟨W2, hW2⟩ : ∃ W2, Wa.putObj (wL.heap.size + 1) o' = W2 := ⟨_, rfl⟩
  have hI2 : CI H w.heap.size pre W2 := hW2 ▸ YH o' hIa hl ho
  have hP2 : CP w.heap.size b W2 := hW2 ▸ YD o' hIa hPa hl ho
  have hB2 : Below H W0 W2 := hW2 ▸ j4 hBa (by omega) _
  have b5' : j9 W2 W.heap.size x := hW2 ▸ (World.putObj_heap_other (hne b5)).trans b5
  have bxb : j9 W2 b x := hW2 ▸ (World.putObj_heap_other (hne bxa)).trans bxa
  have hz2 : W2.heap.size = W.heap.size + 1 := by rw [← hW2, Q5, hza]
  rw [hW2]
  obtain ⟨v, hv, hrow, hnil⟩ := hI2
  obtain ⟨p1, p2, p3⟩ := hP2
  have hc := hv.cell
  have c0 := b5'.c0
  have c1 := b5'.c1
  have hlen : pre.length < path.length := by rw [hrest]; simp
  have hHB : H ≤ w.heap.size := hH
  obtain ⟨B', hB1, hB2', hB3, hrowB⟩ : ∃ B', H ≤ B' ∧ (pre = [] → B' = W2.heap.size) ∧ B' ≤ W2.heap.size ∧ W2.ownsRow B' 65 2 v pre.length (Qs pre) := by
   by_cases he : pre = []
   ·refine ⟨W2.heap.size, by omega, fun _ => rfl, Nat.le_refl _, ?_⟩
    rw [hnil he, he]
    exact World.ownsRow_nil _ _ _ _
   ·exact ⟨H, Nat.le_refl _, fun h => absurd h he, by omega, hrow⟩
  clear hz2 hza hWa hW2
  gi_wp2_with (gi_at_builtin; refine wpListIn_append_own _ rfl _ _ 27 rfl B' 65 i0 (.agg #[.int .i64 0, .int .i64 0]) 2 16 Tryz.u27 hi hz0 hz1 hz2 rfl (by decide) _ _ _ rfl (hrowB.alloc _) ⟨W2.heap.size, 0, none⟩ 1 1 [.int .i64 x.kind, .int .i64 x.id] rfl rfl (qcb W2 x) (by simp [Value.oneCell']) (by unfold maxLen; omega) (by omega) (by simp; omega) ?_; intro v' w1 hown' hgrow _; have hv1 : Boxed w1 w.heap.size 27 v := (hv.alloc _).kept hgrow (hv.not_row (by decide) hrow); obtain ⟨g', cap', rfl⟩ := ownsRow_succ hown'; have hc1 := hv1.cell; have hf1 := hv1.frozen)
  have hHW : H ≤ W2.heap.size := by omega
  obtain ⟨_, hv2, hr2, hk2, hbl⟩ := hv.appended (n₀ := H) (by decide) hrow hHW hHB (qfl hown' hB1) hgrow
  have hw1b : w1.heap[b]? = some (.cells #[.int .i64 x.kind, .int .i64 x.id] 65 (0, 0)) := (hgrow.block b (by simp; omega) (fun e => p3 v hv e.symm)).trans ((Below.heap_alloc _ _ _ p2).trans bxb)
  have hgb : g' ≠ b := by
   rintro rfl
   obtain ⟨_, ⟨h, _⟩ | ⟨g, cap, cur, h, k2, k3, k4, k5, k6, k7⟩⟩ := hown'
   ·cases h
   ·cases h
    by_cases he : pre = []
    ·have := hB2' he
     omega
    ·rw [hw1b] at k3
     cases k3
     have : 0 < pre.length := List.length_pos_iff.2 he
     simp at k6
     omega
  have hb3 : (w1.setCell ⟨w.heap.size, 0, none⟩ (.slice (some ⟨g', 0, none⟩) (pre.length + 1) cap')).heap[b]? = some (.cells #[.int .i64 x.kind, .int .i64 x.id] 65 (0, 0)) := (Below.heap_setCell _ _ _ _ p1).trans hw1b
  refine ⟨hk2.from _, hB2.trans hbl, ⟨_, hv2, by rw [RO, List.length_append]; exact hr2, fun h => by simp at h⟩, ⟨p1, (Array.getElem?_eq_some_iff.1 hb3).1, fun u hu e => ?_⟩, ?_⟩
  ·rw [K3 hu hv2] at e
   simp [Value.ownBlock] at e
   exact hgb e
  ·rw [hb3, ← Array.getElem?_eq_getElem hbW]
   exact (show W.heap[b]? = _ from bx).symm
 case qdone =>
  rintro D W hD hBW ⟨v, hv, hrow, _⟩ hK
  have hc := hv.cell
  gi_wp2
  refine ⟨by simp, .inl ⟨_, _, rfl, run_takeDeferred hK, ?_⟩⟩
  exact ⟨_, results_tmp rfl _ _ _, v, rfl, ownsRow_putObj hrow _ hK rfl, j4 hBW (by omega) _⟩
end Go.Proofs
