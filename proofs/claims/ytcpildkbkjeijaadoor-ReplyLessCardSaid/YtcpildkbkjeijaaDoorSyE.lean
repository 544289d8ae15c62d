/-
  A line's words: the walk of token.Cut.
-/
import Derived.Test.YtcpildkbkjeijaaDoorSyD
set_option linter.unusedVariables false
set_option linter.unusedSimpArgs false
namespace Go.Proofs
open Go Go.RowKit Go.Shelf
attribute [local go_sem] Oper.semAt_some
theorem Tryd.uSl : Tryd.prog.underlying 51 = some (.slice 9) := by kernel_rfl
theorem Tryd.infoS : (Tryd.prog.info? 9).map (fun i => (i.zero, i.size, i.bytes)) = some (some (.string ⟨#[]⟩), 1, 16) := by kernel_rfl

set_option maxHeartbeats 1000000 in
theorem Tryd.gen_in (n : Nat) (hn : 2 ≤ n) (s sep : List UInt8) (w : World) :
    CallsIn Fence.wide n Tryd.prog 84 #[strV s, strV sep, .int .i64 0] w fun e w' => e = .returned (.func (.func 96) #[] #[.pointer (some ⟨w.heap.size + 1, 0, none⟩), .pointer (some ⟨w.heap.size, 0, none⟩), .pointer (some ⟨w.heap.size + 2, 0, none⟩)]) ∧
      w' = ((w.alloc (.cells #[strV s] 9)).alloc (.cells #[strV sep] 9)).alloc (.cells #[.int .i64 0] 3) := by
  refine callsIn_of_wp Tryd.func84 rfl trivial ?_ rfl
  simp only [Tryd.ntmps84, List.size_toArray, List.length_cons, List.length_nil, Nat.reduceAdd, Nat.reduceSub, Array.replicate_succ, Array.replicate_zero, List.push_toArray, List.append_toArray, List.nil_append, List.cons_append]
  gi_wp2
  go_ret
  exact ⟨rfl, rfl⟩
set_option maxHeartbeats 1000000 in
theorem Tryd.seq_in (n : Nat) (hn : 3 ≤ n) (s sep : List UInt8) (w : World) :
    CallsIn Fence.wide n Tryd.prog 58 #[strV s, strV sep] w fun e w' => e = .returned (.func (.func 96) #[] #[.pointer (some ⟨w.heap.size + 1, 0, none⟩), .pointer (some ⟨w.heap.size, 0, none⟩), .pointer (some ⟨w.heap.size + 2, 0, none⟩)]) ∧
      w' = ((w.alloc (.cells #[strV s] 9)).alloc (.cells #[strV sep] 9)).alloc (.cells #[.int .i64 0] 3) := by
  refine callsIn_of_wp Tryd.func58 rfl trivial ?_ rfl
  simp only [Tryd.ntmps58, List.size_toArray, List.length_cons, List.length_nil, Nat.reduceAdd, Nat.reduceSub, Array.replicate_succ, Array.replicate_zero, List.push_toArray, List.append_toArray, List.nil_append, List.cons_append]
  gi_wp2
  refine ⟨trivial, fun _ => by omega, ?_⟩
  refine (Tryd.gen_in _ (by omega) _ _ _).mono ?_
  rintro e w' ⟨rfl, rfl⟩
  gi_wp2
  go_ret
  exact ⟨rfl, rfl⟩

/-- The words of a list of pieces. -/
def ws (l : List (List UInt8)) : List (List UInt8) := l.filter fun w => !w.isEmpty
theorem ws_hit (pre : List (List UInt8)) (c : UInt8) (r : List UInt8) : ws (pre ++ [c :: r]) = ws pre ++ [c :: r] := by simp [ws]
theorem ws_miss (pre : List (List UInt8)) : ws (pre ++ [[]]) = ws pre := by simp [ws]
theorem ws_len (pre : List (List UInt8)) : (ws pre).length ≤ pre.length := List.length_filter_le _ _
theorem ownsRow_weak {W : World} {b b' : Nat} {e : TypeId} {size : Nat} {v : Value} {k : Nat} {xs : List Value} (h : W.ownsRow b e size v k xs) (hb : b' ≤ b) : W.ownsRow b' e size v k xs := by
  obtain ⟨h1, h2 | ⟨g, cap, cur, x1, x2, x3⟩⟩ := h
  · exact ⟨h1, .inl h2⟩
  · exact ⟨h1, .inr ⟨g, cap, cur, x1, Nat.le_trans hb x2, x3⟩⟩
theorem ownsRow_not {W : World} {b : Nat} {e : TypeId} {size : Nat} {v : Value} {k : Nat} {xs : List Value} (h : W.ownsRow b e size v k xs) {j : Nat} (hj : j < b) : v.ownBlock = none ∨ v.ownBlock ≠ some j := by
  obtain ⟨h1, h2 | ⟨g, cap, cur, rfl, x2, x3⟩⟩ := h
  · exact .inl (by rw [h2.1]; rfl)
  · refine .inr ?_
    simp [Value.ownBlock]
    omega
/-- What the round leaves as it is. -/
theorem kp_trans {a b c : Nat} {A B C : World} (h : KpBox a b c A B) (k : KpBox a b c B C) : KpBox a b c A C := ⟨k.1.trans h.1, k.2.1.trans h.2.1, k.2.2.trans h.2.2⟩
theorem kp_put {a b c l : Nat} (ha : a < l) (hb : b < l) (hc : c < l) (W : World) (o : Obj) : KpBox a b c W (W.putObj l o) :=
  ⟨World.putObj_heap_other (by omega), World.putObj_heap_other (by omega), World.putObj_heap_other (by omega)⟩

set_option maxRecDepth 100000 in
set_option maxHeartbeats 2000000 in
/-- A line, cut into words. -/
theorem Tryd.cut_in (n : Nat) (hn : 8 ≤ n) (s : List UInt8) (hs : s.length ≤ 1000000000) (w : World) :
    CallsIn Fence.wide n Tryd.prog 44 #[strV s] w fun e W' => ∃ v, e = .returned v ∧ W'.ownsRow w.heap.size 9 1 v (ws (Sx.piecesL [] s)).length ((ws (Sx.piecesL [] s)).map strV) ∧ Below w.heap.size w W' := by
  obtain ⟨i0, hi, hz0, hz1, hz2⟩ := info_parts Tryd.infoS
  refine callsIn_of_wp_marks Tryd.func44 rfl trivial ?_ rfl
  simp only [Tryd.ntmps44, List.size_toArray, List.length_cons, List.length_nil, Nat.reduceAdd, Nat.reduceSub, Array.replicate_succ, Array.replicate_zero, List.push_toArray, List.append_toArray, List.nil_append, List.cons_append]
  gi_wp2
  refine ⟨trivial, fun _ => by omega, ?_⟩
  refine (Tryd.seq_in _ (by omega) s [32] _).mono ?_
  rintro e w' ⟨rfl, rfl⟩
  gi_wp2
  obtain ⟨H, hH⟩ : ∃ H, w.heap.size = H := ⟨_, rfl⟩
  rw [hH]
  generalize hwL : (((w.alloc (Obj.cells #[Value.slice none 0 0] 51)).alloc (Obj.cells #[strV s] 9)).alloc (Obj.cells #[strV [32]] 9)).alloc (Obj.cells #[Value.int IntKind.i64 0] 3) = wL
  have hsz : wL.heap.size = H + 4 := by rw [← hwL, ← hH]; simp
  have bO : Boxed wL H 51 (.slice none 0 0) := by
    rw [← hwL, ← hH]
    exact (((Boxed.new w 51 _).alloc _).alloc _).alloc _
  have bS : Boxed wL (H + 1) 9 (strV s) := by
    have := Boxed.new (w.alloc (Obj.cells #[Value.slice none 0 0] 51)) 9 (strV s)
    rw [World.size_alloc] at this
    rw [← hwL, ← hH]
    exact (this.alloc _).alloc _
  have bP : Boxed wL (H + 1 + 1) 9 (strV [32]) := by
    have := Boxed.new ((w.alloc (Obj.cells #[Value.slice none 0 0] 51)).alloc (Obj.cells #[strV s] 9)) 9 (strV [32])
    rw [World.size_alloc, World.size_alloc] at this
    rw [← hwL, ← hH]
    exact this.alloc _
  have bK : Boxed wL (H + 1 + 2) 3 (.int .i64 0) := by
    have := Boxed.new (((w.alloc (Obj.cells #[Value.slice none 0 0] 51)).alloc (Obj.cells #[strV s] 9)).alloc (Obj.cells #[strV [32]] 9)) 3 (.int .i64 0)
    rw [World.size_alloc, World.size_alloc, World.size_alloc] at this
    rw [← hwL, ← hH]
    exact this
  have hB0 : Below H w wL := by
    rw [← hwL, ← hH]
    exact ((((Below.refl _ w).alloc (Nat.le_refl _) _).alloc (by simp) _).alloc (by simp; omega) _).alloc (by simp; omega) _
  have hpl := pieces_len s []
  refine wpIn_rangeFunc_box (α := List UInt8) (Kp := KpBox (H + 1) (H + 1 + 1) (H + 1 + 2)) (Bs := H + 1) (S := fun ys => ys = Sx.piecesL [] s) (N := (Sx.piecesL [] s).length) rfl (by omega) (gf := 96) rfl trivial (enters_of Tryd.func96 (by kernel_rfl) rfl)
    (encs := fun x => #[strV x]) (by omega) ?seq kp_trans (fun W l o hl => kp_put (by omega) (by omega) (by omega) W o) (fun _ => rfl)
    (fun pre W => (∃ v, Boxed W H 51 v ∧ W.ownsRow (H + 4) 9 1 v (ws pre).length ((ws pre).map strV) ∧ True) ∧ Below H w W ∧ H + 4 ≤ W.heap.size)
    ?own ?set ⟨⟨_, bO, World.ownsRow_nil _ _ _ _, trivial⟩, hB0, by omega⟩
    (fun x => { tmps := #[strV s, undef, .slice none 0 0, .pointer (some ⟨H, 0, none⟩), strV x, strV s, .func (.func 96) #[] #[.pointer (some ⟨H + 1 + 1, 0, none⟩), .pointer (some ⟨H + 1, 0, none⟩), .pointer (some ⟨H + 1 + 2, 0, none⟩)], strV x, undef, undef, undef, undef, undef, undef, undef], defers := [] }) ?assign ?body ?done
  case seq =>
    intro l J W hW hJs hY hJ0
    have e : ∀ k, k < wL.heap.size → W.heap[k]? = wL.heap[k]? := hW.block
    refine (Tryd.split_in (n - 1) (by omega) l (H + 1) (H + 1 + 1) (H + 1 + 2) (by omega) (by omega) s hs J (fun _ _ => False) (fun pre W v h => hJs pre W v h) (fun pre x W1 hj hl => (hY pre x W1 hj hl).mono (fun e W' h => .inl h)) W ((e _ (by omega)).trans bS) ((e _ (by omega)).trans bP) ((e _ (by omega)).trans bK) hJ0).mono ?_
    rintro e W' ⟨hv, (⟨ys, hys, hj⟩ | ⟨_, _, hf⟩)⟩
    · exact ⟨hv, ys, hys, hj⟩
    · exact hf.elim
  case own =>
    exact OwnFrom.and (Own.from (holdsRow_own (H + 4) H 51 9 1 (fun pre => (ws pre).length) (fun pre => (ws pre).map strV) (fun _ _ => True)) _) (OwnFrom.and (ownFrom_below (by omega) (by omega)) (fun s W W' row hs hg hr => Nat.le_trans hs hg.size))
  case set =>
    rintro pre W u ⟨⟨v, hv, hr, _⟩, hb, hz⟩
    exact ⟨⟨v, hv.other (by omega) u, hr.kept (grownBy_setCell' W (H + 1) u) (ownsRow_not hr (by omega)), trivial⟩, hb.setCell (p := ⟨H + 1, 0, none⟩) (by show H ≤ H + 1; omega) u, Nat.le_trans hz (grownBy_setCell' W (H + 1) u).size⟩
  case assign =>
    intro l x W K hK
    gi_wp2
    exact hK
  case body =>
    rintro l pre x W ⟨⟨v, hv, hrow, _⟩, hB, hz⟩ hlt
    have hc := hv.cell
    have hwl := ws_len pre
    cases x with
    | nil =>
      gi_wp2
      refine ⟨KeepsFrom.refl _ _, ⟨rfl, rfl, rfl⟩, ?_⟩
      rw [ws_miss]
      exact ⟨v, hv, hrow⟩
    | cons c r =>
      gi_wp2_with (gi_at_builtin; refine wpListIn_append_own _ rfl _ _ 51 rfl (H + 4) 9 i0 (.string ⟨#[]⟩) 1 16 Tryd.uSl hi hz0 hz1 hz2 rfl (by decide) _ _ _ rfl (hrow.alloc _) ⟨W.heap.size, 0, none⟩ 1 1 [strV (c :: r)] rfl rfl (cell_one_new _ _ _) (by simp [Value.oneCell']) (by unfold maxLen; omega) (by omega) (by simp; omega) ?_; intro v' w1 hown' hgrow _; have hv1 : Boxed w1 H 51 v := (hv.alloc _).kept hgrow (hv.not_row (by decide) hrow); obtain ⟨g', cap', rfl⟩ := ownsRow_succ hown'; have hc1 := hv1.cell; have hf1 := hv1.frozen)
      obtain ⟨_, hv2, _, hk2, hb2⟩ := hv.appended (n₀ := H) (by decide) (ownsRow_weak hrow (by omega)) (by omega) (Nat.le_refl _) (ownsRow_weak hown' (by omega)) hgrow
      have hsame : ∀ k, H < k → k < H + 4 → (w1.setCell ⟨H, 0, none⟩ (.slice (some ⟨g', 0, none⟩) ((ws pre).length + 1) cap')).heap[k]? = W.heap[k]? := fun k k0 k1 => by
        refine (Below.heap_setCell _ _ _ k (by show k ≠ H; omega)).trans ((hgrow.block k (by simp; omega) ?_).trans (Below.heap_alloc _ _ _ (by omega)))
        rcases ownsRow_not hrow k1 with h | h
        · show some k ≠ v.ownBlock
          rw [h]
          simp
        · exact Ne.symm h
      exact ⟨hk2.from _, ⟨hsame _ (by omega) (by omega), hsame _ (by omega) (by omega), hsame _ (by omega) (by omega)⟩,
        ⟨_, hv2, by rw [ws_hit]; simpa using hown'.kept (grownBy_setCell' w1 H _) (ownsRow_not hown' (by omega))⟩, hB.trans hb2, Nat.le_trans hz (Nat.le_trans (by simp) hgrow.size)⟩
  case done =>
    rintro D ys W hD rfl ⟨⟨v, hv, hrow, _⟩, hB, hz⟩ hK
    have hc := hv.cell
    gi_wp2
    refine ⟨by simp, .inl ⟨_, _, rfl, run_takeDeferred hK, ?_⟩⟩
    exact ⟨_, results_tmp rfl _ _ _, v, rfl, by rw [hH]; exact ownsRow_putObj (ownsRow_weak hrow (by omega)) _ hK rfl, by rw [hH]; exact hB.trans (belowK_b (w := w) (by omega) W D _ _ (by omega) hK rfl rfl)⟩
end Go.Proofs
namespace Go.Sx
open Go Go.Proofs
open Go.RowKit (Below)
theorem in44c : FnIn Tryd.prog 44 Tryd.f44 := .mk Tryd.func44 (by kernel_rfl) (by kernel_rfl)
theorem cutF_inv {s : Str} {z : List Str} (h : cutF s = some z) : s.length ≤ 1000000000 ∧ z = wordsL s := by
  unfold cutF at h
  simp only [ilen_eq] at h
  by_cases a : (s.length : Int) ≤ 1000000000
  · simp [a] at h
    exact ⟨by omega, h.symm⟩
  · simp [a] at h
theorem ws_eq (s : Str) : ws (piecesL [] s) = wordsL s := rfl
theorem cut_ctr : FnOK Tryd.prog 44 ∧ CtrOK Tryd.prog GL 44 cutC := by
  refine ⟨⟨_, in44c⟩, ctr_ok fun xs z hz ok w vs hlt hg hd => ?_⟩
  obtain ⟨s, _⟩ := xs
  obtain ⟨hs, rfl⟩ := cutF_inv (show cutF s = some z from hz)
  obtain ⟨x, rfl, hx⟩ := drs_one (show DRs ok w [.str s] vs from hd)
  cases hx
  refine (callsIn_wide.1 (Tryd.cut_in 8 (Nat.le_refl _) s hs w)).mono ?_
  rintro e w' ⟨v, rfl, ho, hb⟩
  refine ⟨v, rfl, hb, ?_⟩
  rw [ws_eq] at ho
  obtain ⟨h1, ⟨rfl, h2⟩ | ⟨g, cap, cur, rfl, h2, h3, h4, h5, h6, h7⟩⟩ := ho
  · have e : wordsL s = [] := by simpa using h2
    rw [e]
    exact .sl .str [] none 0 (fun _ _ => .int .i64 0) (Nat.le_refl _) (fun i h => by simp at h) (fun i j h => by simp at h) (fun i h => by simp at h)
  · have hgl : g < w'.heap.size := (Array.getElem?_eq_some_iff.1 h3).1
    refine .sl .str (wordsL s) (some ⟨g, 0, none⟩) cap (fun i _ => strV ((wordsL s)[i]?.getD [])) h4 (fun i hi => ⟨_, rfl, .inr ⟨h2, hgl⟩, fun j hj => ?_⟩) (fun i j _ _ => rfl) (fun i hi j hj => ?_)
    · obtain rfl : j = 0 := by simp [Kd.size] at hj; omega
      simp only [Kd.size, Nat.mul_one, Nat.add_zero, add_lit, Nat.zero_add]
      have e : cur[i]? = some (strV ((wordsL s)[i]?.getD [])) := by
        have h8 : (cur.toList.take ((wordsL s).length * 1))[i]? = ((wordsL s).map strV)[i]? := by rw [h7]
        rw [Nat.mul_one, List.getElem?_take_of_lt hi, List.getElem?_map, List.getElem?_eq_getElem hi] at h8
        rw [List.getElem?_eq_getElem hi]
        simpa using h8
      simp [World.cell?, h3, e]
    · obtain rfl : j = 0 := by simp [Kd.cells] at hj; omega
      rw [List.getElem?_eq_getElem hi]
      exact .str _
end Go.Sx
