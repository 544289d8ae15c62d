/-
  A line's words: the walk of what cuts it.
-/
import Derived.Test.YtcpildkbkjeijaaDoorSyC
import Derived.RangeFuncBox
import Derived.RangeFuncNested
import Derived.RangeFuncBound
import Derived.RangeFuncCalls
import Derived.RangeFuncLeaves
import Derived.Shelf.Abstract
import Derived.WalkKit
import Derived.OwnWalkIn
import Derived.TacticsInMore
import Derived.LoopNIn
import Derived.LoopIn
import Derived.Maps.AppendAt
set_option linter.unusedVariables false
set_option linter.unusedSimpArgs false
namespace Go.Proofs
open Go Go.RowKit Go.Shelf
attribute [local go_sem] Oper.semAt_some

/-- A string, as the machine has it. -/
abbrev strV (s : List UInt8) : Value := .string ⟨s.toArray⟩
/-- What must not turn: three boxes. -/
def KpBox (a b c : Nat) (W W' : World) : Prop := W'.heap[a]? = W.heap[a]? ∧ W'.heap[b]? = W.heap[b]? ∧ W'.heap[c]? = W.heap[c]?
/-- How long the string in a box is. -/
noncomputable def boxLen (b : Nat) (W : World) : Nat := match W.cell? ⟨b, 0, none⟩ with
  | some (.string s) => s.size
  | _ => 0
theorem pieces_cons (acc : List UInt8) (c : UInt8) (r : List UInt8) : Sx.piecesL acc (c :: r) = if c = 32 then acc :: Sx.piecesL [] r else Sx.piecesL (acc ++ [c]) r := rfl
theorem pieces_step (s : List UInt8) (i : Nat) (h : i < s.length) (hi : s[i]? = some 32) (hb : ∀ j, j < i → s[j]? ≠ some 32) (acc : List UInt8) : Sx.piecesL acc s = (acc ++ s.take i) :: Sx.piecesL [] (s.drop (i + 1)) := by
  induction s generalizing i acc with
  | nil => simp at h
  | cons c r ih =>
    rw [pieces_cons]
    cases i with
    | zero =>
      simp at hi
      rw [if_pos hi]
      simp
    | succ i =>
      have h0 := hb 0 (by omega)
      simp at h0
      rw [if_neg h0, ih i (by simpa using h) (by simpa using hi) (fun j hj => by simpa using hb (j + 1) (by omega))]
      simp
theorem pieces_last (s : List UInt8) (hb : ∀ j : Nat, s[j]? ≠ some 32) (acc : List UInt8) : Sx.piecesL acc s = [acc ++ s] := by
  induction s generalizing acc with
  | nil => simp [Sx.piecesL]
  | cons c r ih =>
    rw [pieces_cons]
    have h0 := hb 0
    simp at h0
    rw [if_neg h0, ih (fun j => by simpa using hb (j + 1))]
    simp
theorem pieces_len (s : List UInt8) : ∀ acc, (Sx.piecesL acc s).length ≤ s.length + 1 := by
  induction s with
  | nil => intro acc; simp [Sx.piecesL]
  | cons c r ih =>
    intro acc
    rw [pieces_cons]
    split
    · have := ih []; simp; omega
    · have := ih (acc ++ [c]); simp; omega

set_option maxRecDepth 100000 in
set_option maxHeartbeats 2000000 in
/-- The closure that hands out the pieces of a string between blanks. -/
theorem Tryd.split_in (n : Nat) (hn : 1 ≤ n) (l Bs Bp Bk : Nat) (hps : Bp ≠ Bs) (hks : Bk ≠ Bs) (s : List UInt8) (hs : s.length ≤ 1000000000) (J Jx : List (List UInt8) → World → Prop)
    (hJ : ∀ pre W v, J pre W → J pre (W.setCell ⟨Bs, 0, none⟩ v))
    (hY : ∀ pre x W, J pre W → pre.length < (Sx.piecesL [] s).length → YieldAt Fence.wide (n - 1) Tryd.prog l #[strV x] W fun e W' =>
      (e = .returned (.bool true) ∧ J (pre ++ [x]) W' ∧ KpBox Bs Bp Bk W W') ∨ (e = .returned (.bool false) ∧ Jx (pre ++ [x]) W'))
    (W : World) (hBs : Boxed W Bs 9 (strV s)) (hBp : Boxed W Bp 9 (strV [32])) (hBk : Boxed W Bk 3 (.int .i64 0)) (h0 : J [] W) :
    CallsIn Fence.wide n Tryd.prog 96 #[.func (.yield l) #[] #[], .pointer (some ⟨Bp, 0, none⟩), .pointer (some ⟨Bs, 0, none⟩), .pointer (some ⟨Bk, 0, none⟩)] W fun e W' => (∃ v, e = .returned v) ∧
      ((∃ ys, ys = Sx.piecesL [] s ∧ J ys W') ∨ (∃ pre, pre <+: Sx.piecesL [] s ∧ Jx pre W')) := by
  refine callsIn_of_wp Tryd.func96 rfl trivial ?_ rfl
  simp only [Tryd.ntmps96, List.size_toArray, List.length_cons, List.length_nil, Nat.reduceAdd, Nat.reduceSub, Array.replicate_succ, Array.replicate_zero, List.push_toArray, List.append_toArray, List.nil_append, List.cons_append]
  have hcp := hBp.cell
  have hcs := hBs.cell
  have hck := hBk.cell
  gi_wp2
  gi_loopw [] (fun wr => ∃ (pre : List (List UInt8)) (cur : List UInt8), Boxed wr Bs 9 (strV cur) ∧ Boxed wr Bp 9 (strV [32]) ∧ Boxed wr Bk 3 (.int .i64 0) ∧ cur.length ≤ s.length ∧ Sx.piecesL [] s = pre ++ Sx.piecesL [] cur ∧ J pre wr)
    (fun wr => boxLen Bs wr)
  case atStart =>
    exact ⟨[], s, hBs, hBp, hBk, Nat.le_refl _, rfl, h0⟩
  case round =>
    obtain ⟨pre, cur, b1, b2, b3, hle, hpc, hJs⟩ := hrel
    have c1 := b1.cell
    have c2 := b2.cell
    have c3 := b3.cell
    have hge := Lib.indexByte_ge cur 32
    by_cases hi : Lib.indexByte cur 32 = -1
    · have hN : ∀ w : World, Calls Tryd.prog 98 #[.string ⟨cur.toArray⟩, .string ⟨#[32]⟩] w fun e w' => e = .returned (.int .i64 (-1)) ∧ w' = w := fun w => by
        have := Tryd.strings_Index_one ⟨cur.toArray⟩ 32 w
        rw [show Lib.indexByte (⟨cur.toArray⟩ : ByteArray).data.toList 32 = -1 by simpa using hi] at this
        exact this
      have hlast := pieces_last cur (fun j => Lib.indexByte_none hi j) []
      obtain ⟨fn, tmps, assign, body, hy, hR⟩ := hY pre cur wr hJs (by rw [hpc, hlast]; simp)
      clear hi hge
      gi_wp2_with (refine ⟨trivial, ?_⟩; gi_at_call 98; refine (callsIn_wide.2 (hN _)).mono ?_; rintro e w' ⟨rfl, rfl⟩)
      refine hR.mono ?_
      rintro e W3 (⟨rfl, hJ3, hk3⟩ | ⟨rfl, hJx3⟩)
      · gi_wp2
        go_end0
        exact ⟨⟨_, rfl⟩, .inl ⟨_, rfl, by rw [hpc, hlast]; exact hJ3⟩⟩
      · gi_wp2
        go_end0
        exact ⟨⟨_, rfl⟩, .inr ⟨pre ++ [cur], by rw [hpc, hlast]; simp, hJx3⟩⟩
    · obtain ⟨i, hio⟩ : ∃ i : Nat, Lib.indexByte cur 32 = i := ⟨(Lib.indexByte cur 32).toNat, by omega⟩
      have hS : ∀ w : World, Calls Tryd.prog 98 #[.string ⟨cur.toArray⟩, .string ⟨#[32]⟩] w fun e w' => e = .returned (.int .i64 (i : Int)) ∧ w' = w := fun w => by
        have := Tryd.strings_Index_one ⟨cur.toArray⟩ 32 w
        rw [show Lib.indexByte (⟨cur.toArray⟩ : ByteArray).data.toList 32 = i by simpa using hio] at this
        exact this
      obtain ⟨hat, hbef⟩ := Lib.indexByte_some hio
      have hilt : i < cur.length := (List.getElem?_eq_some_iff.1 hat).1
      have hstep := pieces_step cur i hilt hat (fun j hj => hbef j hj) []
      have e1 : (⟨cur.toArray⟩ : ByteArray).extract 0 i = ⟨(cur.take i).toArray⟩ := by
        apply ByteArray.ext
        simp
      obtain ⟨fn, tmps, assign, body, hy, hR⟩ := hY pre (cur.take i) wr hJs (by rw [hpc, hstep]; simp)
      clear hi hge
      gi_wp2_with (refine ⟨trivial, ?_⟩; gi_at_call 98; refine (callsIn_wide.2 (hS _)).mono ?_; rintro e w' ⟨rfl, rfl⟩)
      refine hR.mono ?_
      rintro e W3 (⟨rfl, hJ3, hk3⟩ | ⟨rfl, hJx3⟩)
      · obtain ⟨hk3s, hk3p, hk3k⟩ := hk3
        have d1 : Boxed W3 Bs 9 (strV cur) := hk3s.trans b1
        have d2 : Boxed W3 Bp 9 (strV [32]) := hk3p.trans b2
        have d3 : Boxed W3 Bk 3 (.int .i64 0) := hk3k.trans b3
        have f1 := d1.cell
        have f2 := d2.cell
        have f3 := d3.cell
        have g1 := d1.frozen
        gi_wp2
        have e2 : (⟨cur.toArray⟩ : ByteArray).extract (i + 1) cur.length = ⟨(cur.drop (i + 1)).toArray⟩ := by
          apply ByteArray.ext
          simp
          exact List.take_of_length_le (by simp)
        rw [e2]
        have n1 := d1.set (.string ⟨(cur.drop (i + 1)).toArray⟩)
        refine ⟨⟨pre ++ [cur.take i], cur.drop (i + 1), n1, d2.other hps _, d3.other hks _, by simp; omega, by rw [hpc, hstep]; simp, hJ _ _ _ hJ3⟩, ?_⟩
        have m1 : boxLen Bs (W3.setCell ⟨Bs, 0, none⟩ (.string ⟨(cur.drop (i + 1)).toArray⟩)) = (cur.drop (i + 1)).length := by simp only [boxLen, n1.cell]; rfl
        have m2 : boxLen Bs w' = cur.length := by simp only [boxLen, c1]; rfl
        rw [m1, m2]
        simp
        omega
      · gi_wp2
        refine bodyPost_ret (results_none rfl _ _ _) rfl ?_
        exact ⟨⟨_, rfl⟩, .inr ⟨pre ++ [cur.take i], by rw [hpc, hstep]; simp, hJx3⟩⟩
end Go.Proofs
namespace Go
open Go.RowKit
/-- A loop over an iterator that writes one box of its own between the rounds; the body is left at its end alone. -/
theorem wpIn_rangeFunc_box {α : Type} {F : Fence} {n : Nat} {P : Program} {g : Operand} {ps : Array Tmp} {assign body : Code} {Q : Exit → Act → World → Prop} {a : Act} {w : World}
    (hro : F.round = none) (h1 : 1 ≤ n) {gf : Nat} {lb : Array Value} (hg : a.eval g = .func (.func gf) #[] lb) (hFg : F.fn gf) (eg : ∀ args w, (callFunc gf args).run P w = .ok (.enter gf args) w)
    {encs : α → Array Value} {Kp : World → World → Prop} {S : List α → Prop} {N Bs : Nat} (hBs : Bs < w.heap.size)
    (hseq : ∀ (l : Nat) (J : List α → World → Prop) (W : World), Below w.heap.size w W → (∀ s W v, J s W → J s (W.setCell ⟨Bs, 0, none⟩ v)) →
      (∀ pre x W1, J pre W1 → pre.length < N → YieldAt F (n - 1 - 1) P l (encs x) W1 fun e W' => e = .returned (.bool true) ∧ J (pre ++ [x]) W' ∧ Kp W1 W') → J [] W →
      CallsIn F (n - 1) P gf (#[.func (.yield l) #[] #[]] ++ lb) W fun e W' => (∃ v, e = .returned v) ∧ ∃ xs, S xs ∧ J xs W')
    (hKt : ∀ {A B C : World}, Kp A B → Kp B C → Kp A C) (hKb : ∀ (W : World) (l : Nat) (o : Obj), w.heap.size ≤ l → Kp W (W.putObj l o)) (hps : ∀ x, (encs x).size = ps.size)
    (I : List α → World → Prop) (hI : OwnFrom w.heap.size I) (hIs : ∀ s W v, I s W → I s (W.setCell ⟨Bs, 0, none⟩ v)) (h0 : I [] w) (a₁ : α → Act)
    (hassign : ∀ (l : Nat) (x : α) (W : World) (K : Act → World → Prop), K (a₁ x) W →
      assign.wpIn (F.inRound l) (n - 1 - 1) P (Exit.then K (fun _ _ _ => False)) { tmps := (ps.zip (encs x)).foldl (fun t (p, v) => t.setIfInBounds p v) a.tmps, defers := [] } W)
    (hbody : ∀ (l : Nat) (pre : List α) (x : α) (W : World), I pre W → pre.length < N → body.wpIn (F.inRound l) (n - 1 - 1) P (fun e _ W' => e = .normal ∧ KeepsFrom w.heap.size W W' ∧ Kp W W' ∧ I (pre ++ [x]) W') (a₁ x) W)
    (hdone : ∀ (D : Nat) (xs : List α) (W : World), w.heap.size ≤ D → S xs → I xs W → W.heap[D]? = some (.deferred (some [])) → Q .normal { a with defers := { target := .collected D, args := #[] } :: a.defers } W) :
    (Code.rangeFunc g ps assign body).wpIn F n P Q a w := by
  refine wpIn_rangeFunc ?_
  intro fn hfn
  rw [hro]
  let rec0 : LoopState → Option Code → Loop := fun st pe => { state := st, pending := pe, fn, tmps := a.tmps, params := ps, assign, body, defers := w.heap.size }
  obtain ⟨rec, hrec⟩ : ∃ rec : LoopState → Option Code → Loop, rec = rec0 := ⟨_, rfl⟩
  obtain ⟨W1, hW1⟩ : ∃ W1, (w.alloc (.deferred (some []))).alloc (.loop (rec .ready none)) = W1 := ⟨_, rfl⟩
  have hL1 : W1.heap[w.heap.size + 1]? = some (.loop (rec .ready none)) := by
    rw [← hW1]
    simpa only [World.size_alloc] using World.alloc_heap_new (w.alloc (.deferred (some []))) (.loop (rec .ready none))
  have hK1 : W1.heap[w.heap.size]? = some (.deferred (some [])) := by
    rw [← hW1]
    exact (Below.heap_alloc _ _ _ (by simp)).trans (World.alloc_heap_new w _)
  have hI1 : I [] W1 := hW1 ▸ hI.alloc _ (hI.alloc _ h0)
  have hb1 : Below w.heap.size w W1 := by
    rw [← hW1]
    exact ((Below.refl _ w).alloc (Nat.le_refl _) _).alloc (by simp) _
  refine ⟨w.heap.size + 1, [{ target := .collected w.heap.size, args := #[] }], W1, { target := .fn (.func gf) lb, args := #[.func (.yield (w.heap.size + 1)) #[] #[]] }, W1, gf,
    #[.func (.yield (w.heap.size + 1)) #[] #[]] ++ lb, W1, ?_, ?_, ?_, ?_, fun _ => h1, ?_⟩
  · rw [← hW1, hrec]
    exact run_enterLoop_outer _ _ _ _ _
  · simp only [resolve, hg]
    simp [go_sem]
  · intro f' hf'
    simp [Target.leads] at hf'
    subst hf'
    exact hFg
  · simp [invoke, go_sem, eg]
  · refine (hseq (w.heap.size + 1) (fun pre W => I pre W ∧ W.heap[w.heap.size + 1]? = some (.loop (rec .ready none)) ∧ W.heap[w.heap.size]? = some (.deferred (some []))) W1 hb1 ?_ ?_ ⟨hI1, hL1, hK1⟩).mono ?_
    · rintro s W v ⟨x1, x2, x3⟩
      exact ⟨hIs _ _ _ x1, (Below.heap_setCell _ _ _ _ (by show w.heap.size + 1 ≠ Bs; omega)).trans x2, (Below.heap_setCell _ _ _ _ (by show w.heap.size ≠ Bs; omega)).trans x3⟩
    · rintro pre x W ⟨hi, hl, hk⟩ hlen
      have hlt : w.heap.size + 1 < W.heap.size := (Array.getElem?_eq_some_iff.1 hl).1
      have hy := run_yield (P := P) (args := encs x) hl (by rw [hrec]; exact hps x)
      rw [hrec] at hy
      refine ⟨fn, _, assign, body, hy, roundIn_of_wpIn hfn (hassign _ x W _ ⟨_, run_beginRound hl (by rw [hrec]), ?_⟩)⟩
      have hl2 : (W.putObj (w.heap.size + 1) (.loop { rec .ready none with state := .busy })).heap[w.heap.size + 1]? = some (.loop { rec .ready none with state := .busy }) := World.putObj_heap_same hlt
      have hk2 : (W.putObj (w.heap.size + 1) (.loop { rec .ready none with state := .busy })).heap[w.heap.size]? = some (.deferred (some [])) := (World.putObj_heap_other (by omega)).trans hk
      have hw2 : Kp W (W.putObj (w.heap.size + 1) (.loop { rec .ready none with state := .busy })) := hKb _ _ _ (by omega)
      refine wpIn_mono (hbody _ pre x _ (hI.putObj _ hi (by omega) hl rfl) hlen) ?_
      rintro e a3 W3 ⟨rfl, hk3, hkp3, hi3⟩
      have hl3 := hk3.same _ _ (by omega) hl2 rfl
      have hr := run_endRound (P := P) none hl3
      have hl3' := hl3
      rw [hrec] at hr hl3
      refine ⟨_, _, hr, rfl, ⟨hI.putObj _ hi3 (by omega) hl3' rfl, ?_, ?_⟩, hKt (hKt hw2 hkp3) (hKb _ _ _ (by omega))⟩
      · rw [hrec]
        exact World.putObj_heap_same (Array.getElem?_eq_some_iff.1 hl3).1
      · exact (World.putObj_heap_other (by omega)).trans (hk3.same _ _ (Nat.le_refl _) hk2 rfl)
    · rintro e W2 ⟨⟨v, rfl⟩, xs, hS, hi, hl, hk⟩
      have hr := run_endLoop (P := P) hl (by rw [hrec]; simp [rec0])
      have hl' := hl
      rw [hrec] at hr
      exact ⟨none, _, hr, hdone _ xs _ (Nat.le_refl _) hS (hI.putObj _ hi (by omega) hl' rfl) ((World.putObj_heap_other (by omega)).trans hk)⟩
end Go
