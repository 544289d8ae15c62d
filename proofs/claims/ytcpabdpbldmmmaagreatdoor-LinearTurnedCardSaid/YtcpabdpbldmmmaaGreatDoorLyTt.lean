/-
  linear.Find: its loops (plain; printed by wip/dev/genfind.py).
-/
import Derived.Test.YtcpabdpbldmmmaaGreatDoorLyTs
set_option linter.unusedVariables false
set_option linter.unusedSimpArgs false
namespace Go.Sx
open Go Go.Proofs
open Classical in
theorem lt8_0 (l : List Call) (hl : l.length ≤ 1000) (x : Nat) (W V : WTy) (A : List Int) :
  qt lfind.l13.T ql (((x : Int), (decide ((x : Int) ∈ ([] : List Int)), (l, (qh l, ((x : Int), (l, (qh l, ((0 : Int), ())))))))), (W, ((l, ()), (A, ((), (V, (cTo (qk l x), ()))))))) = some (((x : Int), (je l ([] : List Int) x l.length, (l, (qh l, ((x : Int), ()))))), (W, ((l, ()), (A, ((), (V, (cTo (qk l x), ()))))))) := by
 refine Eq.trans (congrArg (qt lfind.l13.T ql) ?_) (qJ (T := lfind.l13.T) (fun m => (((x : Int), (je l ([] : List Int) x m, (l, (qh l, ((x : Int), (l, (qh l, ((m : Int), ())))))))), (W, ((l, ()), (A, ((), (V, (cTo (qk l x), ())))))))) (((x : Int), (je l ([] : List Int) x l.length, (l, (qh l, ((x : Int), ()))))), (W, ((l, ()), (A, ((), (V, (cTo (qk l x), ()))))))) l.length (by omega) ?_ ?_)
 ·rw [U5]
  rfl
 ·intro m hm rec
  unfold lfind.l13.T
  simp only [cTo]
  rw [qn (qp.2 hm), q9 (by omega) (by omega), qg, Int.toNat_natCast]
  cases hB : je l ([] : List Int) x m with
  | true =>
    rw [q7 rfl, qg, Uz hB]
    dsimp only
    rw [qK (by omega)]
  | false =>
    rw [q8 rfl, U0 hB]
    by_cases hx : m = x
    ·rw [q8 (b := bnot (ieq (m : Int) (x : Int))) (by subst hx; simp), qg, decide_eq_false (fun h => h.1 hx)]
     dsimp only
     rw [qK (by omega)]
    ·rw [q7 (b := bnot (ieq (m : Int) (x : Int))) (by simp; omega), zU, qg]
     by_cases ha : qF l m x
     ·rw [q7 (decide_eq_true (show 0 ≤ (qk l m).to ∧ (qk l m).to < (qk l x).frm from ha)), ji ([] : List Int) (m : Int) (by simp), qg, qg]
      have : bnot (decide ((m : Int) ∈ ([] : List Int))) = decide (m ≠ x ∧ qF l m x ∧ (m : Int) ∉ ([] : List Int)) := by
       by_cases hmem : (m : Int) ∈ ([] : List Int)
       ·rw [decide_eq_true hmem, decide_eq_false (fun h => h.2.2 hmem)]
        rfl
       ·rw [decide_eq_false hmem, decide_eq_true ⟨hx, ha, hmem⟩]
        rfl
      rw [this]
      dsimp only
      rw [qK (by omega)]
     ·rw [q8 (decide_eq_false (show ¬ (0 ≤ (qk l m).to ∧ (qk l m).to < (qk l x).frm) from ha)), qg, decide_eq_false (fun h => ha h.2.1)]
      dsimp only
      rw [qK (by omega)]
 ·intro rec
  unfold lfind.l13.T
  simp only [cTo]
  rw [qw (by rw [qp]; omega)]
open Classical in
theorem lt8_1 (l : List Call) (hl : l.length ≤ 1000) (x : Nat) (o : List Int) (ho : o.length ≤ 1000) (W V : WTy) (A : List Int) (V1 U1 : WTy) (X1 : List Int) (O1 : List (List Int)) :
  qt lfind.l4.T ql ((o, ((x : Int), (decide ((x : Int) ∈ o), (l, (qh l, ((x : Int), (l, (qh l, ((0 : Int), ()))))))))), (W, ((l, ()), (A, ((), (V1, (U1, (X1, (O1, (V, (cTo (qk l x), ()))))))))))) = some ((o, ((x : Int), (je l o x l.length, (l, (qh l, ((x : Int), ())))))), (W, ((l, ()), (A, ((), (V1, (U1, (X1, (O1, (V, (cTo (qk l x), ()))))))))))) := by
 refine Eq.trans (congrArg (qt lfind.l4.T ql) ?_) (qJ (T := lfind.l4.T) (fun m => ((o, ((x : Int), (je l o x m, (l, (qh l, ((x : Int), (l, (qh l, ((m : Int), ()))))))))), (W, ((l, ()), (A, ((), (V1, (U1, (X1, (O1, (V, (cTo (qk l x), ())))))))))))) ((o, ((x : Int), (je l o x l.length, (l, (qh l, ((x : Int), ())))))), (W, ((l, ()), (A, ((), (V1, (U1, (X1, (O1, (V, (cTo (qk l x), ()))))))))))) l.length (by omega) ?_ ?_)
 ·rw [U5]
  rfl
 ·intro m hm rec
  unfold lfind.l4.T
  simp only [cTo]
  rw [qn (qp.2 hm), q9 (by omega) (by omega), qg, Int.toNat_natCast]
  cases hB : je l o x m with
  | true =>
    rw [q7 rfl, qg, Uz hB]
    dsimp only
    rw [qK (by omega)]
  | false =>
    rw [q8 rfl, U0 hB]
    by_cases hx : m = x
    ·rw [q8 (b := bnot (ieq (m : Int) (x : Int))) (by subst hx; simp), qg, decide_eq_false (fun h => h.1 hx)]
     dsimp only
     rw [qK (by omega)]
    ·rw [q7 (b := bnot (ieq (m : Int) (x : Int))) (by simp; omega), zU, qg]
     by_cases ha : qF l m x
     ·rw [q7 (decide_eq_true (show 0 ≤ (qk l m).to ∧ (qk l m).to < (qk l x).frm from ha)), ji o (m : Int) (by first | exact ho | simp), qg, qg]
      have : bnot (decide ((m : Int) ∈ o)) = decide (m ≠ x ∧ qF l m x ∧ (m : Int) ∉ o) := by
       by_cases hmem : (m : Int) ∈ o
       ·rw [decide_eq_true hmem, decide_eq_false (fun h => h.2.2 hmem)]
        rfl
       ·rw [decide_eq_false hmem, decide_eq_true ⟨hx, ha, hmem⟩]
        rfl
      rw [this]
      dsimp only
      rw [qK (by omega)]
     ·rw [q8 (decide_eq_false (show ¬ (0 ≤ (qk l m).to ∧ (qk l m).to < (qk l x).frm) from ha)), qg, decide_eq_false (fun h => ha h.2.1)]
      dsimp only
      rw [qK (by omega)]
 ·intro rec
  unfold lfind.l4.T
  simp only [cTo]
  rw [qw (by rw [qp]; omega)]
open Classical in
theorem lt8_2 (l : List Call) (hl : l.length ≤ 1000) (x : Nat) (o : List Int) (ho : o.length ≤ 1000) (W V : WTy) (A : List Int) (V1 U1 : WTy) (X1 : List Int) (O1 : List (List Int)) (V2 U2 : WTy) (X2 : List Int) (O2 : List (List Int)) :
  qt lfind.l5.T ql ((o, ((x : Int), (decide ((x : Int) ∈ o), (l, (qh l, ((x : Int), (l, (qh l, ((0 : Int), ()))))))))), (W, ((l, ()), (A, ((), (V1, (U1, (X1, (O1, (V2, (U2, (X2, (O2, (V, (cTo (qk l x), ()))))))))))))))) = some ((o, ((x : Int), (je l o x l.length, (l, (qh l, ((x : Int), ())))))), (W, ((l, ()), (A, ((), (V1, (U1, (X1, (O1, (V2, (U2, (X2, (O2, (V, (cTo (qk l x), ()))))))))))))))) := by
 refine Eq.trans (congrArg (qt lfind.l5.T ql) ?_) (qJ (T := lfind.l5.T) (fun m => ((o, ((x : Int), (je l o x m, (l, (qh l, ((x : Int), (l, (qh l, ((m : Int), ()))))))))), (W, ((l, ()), (A, ((), (V1, (U1, (X1, (O1, (V2, (U2, (X2, (O2, (V, (cTo (qk l x), ())))))))))))))))) ((o, ((x : Int), (je l o x l.length, (l, (qh l, ((x : Int), ())))))), (W, ((l, ()), (A, ((), (V1, (U1, (X1, (O1, (V2, (U2, (X2, (O2, (V, (cTo (qk l x), ()))))))))))))))) l.length (by omega) ?_ ?_)
 ·rw [U5]
  rfl
 ·intro m hm rec
  unfold lfind.l5.T
  simp only [cTo]
  rw [qn (qp.2 hm), q9 (by omega) (by omega), qg, Int.toNat_natCast]
  cases hB : je l o x m with
  | true =>
    rw [q7 rfl, qg, Uz hB]
    dsimp only
    rw [qK (by omega)]
  | false =>
    rw [q8 rfl, U0 hB]
    by_cases hx : m = x
    ·rw [q8 (b := bnot (ieq (m : Int) (x : Int))) (by subst hx; simp), qg, decide_eq_false (fun h => h.1 hx)]
     dsimp only
     rw [qK (by omega)]
    ·rw [q7 (b := bnot (ieq (m : Int) (x : Int))) (by simp; omega), zU, qg]
     by_cases ha : qF l m x
     ·rw [q7 (decide_eq_true (show 0 ≤ (qk l m).to ∧ (qk l m).to < (qk l x).frm from ha)), ji o (m : Int) (by first | exact ho | simp), qg, qg]
      have : bnot (decide ((m : Int) ∈ o)) = decide (m ≠ x ∧ qF l m x ∧ (m : Int) ∉ o) := by
       by_cases hmem : (m : Int) ∈ o
       ·rw [decide_eq_true hmem, decide_eq_false (fun h => h.2.2 hmem)]
        rfl
       ·rw [decide_eq_false hmem, decide_eq_true ⟨hx, ha, hmem⟩]
        rfl
      rw [this]
      dsimp only
      rw [qK (by omega)]
     ·rw [q8 (decide_eq_false (show ¬ (0 ≤ (qk l m).to ∧ (qk l m).to < (qk l x).frm) from ha)), qg, decide_eq_false (fun h => ha h.2.1)]
      dsimp only
      rw [qK (by omega)]
 ·intro rec
  unfold lfind.l5.T
  simp only [cTo]
  rw [qw (by rw [qp]; omega)]
open Classical in
theorem lt8_3 (l : List Call) (hl : l.length ≤ 1000) (x : Nat) (o : List Int) (ho : o.length ≤ 1000) (W V : WTy) (A : List Int) (V1 U1 : WTy) (X1 : List Int) (O1 : List (List Int)) (V2 U2 : WTy) (X2 : List Int) (O2 : List (List Int)) (V3 U3 : WTy) (X3 : List Int) (O3 : List (List Int)) :
  qt lfind.l6.T ql ((o, ((x : Int), (decide ((x : Int) ∈ o), (l, (qh l, ((x : Int), (l, (qh l, ((0 : Int), ()))))))))), (W, ((l, ()), (A, ((), (V1, (U1, (X1, (O1, (V2, (U2, (X2, (O2, (V3, (U3, (X3, (O3, (V, (cTo (qk l x), ()))))))))))))))))))) = some ((o, ((x : Int), (je l o x l.length, (l, (qh l, ((x : Int), ())))))), (W, ((l, ()), (A, ((), (V1, (U1, (X1, (O1, (V2, (U2, (X2, (O2, (V3, (U3, (X3, (O3, (V, (cTo (qk l x), ()))))))))))))))))))) := by
 refine Eq.trans (congrArg (qt lfind.l6.T ql) ?_) (qJ (T := lfind.l6.T) (fun m => ((o, ((x : Int), (je l o x m, (l, (qh l, ((x : Int), (l, (qh l, ((m : Int), ()))))))))), (W, ((l, ()), (A, ((), (V1, (U1, (X1, (O1, (V2, (U2, (X2, (O2, (V3, (U3, (X3, (O3, (V, (cTo (qk l x), ())))))))))))))))))))) ((o, ((x : Int), (je l o x l.length, (l, (qh l, ((x : Int), ())))))), (W, ((l, ()), (A, ((), (V1, (U1, (X1, (O1, (V2, (U2, (X2, (O2, (V3, (U3, (X3, (O3, (V, (cTo (qk l x), ()))))))))))))))))))) l.length (by omega) ?_ ?_)
 ·rw [U5]
  rfl
 ·intro m hm rec
  unfold lfind.l6.T
  simp only [cTo]
  rw [qn (qp.2 hm), q9 (by omega) (by omega), qg, Int.toNat_natCast]
  cases hB : je l o x m with
  | true =>
    rw [q7 rfl, qg, Uz hB]
    dsimp only
    rw [qK (by omega)]
  | false =>
    rw [q8 rfl, U0 hB]
    by_cases hx : m = x
    ·rw [q8 (b := bnot (ieq (m : Int) (x : Int))) (by subst hx; simp), qg, decide_eq_false (fun h => h.1 hx)]
     dsimp only
     rw [qK (by omega)]
    ·rw [q7 (b := bnot (ieq (m : Int) (x : Int))) (by simp; omega), zU, qg]
     by_cases ha : qF l m x
     ·rw [q7 (decide_eq_true (show 0 ≤ (qk l m).to ∧ (qk l m).to < (qk l x).frm from ha)), ji o (m : Int) (by first | exact ho | simp), qg, qg]
      have : bnot (decide ((m : Int) ∈ o)) = decide (m ≠ x ∧ qF l m x ∧ (m : Int) ∉ o) := by
       by_cases hmem : (m : Int) ∈ o
       ·rw [decide_eq_true hmem, decide_eq_false (fun h => h.2.2 hmem)]
        rfl
       ·rw [decide_eq_false hmem, decide_eq_true ⟨hx, ha, hmem⟩]
        rfl
      rw [this]
      dsimp only
      rw [qK (by omega)]
     ·rw [q8 (decide_eq_false (show ¬ (0 ≤ (qk l m).to ∧ (qk l m).to < (qk l x).frm) from ha)), qg, decide_eq_false (fun h => ha h.2.1)]
      dsimp only
      rw [qK (by omega)]
 ·intro rec
  unfold lfind.l6.T
  simp only [cTo]
  rw [qw (by rw [qp]; omega)]
open Classical in
theorem lt8_4 (l : List Call) (hl : l.length ≤ 1000) (x : Nat) (o : List Int) (ho : o.length ≤ 1000) (W V : WTy) (A : List Int) (V1 U1 : WTy) (X1 : List Int) (O1 : List (List Int)) (V2 U2 : WTy) (X2 : List Int) (O2 : List (List Int)) (V3 U3 : WTy) (X3 : List Int) (O3 : List (List Int)) (V4 U4 : WTy) (X4 : List Int) (O4 : List (List Int)) :
  qt lfind.l7.T ql ((o, ((x : Int), (decide ((x : Int) ∈ o), (l, (qh l, ((x : Int), (l, (qh l, ((0 : Int), ()))))))))), (W, ((l, ()), (A, ((), (V1, (U1, (X1, (O1, (V2, (U2, (X2, (O2, (V3, (U3, (X3, (O3, (V4, (U4, (X4, (O4, (V, (cTo (qk l x), ()))))))))))))))))))))))) = some ((o, ((x : Int), (je l o x l.length, (l, (qh l, ((x : Int), ())))))), (W, ((l, ()), (A, ((), (V1, (U1, (X1, (O1, (V2, (U2, (X2, (O2, (V3, (U3, (X3, (O3, (V4, (U4, (X4, (O4, (V, (cTo (qk l x), ()))))))))))))))))))))))) := by
 refine Eq.trans (congrArg (qt lfind.l7.T ql) ?_) (qJ (T := lfind.l7.T) (fun m => ((o, ((x : Int), (je l o x m, (l, (qh l, ((x : Int), (l, (qh l, ((m : Int), ()))))))))), (W, ((l, ()), (A, ((), (V1, (U1, (X1, (O1, (V2, (U2, (X2, (O2, (V3, (U3, (X3, (O3, (V4, (U4, (X4, (O4, (V, (cTo (qk l x), ())))))))))))))))))))))))) ((o, ((x : Int), (je l o x l.length, (l, (qh l, ((x : Int), ())))))), (W, ((l, ()), (A, ((), (V1, (U1, (X1, (O1, (V2, (U2, (X2, (O2, (V3, (U3, (X3, (O3, (V4, (U4, (X4, (O4, (V, (cTo (qk l x), ()))))))))))))))))))))))) l.length (by omega) ?_ ?_)
 ·rw [U5]
  rfl
 ·intro m hm rec
  unfold lfind.l7.T
  simp only [cTo]
  rw [qn (qp.2 hm), q9 (by omega) (by omega), qg, Int.toNat_natCast]
  cases hB : je l o x m with
  | true =>
    rw [q7 rfl, qg, Uz hB]
    dsimp only
    rw [qK (by omega)]
  | false =>
    rw [q8 rfl, U0 hB]
    by_cases hx : m = x
    ·rw [q8 (b := bnot (ieq (m : Int) (x : Int))) (by subst hx; simp), qg, decide_eq_false (fun h => h.1 hx)]
     dsimp only
     rw [qK (by omega)]
    ·rw [q7 (b := bnot (ieq (m : Int) (x : Int))) (by simp; omega), zU, qg]
     by_cases ha : qF l m x
     ·rw [q7 (decide_eq_true (show 0 ≤ (qk l m).to ∧ (qk l m).to < (qk l x).frm from ha)), ji o (m : Int) (by first | exact ho | simp), qg, qg]
      have : bnot (decide ((m : Int) ∈ o)) = decide (m ≠ x ∧ qF l m x ∧ (m : Int) ∉ o) := by
       by_cases hmem : (m : Int) ∈ o
       ·rw [decide_eq_true hmem, decide_eq_false (fun h => h.2.2 hmem)]
        rfl
       ·rw [decide_eq_false hmem, decide_eq_true ⟨hx, ha, hmem⟩]
        rfl
      rw [this]
      dsimp only
      rw [qK (by omega)]
     ·rw [q8 (decide_eq_false (show ¬ (0 ≤ (qk l m).to ∧ (qk l m).to < (qk l x).frm) from ha)), qg, decide_eq_false (fun h => ha h.2.1)]
      dsimp only
      rw [qK (by omega)]
 ·intro rec
  unfold lfind.l7.T
  simp only [cTo]
  rw [qw (by rw [qp]; omega)]
open Classical in
theorem lf4 {l : List Call} (hl : l.length ≤ 5) {N : Nat} (hf : jY N l) (W : WTy) (A : List Int) (V1 U1 : WTy) (X1 : List Int) (O1 : List (List Int)) (V2 U2 : WTy) (X2 : List Int) (O2 : List (List Int)) (V3 U3 : WTy) (X3 : List Int) (O3 : List (List Int)) (V4 U4 : WTy) (X4 : List Int) (O4 : List (List Int)) (o : List Int) (hd : o.length = 4) (V : WTy) (v : World) (hv : wOf V = v) (h : RightP v) (hN : v.at_.length = N) (hp : Yn l o) :
  qt lfind.l14.T ql ((o, (l, (qh l, ((0 : Int), ())))), (W, ((l, ()), (A, ((), (V1, (U1, (X1, (O1, (V2, (U2, (X2, (O2, (V3, (U3, (X3, (O3, (V4, (U4, (X4, (O4, (V, ())))))))))))))))))))))) = some (match z0 l 0 v o with | some p => .inl ((p, (true, ())), (W, ((l, ()), (A, ((), (V1, (U1, (X1, (O1, (V2, (U2, (X2, (O2, (V3, (U3, (X3, (O3, (V4, (U4, (X4, (O4, ()))))))))))))))))))))) | none => .inr ((), (W, ((l, ()), (A, ((), (V1, (U1, (X1, (O1, (V2, (U2, (X2, (O2, (V3, (U3, (X3, (O3, (V4, (U4, (X4, (O4, ())))))))))))))))))))))) := by
 have key := kD (T := lfind.l14.T) (fun k => ((o, (l, (qh l, ((k : Int), ())))), (W, ((l, ()), (A, ((), (V1, (U1, (X1, (O1, (V2, (U2, (X2, (O2, (V3, (U3, (X3, (O3, (V4, (U4, (X4, (O4, (V, ()))))))))))))))))))))))) (fun k => (kP l 0 v o k).map fun p => .inl ((p, (true, ())), (W, ((l, ()), (A, ((), (V1, (U1, (X1, (O1, (V2, (U2, (X2, (O2, (V3, (U3, (X3, (O3, (V4, (U4, (X4, (O4, ())))))))))))))))))))))) (.inr ((), (W, ((l, ()), (A, ((), (V1, (U1, (X1, (O1, (V2, (U2, (X2, (O2, (V3, (U3, (X3, (O3, (V4, (U4, (X4, (O4, ())))))))))))))))))))))) l.length (by omega) ?_ ?_
 ·refine Eq.trans key ?_
  rw [jF]
  unfold z0
  cases (List.range l.length).findSome? (kP l 0 v o) <;> rfl
 ·intro k hk rec
  have hc := hf _ (gG hk)
  have hdo := Ve h hc.1.1 (by rw [hN]; exact hc.1.2) (qk l k).cmd hc.2.1 hc.2.2
  have hnr : RightP (jz l v k) := gn h hc.1.1 (by rw [hN]; exact hc.1.2) _
  have hnN : (jz l v k).at_.length = N := by rw [← hN]; exact Jy _ _ _
  have hk1 : wrap .i64 (iadd (k : Int) 1) = ((k + 1 : Nat) : Int) := qK (by omega)
  obtain ⟨s1, s2⟩ := zD h (qk l k).player (qk l k).cmd
  unfold lfind.l14.T kP
  dsimp only
  rw [qn (qp.2 hk), q9 (by omega) (by omega), qg, Int.toNat_natCast, ji o (k : Int) (by omega), qg]
  have h8 := lt8_4 l (by omega) k o (by omega) W V A V1 U1 X1 O1 V2 U2 X2 O2 V3 U3 X3 O3 V4 U4 X4 O4
  rw [show qt lfind.l7.T ql _ = _ from h8, qg]
  simp only [cTo]
  by_cases hlate : gw l o k l.length
  ·rw [show je l o k l.length = true from decide_eq_true hlate, q7 rfl, if_pos hlate]
   refine Eq.trans (b := rec ((o, (l, (qh l, (wrap .i64 (iadd (k : Int) 1), ())))), (W, ((l, ()), (A, ((), (V1, (U1, (X1, (O1, (V2, (U2, (X2, (O2, (V3, (U3, (X3, (O3, (V4, (U4, (X4, (O4, (V, ()))))))))))))))))))))))) rfl ?_
   rw [hk1]
   rfl
  ·have hpre := Z3 hp hk hlate
   rw [show je l o k l.length = false from decide_eq_false hlate, q8 rfl, if_neg hlate, hv, show Qx v (qk l k).player _ = _ from hdo, qg, ke, qg]
   dsimp only
   by_cases hto : 0 ≤ (qk l k).to
   ·rw [q7 (decide_eq_true hto), vn (DoP v (qk l k).player (qk l k).cmd).2 _ (by omega) (by omega), qg]
    by_cases hre : (DoP v (qk l k).player (qk l k).cmd).2 = (qk l k).reply
    ·have hok : okI l v k := fun _ => hre
     rw [if_pos hok, show decide ((DoP v (qk l k).player (qk l k).cmd).2 = _) = true from decide_eq_true hre, q8 (b := bnot true) rfl, qg, jl]
     dsimp only
     rw [jw _ _ (by omega) (by simp), qg, j3 l _ (by omega) (by rw [List.length_append, List.length_singleton]; omega), qg]
     have hfull : jf l (o ++ [(k : Int)]) := Nq hpre (by rw [List.length_append, List.length_singleton]; omega)
     rw [jx hfull, decide_eq_true hfull, q7 rfl]
     rfl
    ·have hok : ¬ okI l v k := fun h => hre (h hto)
     rw [if_neg hok, show decide ((DoP v (qk l k).player (qk l k).cmd).2 = _) = false from decide_eq_false hre, q7 (b := bnot false) rfl]
     refine Eq.trans (b := rec ((o, (l, (qh l, (wrap .i64 (iadd (k : Int) 1), ())))), (W, ((l, ()), (A, ((), (V1, (U1, (X1, (O1, (V2, (U2, (X2, (O2, (V3, (U3, (X3, (O3, (V4, (U4, (X4, (O4, (V, ()))))))))))))))))))))))) rfl ?_
     rw [hk1]
     rfl
   ·have hok : okI l v k := fun h => absurd h hto
    rw [q8 (decide_eq_false hto), if_pos hok, qg, jl]
    dsimp only
    rw [jw _ _ (by omega) (by simp), qg, j3 l _ (by omega) (by rw [List.length_append, List.length_singleton]; omega), qg]
    have hfull : jf l (o ++ [(k : Int)]) := Nq hpre (by rw [List.length_append, List.length_singleton]; omega)
    rw [jx hfull, decide_eq_true hfull, q7 rfl]
    rfl
 ·intro rec
  unfold lfind.l14.T
  dsimp only
  rw [qw (by rw [qp]; omega)]
open Classical in
theorem lf3 {l : List Call} (hl : l.length ≤ 5) {N : Nat} (hf : jY N l) (W : WTy) (A : List Int) (V1 U1 : WTy) (X1 : List Int) (O1 : List (List Int)) (V2 U2 : WTy) (X2 : List Int) (O2 : List (List Int)) (V3 U3 : WTy) (X3 : List Int) (O3 : List (List Int)) (o : List Int) (hd : o.length = 3) (V : WTy) (v : World) (hv : wOf V = v) (h : RightP v) (hN : v.at_.length = N) (hp : Yn l o) :
  qt lfind.l8.T ql ((o, (l, (qh l, ((0 : Int), ())))), (W, ((l, ()), (A, ((), (V1, (U1, (X1, (O1, (V2, (U2, (X2, (O2, (V3, (U3, (X3, (O3, (V, ())))))))))))))))))) = some (match z0 l 1 v o with | some p => .inl ((p, (true, ())), (W, ((l, ()), (A, ((), (V1, (U1, (X1, (O1, (V2, (U2, (X2, (O2, (V3, (U3, (X3, (O3, ()))))))))))))))))) | none => .inr ((), (W, ((l, ()), (A, ((), (V1, (U1, (X1, (O1, (V2, (U2, (X2, (O2, (V3, (U3, (X3, (O3, ())))))))))))))))))) := by
 have key := kD (T := lfind.l8.T) (fun k => ((o, (l, (qh l, ((k : Int), ())))), (W, ((l, ()), (A, ((), (V1, (U1, (X1, (O1, (V2, (U2, (X2, (O2, (V3, (U3, (X3, (O3, (V, ()))))))))))))))))))) (fun k => (kP l 1 v o k).map fun p => .inl ((p, (true, ())), (W, ((l, ()), (A, ((), (V1, (U1, (X1, (O1, (V2, (U2, (X2, (O2, (V3, (U3, (X3, (O3, ())))))))))))))))))) (.inr ((), (W, ((l, ()), (A, ((), (V1, (U1, (X1, (O1, (V2, (U2, (X2, (O2, (V3, (U3, (X3, (O3, ())))))))))))))))))) l.length (by omega) ?_ ?_
 ·refine Eq.trans key ?_
  rw [jF]
  unfold z0
  cases (List.range l.length).findSome? (kP l 1 v o) <;> rfl
 ·intro k hk rec
  have hc := hf _ (gG hk)
  have hdo := Ve h hc.1.1 (by rw [hN]; exact hc.1.2) (qk l k).cmd hc.2.1 hc.2.2
  have hnr : RightP (jz l v k) := gn h hc.1.1 (by rw [hN]; exact hc.1.2) _
  have hnN : (jz l v k).at_.length = N := by rw [← hN]; exact Jy _ _ _
  have hk1 : wrap .i64 (iadd (k : Int) 1) = ((k + 1 : Nat) : Int) := qK (by omega)
  obtain ⟨s1, s2⟩ := zD h (qk l k).player (qk l k).cmd
  unfold lfind.l8.T kP
  dsimp only
  rw [qn (qp.2 hk), q9 (by omega) (by omega), qg, Int.toNat_natCast, ji o (k : Int) (by omega), qg]
  have h8 := lt8_3 l (by omega) k o (by omega) W V A V1 U1 X1 O1 V2 U2 X2 O2 V3 U3 X3 O3
  rw [show qt lfind.l6.T ql _ = _ from h8, qg]
  simp only [cTo]
  by_cases hlate : gw l o k l.length
  ·rw [show je l o k l.length = true from decide_eq_true hlate, q7 rfl, if_pos hlate]
   refine Eq.trans (b := rec ((o, (l, (qh l, (wrap .i64 (iadd (k : Int) 1), ())))), (W, ((l, ()), (A, ((), (V1, (U1, (X1, (O1, (V2, (U2, (X2, (O2, (V3, (U3, (X3, (O3, (V, ()))))))))))))))))))) rfl ?_
   rw [hk1]
   rfl
  ·have hpre := Z3 hp hk hlate
   rw [show je l o k l.length = false from decide_eq_false hlate, q8 rfl, if_neg hlate, hv, show Qx v (qk l k).player _ = _ from hdo, qg, ke, qg]
   dsimp only
   by_cases hto : 0 ≤ (qk l k).to
   ·rw [q7 (decide_eq_true hto), vn (DoP v (qk l k).player (qk l k).cmd).2 _ (by omega) (by omega), qg]
    by_cases hre : (DoP v (qk l k).player (qk l k).cmd).2 = (qk l k).reply
    ·have hok : okI l v k := fun _ => hre
     rw [if_pos hok, show decide ((DoP v (qk l k).player (qk l k).cmd).2 = _) = true from decide_eq_true hre, q8 (b := bnot true) rfl, qg, jl]
     dsimp only
     rw [jw _ _ (by omega) (by simp), qg, j3 l _ (by omega) (by rw [List.length_append, List.length_singleton]; omega), qg]
     by_cases hw : jf l (o ++ [(k : Int)])
     ·rw [jx hw, decide_eq_true hw, q7 rfl]
      rfl
     ·rw [zf hw, decide_eq_false hw, q8 rfl]
      have hin := lf4 hl hf W A V1 U1 X1 O1 V2 U2 X2 O2 V3 U3 X3 O3 V (wTo (DoP v (qk l k).player (qk l k).cmd).1) [(k : Int)] [o, [(k : Int)]] (o ++ [(k : Int)]) (by rw [List.length_append, List.length_singleton]; simp [hd]) (wTo (DoP v (qk l k).player (qk l k).cmd).1) (jz l v k) rfl hnr hnN hpre
      rw [show qt lfind.l14.T ql _ = _ from hin, qg]
      cases z0 l 0 (jz l v k) (o ++ [(k : Int)]) with
      | some p => rfl
      | none =>
        refine Eq.trans (b := rec ((o, (l, (qh l, (wrap .i64 (iadd (k : Int) 1), ())))), (W, ((l, ()), (A, ((), (V1, (U1, (X1, (O1, (V2, (U2, (X2, (O2, (V3, (U3, (X3, (O3, (V, ()))))))))))))))))))) rfl ?_
        rw [hk1]
        rfl
    ·have hok : ¬ okI l v k := fun h => hre (h hto)
     rw [if_neg hok, show decide ((DoP v (qk l k).player (qk l k).cmd).2 = _) = false from decide_eq_false hre, q7 (b := bnot false) rfl]
     refine Eq.trans (b := rec ((o, (l, (qh l, (wrap .i64 (iadd (k : Int) 1), ())))), (W, ((l, ()), (A, ((), (V1, (U1, (X1, (O1, (V2, (U2, (X2, (O2, (V3, (U3, (X3, (O3, (V, ()))))))))))))))))))) rfl ?_
     rw [hk1]
     rfl
   ·have hok : okI l v k := fun h => absurd h hto
    rw [q8 (decide_eq_false hto), if_pos hok, qg, jl]
    dsimp only
    rw [jw _ _ (by omega) (by simp), qg, j3 l _ (by omega) (by rw [List.length_append, List.length_singleton]; omega), qg]
    by_cases hw : jf l (o ++ [(k : Int)])
    ·rw [jx hw, decide_eq_true hw, q7 rfl]
     rfl
    ·rw [zf hw, decide_eq_false hw, q8 rfl]
     have hin := lf4 hl hf W A V1 U1 X1 O1 V2 U2 X2 O2 V3 U3 X3 O3 V (wTo (DoP v (qk l k).player (qk l k).cmd).1) [(k : Int)] [o, [(k : Int)]] (o ++ [(k : Int)]) (by rw [List.length_append, List.length_singleton]; simp [hd]) (wTo (DoP v (qk l k).player (qk l k).cmd).1) (jz l v k) rfl hnr hnN hpre
     rw [show qt lfind.l14.T ql _ = _ from hin, qg]
     cases z0 l 0 (jz l v k) (o ++ [(k : Int)]) with
     | some p => rfl
     | none =>
       refine Eq.trans (b := rec ((o, (l, (qh l, (wrap .i64 (iadd (k : Int) 1), ())))), (W, ((l, ()), (A, ((), (V1, (U1, (X1, (O1, (V2, (U2, (X2, (O2, (V3, (U3, (X3, (O3, (V, ()))))))))))))))))))) rfl ?_
       rw [hk1]
       rfl
 ·intro rec
  unfold lfind.l8.T
  dsimp only
  rw [qw (by rw [qp]; omega)]
open Classical in
theorem lf2 {l : List Call} (hl : l.length ≤ 5) {N : Nat} (hf : jY N l) (W : WTy) (A : List Int) (V1 U1 : WTy) (X1 : List Int) (O1 : List (List Int)) (V2 U2 : WTy) (X2 : List Int) (O2 : List (List Int)) (o : List Int) (hd : o.length = 2) (V : WTy) (v : World) (hv : wOf V = v) (h : RightP v) (hN : v.at_.length = N) (hp : Yn l o) :
  qt lfind.l9.T ql ((o, (l, (qh l, ((0 : Int), ())))), (W, ((l, ()), (A, ((), (V1, (U1, (X1, (O1, (V2, (U2, (X2, (O2, (V, ())))))))))))))) = some (match z0 l 2 v o with | some p => .inl ((p, (true, ())), (W, ((l, ()), (A, ((), (V1, (U1, (X1, (O1, (V2, (U2, (X2, (O2, ()))))))))))))) | none => .inr ((), (W, ((l, ()), (A, ((), (V1, (U1, (X1, (O1, (V2, (U2, (X2, (O2, ())))))))))))))) := by
 have key := kD (T := lfind.l9.T) (fun k => ((o, (l, (qh l, ((k : Int), ())))), (W, ((l, ()), (A, ((), (V1, (U1, (X1, (O1, (V2, (U2, (X2, (O2, (V, ()))))))))))))))) (fun k => (kP l 2 v o k).map fun p => .inl ((p, (true, ())), (W, ((l, ()), (A, ((), (V1, (U1, (X1, (O1, (V2, (U2, (X2, (O2, ())))))))))))))) (.inr ((), (W, ((l, ()), (A, ((), (V1, (U1, (X1, (O1, (V2, (U2, (X2, (O2, ())))))))))))))) l.length (by omega) ?_ ?_
 ·refine Eq.trans key ?_
  rw [jF]
  unfold z0
  cases (List.range l.length).findSome? (kP l 2 v o) <;> rfl
 ·intro k hk rec
  have hc := hf _ (gG hk)
  have hdo := Ve h hc.1.1 (by rw [hN]; exact hc.1.2) (qk l k).cmd hc.2.1 hc.2.2
  have hnr : RightP (jz l v k) := gn h hc.1.1 (by rw [hN]; exact hc.1.2) _
  have hnN : (jz l v k).at_.length = N := by rw [← hN]; exact Jy _ _ _
  have hk1 : wrap .i64 (iadd (k : Int) 1) = ((k + 1 : Nat) : Int) := qK (by omega)
  obtain ⟨s1, s2⟩ := zD h (qk l k).player (qk l k).cmd
  unfold lfind.l9.T kP
  dsimp only
  rw [qn (qp.2 hk), q9 (by omega) (by omega), qg, Int.toNat_natCast, ji o (k : Int) (by omega), qg]
  have h8 := lt8_2 l (by omega) k o (by omega) W V A V1 U1 X1 O1 V2 U2 X2 O2
  rw [show qt lfind.l5.T ql _ = _ from h8, qg]
  simp only [cTo]
  by_cases hlate : gw l o k l.length
  ·rw [show je l o k l.length = true from decide_eq_true hlate, q7 rfl, if_pos hlate]
   refine Eq.trans (b := rec ((o, (l, (qh l, (wrap .i64 (iadd (k : Int) 1), ())))), (W, ((l, ()), (A, ((), (V1, (U1, (X1, (O1, (V2, (U2, (X2, (O2, (V, ()))))))))))))))) rfl ?_
   rw [hk1]
   rfl
  ·have hpre := Z3 hp hk hlate
   rw [show je l o k l.length = false from decide_eq_false hlate, q8 rfl, if_neg hlate, hv, show Qx v (qk l k).player _ = _ from hdo, qg, ke, qg]
   dsimp only
   by_cases hto : 0 ≤ (qk l k).to
   ·rw [q7 (decide_eq_true hto), vn (DoP v (qk l k).player (qk l k).cmd).2 _ (by omega) (by omega), qg]
    by_cases hre : (DoP v (qk l k).player (qk l k).cmd).2 = (qk l k).reply
    ·have hok : okI l v k := fun _ => hre
     rw [if_pos hok, show decide ((DoP v (qk l k).player (qk l k).cmd).2 = _) = true from decide_eq_true hre, q8 (b := bnot true) rfl, qg, jl]
     dsimp only
     rw [jw _ _ (by omega) (by simp), qg, j3 l _ (by omega) (by rw [List.length_append, List.length_singleton]; omega), qg]
     by_cases hw : jf l (o ++ [(k : Int)])
     ·rw [jx hw, decide_eq_true hw, q7 rfl]
      rfl
     ·rw [zf hw, decide_eq_false hw, q8 rfl]
      have hin := lf3 hl hf W A V1 U1 X1 O1 V2 U2 X2 O2 V (wTo (DoP v (qk l k).player (qk l k).cmd).1) [(k : Int)] [o, [(k : Int)]] (o ++ [(k : Int)]) (by rw [List.length_append, List.length_singleton]; simp [hd]) (wTo (DoP v (qk l k).player (qk l k).cmd).1) (jz l v k) rfl hnr hnN hpre
      rw [show qt lfind.l8.T ql _ = _ from hin, qg]
      cases z0 l 1 (jz l v k) (o ++ [(k : Int)]) with
      | some p => rfl
      | none =>
        refine Eq.trans (b := rec ((o, (l, (qh l, (wrap .i64 (iadd (k : Int) 1), ())))), (W, ((l, ()), (A, ((), (V1, (U1, (X1, (O1, (V2, (U2, (X2, (O2, (V, ()))))))))))))))) rfl ?_
        rw [hk1]
        rfl
    ·have hok : ¬ okI l v k := fun h => hre (h hto)
     rw [if_neg hok, show decide ((DoP v (qk l k).player (qk l k).cmd).2 = _) = false from decide_eq_false hre, q7 (b := bnot false) rfl]
     refine Eq.trans (b := rec ((o, (l, (qh l, (wrap .i64 (iadd (k : Int) 1), ())))), (W, ((l, ()), (A, ((), (V1, (U1, (X1, (O1, (V2, (U2, (X2, (O2, (V, ()))))))))))))))) rfl ?_
     rw [hk1]
     rfl
   ·have hok : okI l v k := fun h => absurd h hto
    rw [q8 (decide_eq_false hto), if_pos hok, qg, jl]
    dsimp only
    rw [jw _ _ (by omega) (by simp), qg, j3 l _ (by omega) (by rw [List.length_append, List.length_singleton]; omega), qg]
    by_cases hw : jf l (o ++ [(k : Int)])
    ·rw [jx hw, decide_eq_true hw, q7 rfl]
     rfl
    ·rw [zf hw, decide_eq_false hw, q8 rfl]
     have hin := lf3 hl hf W A V1 U1 X1 O1 V2 U2 X2 O2 V (wTo (DoP v (qk l k).player (qk l k).cmd).1) [(k : Int)] [o, [(k : Int)]] (o ++ [(k : Int)]) (by rw [List.length_append, List.length_singleton]; simp [hd]) (wTo (DoP v (qk l k).player (qk l k).cmd).1) (jz l v k) rfl hnr hnN hpre
     rw [show qt lfind.l8.T ql _ = _ from hin, qg]
     cases z0 l 1 (jz l v k) (o ++ [(k : Int)]) with
     | some p => rfl
     | none =>
       refine Eq.trans (b := rec ((o, (l, (qh l, (wrap .i64 (iadd (k : Int) 1), ())))), (W, ((l, ()), (A, ((), (V1, (U1, (X1, (O1, (V2, (U2, (X2, (O2, (V, ()))))))))))))))) rfl ?_
       rw [hk1]
       rfl
 ·intro rec
  unfold lfind.l9.T
  dsimp only
  rw [qw (by rw [qp]; omega)]
open Classical in
theorem lf1 {l : List Call} (hl : l.length ≤ 5) {N : Nat} (hf : jY N l) (W : WTy) (A : List Int) (V1 U1 : WTy) (X1 : List Int) (O1 : List (List Int)) (o : List Int) (hd : o.length = 1) (V : WTy) (v : World) (hv : wOf V = v) (h : RightP v) (hN : v.at_.length = N) (hp : Yn l o) :
  qt lfind.l10.T ql ((o, (l, (qh l, ((0 : Int), ())))), (W, ((l, ()), (A, ((), (V1, (U1, (X1, (O1, (V, ())))))))))) = some (match z0 l 3 v o with | some p => .inl ((p, (true, ())), (W, ((l, ()), (A, ((), (V1, (U1, (X1, (O1, ()))))))))) | none => .inr ((), (W, ((l, ()), (A, ((), (V1, (U1, (X1, (O1, ())))))))))) := by
 have key := kD (T := lfind.l10.T) (fun k => ((o, (l, (qh l, ((k : Int), ())))), (W, ((l, ()), (A, ((), (V1, (U1, (X1, (O1, (V, ()))))))))))) (fun k => (kP l 3 v o k).map fun p => .inl ((p, (true, ())), (W, ((l, ()), (A, ((), (V1, (U1, (X1, (O1, ())))))))))) (.inr ((), (W, ((l, ()), (A, ((), (V1, (U1, (X1, (O1, ())))))))))) l.length (by omega) ?_ ?_
 ·refine Eq.trans key ?_
  rw [jF]
  unfold z0
  cases (List.range l.length).findSome? (kP l 3 v o) <;> rfl
 ·intro k hk rec
  have hc := hf _ (gG hk)
  have hdo := Ve h hc.1.1 (by rw [hN]; exact hc.1.2) (qk l k).cmd hc.2.1 hc.2.2
  have hnr : RightP (jz l v k) := gn h hc.1.1 (by rw [hN]; exact hc.1.2) _
  have hnN : (jz l v k).at_.length = N := by rw [← hN]; exact Jy _ _ _
  have hk1 : wrap .i64 (iadd (k : Int) 1) = ((k + 1 : Nat) : Int) := qK (by omega)
  obtain ⟨s1, s2⟩ := zD h (qk l k).player (qk l k).cmd
  unfold lfind.l10.T kP
  dsimp only
  rw [qn (qp.2 hk), q9 (by omega) (by omega), qg, Int.toNat_natCast, ji o (k : Int) (by omega), qg]
  have h8 := lt8_1 l (by omega) k o (by omega) W V A V1 U1 X1 O1
  rw [show qt lfind.l4.T ql _ = _ from h8, qg]
  simp only [cTo]
  by_cases hlate : gw l o k l.length
  ·rw [show je l o k l.length = true from decide_eq_true hlate, q7 rfl, if_pos hlate]
   refine Eq.trans (b := rec ((o, (l, (qh l, (wrap .i64 (iadd (k : Int) 1), ())))), (W, ((l, ()), (A, ((), (V1, (U1, (X1, (O1, (V, ()))))))))))) rfl ?_
   rw [hk1]
   rfl
  ·have hpre := Z3 hp hk hlate
   rw [show je l o k l.length = false from decide_eq_false hlate, q8 rfl, if_neg hlate, hv, show Qx v (qk l k).player _ = _ from hdo, qg, ke, qg]
   dsimp only
   by_cases hto : 0 ≤ (qk l k).to
   ·rw [q7 (decide_eq_true hto), vn (DoP v (qk l k).player (qk l k).cmd).2 _ (by omega) (by omega), qg]
    by_cases hre : (DoP v (qk l k).player (qk l k).cmd).2 = (qk l k).reply
    ·have hok : okI l v k := fun _ => hre
     rw [if_pos hok, show decide ((DoP v (qk l k).player (qk l k).cmd).2 = _) = true from decide_eq_true hre, q8 (b := bnot true) rfl, qg, jl]
     dsimp only
     rw [jw _ _ (by omega) (by simp), qg, j3 l _ (by omega) (by rw [List.length_append, List.length_singleton]; omega), qg]
     by_cases hw : jf l (o ++ [(k : Int)])
     ·rw [jx hw, decide_eq_true hw, q7 rfl]
      rfl
     ·rw [zf hw, decide_eq_false hw, q8 rfl]
      have hin := lf2 hl hf W A V1 U1 X1 O1 V (wTo (DoP v (qk l k).player (qk l k).cmd).1) [(k : Int)] [o, [(k : Int)]] (o ++ [(k : Int)]) (by rw [List.length_append, List.length_singleton]; simp [hd]) (wTo (DoP v (qk l k).player (qk l k).cmd).1) (jz l v k) rfl hnr hnN hpre
      rw [show qt lfind.l9.T ql _ = _ from hin, qg]
      cases z0 l 2 (jz l v k) (o ++ [(k : Int)]) with
      | some p => rfl
      | none =>
        refine Eq.trans (b := rec ((o, (l, (qh l, (wrap .i64 (iadd (k : Int) 1), ())))), (W, ((l, ()), (A, ((), (V1, (U1, (X1, (O1, (V, ()))))))))))) rfl ?_
        rw [hk1]
        rfl
    ·have hok : ¬ okI l v k := fun h => hre (h hto)
     rw [if_neg hok, show decide ((DoP v (qk l k).player (qk l k).cmd).2 = _) = false from decide_eq_false hre, q7 (b := bnot false) rfl]
     refine Eq.trans (b := rec ((o, (l, (qh l, (wrap .i64 (iadd (k : Int) 1), ())))), (W, ((l, ()), (A, ((), (V1, (U1, (X1, (O1, (V, ()))))))))))) rfl ?_
     rw [hk1]
     rfl
   ·have hok : okI l v k := fun h => absurd h hto
    rw [q8 (decide_eq_false hto), if_pos hok, qg, jl]
    dsimp only
    rw [jw _ _ (by omega) (by simp), qg, j3 l _ (by omega) (by rw [List.length_append, List.length_singleton]; omega), qg]
    by_cases hw : jf l (o ++ [(k : Int)])
    ·rw [jx hw, decide_eq_true hw, q7 rfl]
     rfl
    ·rw [zf hw, decide_eq_false hw, q8 rfl]
     have hin := lf2 hl hf W A V1 U1 X1 O1 V (wTo (DoP v (qk l k).player (qk l k).cmd).1) [(k : Int)] [o, [(k : Int)]] (o ++ [(k : Int)]) (by rw [List.length_append, List.length_singleton]; simp [hd]) (wTo (DoP v (qk l k).player (qk l k).cmd).1) (jz l v k) rfl hnr hnN hpre
     rw [show qt lfind.l9.T ql _ = _ from hin, qg]
     cases z0 l 2 (jz l v k) (o ++ [(k : Int)]) with
     | some p => rfl
     | none =>
       refine Eq.trans (b := rec ((o, (l, (qh l, (wrap .i64 (iadd (k : Int) 1), ())))), (W, ((l, ()), (A, ((), (V1, (U1, (X1, (O1, (V, ()))))))))))) rfl ?_
       rw [hk1]
       rfl
 ·intro rec
  unfold lfind.l10.T
  dsimp only
  rw [qw (by rw [qp]; omega)]
open Classical in
theorem lf0 {l : List Call} (hl : l.length ≤ 5) {N : Nat} (hf : jY N l) (W : WTy) (A : List Int) (V : WTy) (v : World) (hv : wOf V = v) (h : RightP v) (hN : v.at_.length = N) (hp : Yn l ([] : List Int)) :
  qt lfind.l11.T ql ((l, (qh l, ((0 : Int), ()))), (W, ((l, ()), (A, ((), (V, ())))))) = some (match z0 l 4 v ([] : List Int) with | some p => .inl ((p, (true, ())), (W, ((l, ()), (A, ((), ()))))) | none => .inr ((), (W, ((l, ()), (A, ((), ())))))) := by
 have key := kD (T := lfind.l11.T) (fun k => ((l, (qh l, ((k : Int), ()))), (W, ((l, ()), (A, ((), (V, ()))))))) (fun k => (kP l 4 v ([] : List Int) k).map fun p => .inl ((p, (true, ())), (W, ((l, ()), (A, ((), ())))))) (.inr ((), (W, ((l, ()), (A, ((), ())))))) l.length (by omega) ?_ ?_
 ·refine Eq.trans key ?_
  rw [jF]
  unfold z0
  cases (List.range l.length).findSome? (kP l 4 v ([] : List Int)) <;> rfl
 ·intro k hk rec
  have hc := hf _ (gG hk)
  have hdo := Ve h hc.1.1 (by rw [hN]; exact hc.1.2) (qk l k).cmd hc.2.1 hc.2.2
  have hnr : RightP (jz l v k) := gn h hc.1.1 (by rw [hN]; exact hc.1.2) _
  have hnN : (jz l v k).at_.length = N := by rw [← hN]; exact Jy _ _ _
  have hk1 : wrap .i64 (iadd (k : Int) 1) = ((k + 1 : Nat) : Int) := qK (by omega)
  obtain ⟨s1, s2⟩ := zD h (qk l k).player (qk l k).cmd
  unfold lfind.l11.T kP
  dsimp only
  rw [qn (qp.2 hk), q9 (by omega) (by omega), qg, Int.toNat_natCast, ji ([] : List Int) (k : Int) (by simp), qg]
  have h8 := lt8_0 l (by omega) k W V A
  rw [show qt lfind.l13.T ql _ = _ from h8, qg]
  simp only [cTo]
  by_cases hlate : gw l ([] : List Int) k l.length
  ·rw [show je l ([] : List Int) k l.length = true from decide_eq_true hlate, q7 rfl, if_pos hlate]
   refine Eq.trans (b := rec ((l, (qh l, (wrap .i64 (iadd (k : Int) 1), ()))), (W, ((l, ()), (A, ((), (V, ()))))))) rfl ?_
   rw [hk1]
   rfl
  ·have hpre := Z3 hp hk hlate
   rw [show je l ([] : List Int) k l.length = false from decide_eq_false hlate, q8 rfl, if_neg hlate, hv, show Qx v (qk l k).player _ = _ from hdo, qg, ke, qg]
   dsimp only
   by_cases hto : 0 ≤ (qk l k).to
   ·rw [q7 (decide_eq_true hto), vn (DoP v (qk l k).player (qk l k).cmd).2 _ (by omega) (by omega), qg]
    by_cases hre : (DoP v (qk l k).player (qk l k).cmd).2 = (qk l k).reply
    ·have hok : okI l v k := fun _ => hre
     rw [if_pos hok, show decide ((DoP v (qk l k).player (qk l k).cmd).2 = _) = true from decide_eq_true hre, q8 (b := bnot true) rfl, qg, jl]
     dsimp only
     rw [jw _ _ (by simp) (by simp), qg, j3 l _ (by omega) (by rw [List.length_append, List.length_singleton]; simp), qg]
     by_cases hw : jf l (([] : List Int) ++ [(k : Int)])
     ·rw [jx hw, decide_eq_true hw, q7 rfl]
      rfl
     ·rw [zf hw, decide_eq_false hw, q8 rfl]
      have hin := lf1 hl hf W A V (wTo (DoP v (qk l k).player (qk l k).cmd).1) [(k : Int)] [([] : List Int), [(k : Int)]] (([] : List Int) ++ [(k : Int)]) (by rw [List.length_append, List.length_singleton]; simp) (wTo (DoP v (qk l k).player (qk l k).cmd).1) (jz l v k) rfl hnr hnN hpre
      rw [show qt lfind.l10.T ql _ = _ from hin, qg]
      cases z0 l 3 (jz l v k) (([] : List Int) ++ [(k : Int)]) with
      | some p => rfl
      | none =>
        refine Eq.trans (b := rec ((l, (qh l, (wrap .i64 (iadd (k : Int) 1), ()))), (W, ((l, ()), (A, ((), (V, ()))))))) rfl ?_
        rw [hk1]
        rfl
    ·have hok : ¬ okI l v k := fun h => hre (h hto)
     rw [if_neg hok, show decide ((DoP v (qk l k).player (qk l k).cmd).2 = _) = false from decide_eq_false hre, q7 (b := bnot false) rfl]
     refine Eq.trans (b := rec ((l, (qh l, (wrap .i64 (iadd (k : Int) 1), ()))), (W, ((l, ()), (A, ((), (V, ()))))))) rfl ?_
     rw [hk1]
     rfl
   ·have hok : okI l v k := fun h => absurd h hto
    rw [q8 (decide_eq_false hto), if_pos hok, qg, jl]
    dsimp only
    rw [jw _ _ (by simp) (by simp), qg, j3 l _ (by omega) (by rw [List.length_append, List.length_singleton]; simp), qg]
    by_cases hw : jf l (([] : List Int) ++ [(k : Int)])
    ·rw [jx hw, decide_eq_true hw, q7 rfl]
     rfl
    ·rw [zf hw, decide_eq_false hw, q8 rfl]
     have hin := lf1 hl hf W A V (wTo (DoP v (qk l k).player (qk l k).cmd).1) [(k : Int)] [([] : List Int), [(k : Int)]] (([] : List Int) ++ [(k : Int)]) (by rw [List.length_append, List.length_singleton]; simp) (wTo (DoP v (qk l k).player (qk l k).cmd).1) (jz l v k) rfl hnr hnN hpre
     rw [show qt lfind.l10.T ql _ = _ from hin, qg]
     cases z0 l 3 (jz l v k) (([] : List Int) ++ [(k : Int)]) with
     | some p => rfl
     | none =>
       refine Eq.trans (b := rec ((l, (qh l, (wrap .i64 (iadd (k : Int) 1), ()))), (W, ((l, ()), (A, ((), (V, ()))))))) rfl ?_
       rw [hk1]
       rfl
 ·intro rec
  unfold lfind.l11.T
  dsimp only
  rw [qw (by rw [qp]; omega)]
open Classical in
theorem qkh {w : World} (h : RightP w) {l : List Call} (hl : l.length ≤ 5) (hf : jY w.at_.length l) :
  vq w l = some (match ZS l 5 w [] with | some p => (p, true) | none => ([], false)) := by
 unfold vq
 rw [j3 l _ (by omega) (by simp), qg]
 by_cases hw : jf l []
 ·rw [decide_eq_true hw, q7 rfl, jx hw]
 ·rw [decide_eq_false hw, q8 rfl, zf hw, lf0 hl hf (wTo w) [] (wTo w) w rfl h rfl (pre_nil l), qg]
  cases z0 l 4 w [] <;> rfl
end Go.Sx
