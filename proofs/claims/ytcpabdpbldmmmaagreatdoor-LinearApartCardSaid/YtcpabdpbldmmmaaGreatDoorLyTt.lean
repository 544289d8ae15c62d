/-
  linear.Find: its loops (plain; printed by wip/dev/genfind.py).
-/
import Derived.Test.YtcpabdpbldmmmaaGreatDoorLyTs
set_option linter.unusedVariables false
set_option linter.unusedSimpArgs false
namespace Go.Sx
open Go Go.Proofs
open Classical in
theorem lt8_0 (l : List Call) (hl : l.length ≤ 1000) (x : Nat) (W V : WTy) (A : List Int) :
  qr lfind.l13.T qn (((x : Int), (decide ((x : Int) ∈ ([] : List Int)), (l, (qh l, ((x : Int), (l, (qh l, ((0 : Int), ())))))))), (W, ((l, ()), (A, ((), (V, (cTo (qj l x), ()))))))) = some (((x : Int), (jb l ([] : List Int) x l.length, (l, (qh l, ((x : Int), ()))))), (W, ((l, ()), (A, ((), (V, (cTo (qj l x), ()))))))) := by
 refine Eq.trans (congrArg (qr lfind.l13.T qn) ?_) (qG (T := lfind.l13.T) (fun m => (((x : Int), (jb l ([] : List Int) x m, (l, (qh l, ((x : Int), (l, (qh l, ((m : Int), ())))))))), (W, ((l, ()), (A, ((), (V, (cTo (qj l x), ())))))))) (((x : Int), (jb l ([] : List Int) x l.length, (l, (qh l, ((x : Int), ()))))), (W, ((l, ()), (A, ((), (V, (cTo (qj l x), ()))))))) l.length (by omega) ?_ ?_)
 ·rw [GG]
  rfl
 ·intro m hm rec
  unfold lfind.l13.T
  simp only [cTo]
  rw [qk (qp.2 hm), q8 (by omega) (by omega), qg, Int.toNat_natCast]
  cases hB : jb l ([] : List Int) x m with
  | true =>
    rw [qy rfl, qg, GE hB]
    dsimp only
    rw [qH (by omega)]
  | false =>
    rw [qz rfl, GF hB]
    by_cases hx : m = x
    ·rw [qz (b := bnot (ieq (m : Int) (x : Int))) (by subst hx; simp), qg, decide_eq_false (fun h => h.1 hx)]
     dsimp only
     rw [qH (by omega)]
    ·rw [qy (b := bnot (ieq (m : Int) (x : Int))) (by simp; omega), zM, qg]
     by_cases ha : qD l m x
     ·rw [qy (decide_eq_true (show 0 ≤ (qj l m).to ∧ (qj l m).to < (qj l x).frm from ha)), jf ([] : List Int) (m : Int) (by simp), qg, qg]
      have : bnot (decide ((m : Int) ∈ ([] : List Int))) = decide (m ≠ x ∧ qD l m x ∧ (m : Int) ∉ ([] : List Int)) := by
       by_cases hmem : (m : Int) ∈ ([] : List Int)
       ·rw [decide_eq_true hmem, decide_eq_false (fun h => h.2.2 hmem)]
        rfl
       ·rw [decide_eq_false hmem, decide_eq_true ⟨hx, ha, hmem⟩]
        rfl
      rw [this]
      dsimp only
      rw [qH (by omega)]
     ·rw [qz (decide_eq_false (show ¬ (0 ≤ (qj l m).to ∧ (qj l m).to < (qj l x).frm) from ha)), qg, decide_eq_false (fun h => ha h.2.1)]
      dsimp only
      rw [qH (by omega)]
 ·intro rec
  unfold lfind.l13.T
  simp only [cTo]
  rw [qu (by rw [qp]; omega)]
open Classical in
theorem lt8_1 (l : List Call) (hl : l.length ≤ 1000) (x : Nat) (o : List Int) (ho : o.length ≤ 1000) (W V : WTy) (A : List Int) (V1 U1 : WTy) (X1 : List Int) (O1 : List (List Int)) :
  qr lfind.l4.T qn ((o, ((x : Int), (decide ((x : Int) ∈ o), (l, (qh l, ((x : Int), (l, (qh l, ((0 : Int), ()))))))))), (W, ((l, ()), (A, ((), (V1, (U1, (X1, (O1, (V, (cTo (qj l x), ()))))))))))) = some ((o, ((x : Int), (jb l o x l.length, (l, (qh l, ((x : Int), ())))))), (W, ((l, ()), (A, ((), (V1, (U1, (X1, (O1, (V, (cTo (qj l x), ()))))))))))) := by
 refine Eq.trans (congrArg (qr lfind.l4.T qn) ?_) (qG (T := lfind.l4.T) (fun m => ((o, ((x : Int), (jb l o x m, (l, (qh l, ((x : Int), (l, (qh l, ((m : Int), ()))))))))), (W, ((l, ()), (A, ((), (V1, (U1, (X1, (O1, (V, (cTo (qj l x), ())))))))))))) ((o, ((x : Int), (jb l o x l.length, (l, (qh l, ((x : Int), ())))))), (W, ((l, ()), (A, ((), (V1, (U1, (X1, (O1, (V, (cTo (qj l x), ()))))))))))) l.length (by omega) ?_ ?_)
 ·rw [GG]
  rfl
 ·intro m hm rec
  unfold lfind.l4.T
  simp only [cTo]
  rw [qk (qp.2 hm), q8 (by omega) (by omega), qg, Int.toNat_natCast]
  cases hB : jb l o x m with
  | true =>
    rw [qy rfl, qg, GE hB]
    dsimp only
    rw [qH (by omega)]
  | false =>
    rw [qz rfl, GF hB]
    by_cases hx : m = x
    ·rw [qz (b := bnot (ieq (m : Int) (x : Int))) (by subst hx; simp), qg, decide_eq_false (fun h => h.1 hx)]
     dsimp only
     rw [qH (by omega)]
    ·rw [qy (b := bnot (ieq (m : Int) (x : Int))) (by simp; omega), zM, qg]
     by_cases ha : qD l m x
     ·rw [qy (decide_eq_true (show 0 ≤ (qj l m).to ∧ (qj l m).to < (qj l x).frm from ha)), jf o (m : Int) (by first | exact ho | simp), qg, qg]
      have : bnot (decide ((m : Int) ∈ o)) = decide (m ≠ x ∧ qD l m x ∧ (m : Int) ∉ o) := by
       by_cases hmem : (m : Int) ∈ o
       ·rw [decide_eq_true hmem, decide_eq_false (fun h => h.2.2 hmem)]
        rfl
       ·rw [decide_eq_false hmem, decide_eq_true ⟨hx, ha, hmem⟩]
        rfl
      rw [this]
      dsimp only
      rw [qH (by omega)]
     ·rw [qz (decide_eq_false (show ¬ (0 ≤ (qj l m).to ∧ (qj l m).to < (qj l x).frm) from ha)), qg, decide_eq_false (fun h => ha h.2.1)]
      dsimp only
      rw [qH (by omega)]
 ·intro rec
  unfold lfind.l4.T
  simp only [cTo]
  rw [qu (by rw [qp]; omega)]
open Classical in
theorem lt8_2 (l : List Call) (hl : l.length ≤ 1000) (x : Nat) (o : List Int) (ho : o.length ≤ 1000) (W V : WTy) (A : List Int) (V1 U1 : WTy) (X1 : List Int) (O1 : List (List Int)) (V2 U2 : WTy) (X2 : List Int) (O2 : List (List Int)) :
  qr lfind.l5.T qn ((o, ((x : Int), (decide ((x : Int) ∈ o), (l, (qh l, ((x : Int), (l, (qh l, ((0 : Int), ()))))))))), (W, ((l, ()), (A, ((), (V1, (U1, (X1, (O1, (V2, (U2, (X2, (O2, (V, (cTo (qj l x), ()))))))))))))))) = some ((o, ((x : Int), (jb l o x l.length, (l, (qh l, ((x : Int), ())))))), (W, ((l, ()), (A, ((), (V1, (U1, (X1, (O1, (V2, (U2, (X2, (O2, (V, (cTo (qj l x), ()))))))))))))))) := by
 refine Eq.trans (congrArg (qr lfind.l5.T qn) ?_) (qG (T := lfind.l5.T) (fun m => ((o, ((x : Int), (jb l o x m, (l, (qh l, ((x : Int), (l, (qh l, ((m : Int), ()))))))))), (W, ((l, ()), (A, ((), (V1, (U1, (X1, (O1, (V2, (U2, (X2, (O2, (V, (cTo (qj l x), ())))))))))))))))) ((o, ((x : Int), (jb l o x l.length, (l, (qh l, ((x : Int), ())))))), (W, ((l, ()), (A, ((), (V1, (U1, (X1, (O1, (V2, (U2, (X2, (O2, (V, (cTo (qj l x), ()))))))))))))))) l.length (by omega) ?_ ?_)
 ·rw [GG]
  rfl
 ·intro m hm rec
  unfold lfind.l5.T
  simp only [cTo]
  rw [qk (qp.2 hm), q8 (by omega) (by omega), qg, Int.toNat_natCast]
  cases hB : jb l o x m with
  | true =>
    rw [qy rfl, qg, GE hB]
    dsimp only
    rw [qH (by omega)]
  | false =>
    rw [qz rfl, GF hB]
    by_cases hx : m = x
    ·rw [qz (b := bnot (ieq (m : Int) (x : Int))) (by subst hx; simp), qg, decide_eq_false (fun h => h.1 hx)]
     dsimp only
     rw [qH (by omega)]
    ·rw [qy (b := bnot (ieq (m : Int) (x : Int))) (by simp; omega), zM, qg]
     by_cases ha : qD l m x
     ·rw [qy (decide_eq_true (show 0 ≤ (qj l m).to ∧ (qj l m).to < (qj l x).frm from ha)), jf o (m : Int) (by first | exact ho | simp), qg, qg]
      have : bnot (decide ((m : Int) ∈ o)) = decide (m ≠ x ∧ qD l m x ∧ (m : Int) ∉ o) := by
       by_cases hmem : (m : Int) ∈ o
       ·rw [decide_eq_true hmem, decide_eq_false (fun h => h.2.2 hmem)]
        rfl
       ·rw [decide_eq_false hmem, decide_eq_true ⟨hx, ha, hmem⟩]
        rfl
      rw [this]
      dsimp only
      rw [qH (by omega)]
     ·rw [qz (decide_eq_false (show ¬ (0 ≤ (qj l m).to ∧ (qj l m).to < (qj l x).frm) from ha)), qg, decide_eq_false (fun h => ha h.2.1)]
      dsimp only
      rw [qH (by omega)]
 ·intro rec
  unfold lfind.l5.T
  simp only [cTo]
  rw [qu (by rw [qp]; omega)]
open Classical in
theorem lt8_3 (l : List Call) (hl : l.length ≤ 1000) (x : Nat) (o : List Int) (ho : o.length ≤ 1000) (W V : WTy) (A : List Int) (V1 U1 : WTy) (X1 : List Int) (O1 : List (List Int)) (V2 U2 : WTy) (X2 : List Int) (O2 : List (List Int)) (V3 U3 : WTy) (X3 : List Int) (O3 : List (List Int)) :
  qr lfind.l6.T qn ((o, ((x : Int), (decide ((x : Int) ∈ o), (l, (qh l, ((x : Int), (l, (qh l, ((0 : Int), ()))))))))), (W, ((l, ()), (A, ((), (V1, (U1, (X1, (O1, (V2, (U2, (X2, (O2, (V3, (U3, (X3, (O3, (V, (cTo (qj l x), ()))))))))))))))))))) = some ((o, ((x : Int), (jb l o x l.length, (l, (qh l, ((x : Int), ())))))), (W, ((l, ()), (A, ((), (V1, (U1, (X1, (O1, (V2, (U2, (X2, (O2, (V3, (U3, (X3, (O3, (V, (cTo (qj l x), ()))))))))))))))))))) := by
 refine Eq.trans (congrArg (qr lfind.l6.T qn) ?_) (qG (T := lfind.l6.T) (fun m => ((o, ((x : Int), (jb l o x m, (l, (qh l, ((x : Int), (l, (qh l, ((m : Int), ()))))))))), (W, ((l, ()), (A, ((), (V1, (U1, (X1, (O1, (V2, (U2, (X2, (O2, (V3, (U3, (X3, (O3, (V, (cTo (qj l x), ())))))))))))))))))))) ((o, ((x : Int), (jb l o x l.length, (l, (qh l, ((x : Int), ())))))), (W, ((l, ()), (A, ((), (V1, (U1, (X1, (O1, (V2, (U2, (X2, (O2, (V3, (U3, (X3, (O3, (V, (cTo (qj l x), ()))))))))))))))))))) l.length (by omega) ?_ ?_)
 ·rw [GG]
  rfl
 ·intro m hm rec
  unfold lfind.l6.T
  simp only [cTo]
  rw [qk (qp.2 hm), q8 (by omega) (by omega), qg, Int.toNat_natCast]
  cases hB : jb l o x m with
  | true =>
    rw [qy rfl, qg, GE hB]
    dsimp only
    rw [qH (by omega)]
  | false =>
    rw [qz rfl, GF hB]
    by_cases hx : m = x
    ·rw [qz (b := bnot (ieq (m : Int) (x : Int))) (by subst hx; simp), qg, decide_eq_false (fun h => h.1 hx)]
     dsimp only
     rw [qH (by omega)]
    ·rw [qy (b := bnot (ieq (m : Int) (x : Int))) (by simp; omega), zM, qg]
     by_cases ha : qD l m x
     ·rw [qy (decide_eq_true (show 0 ≤ (qj l m).to ∧ (qj l m).to < (qj l x).frm from ha)), jf o (m : Int) (by first | exact ho | simp), qg, qg]
      have : bnot (decide ((m : Int) ∈ o)) = decide (m ≠ x ∧ qD l m x ∧ (m : Int) ∉ o) := by
       by_cases hmem : (m : Int) ∈ o
       ·rw [decide_eq_true hmem, decide_eq_false (fun h => h.2.2 hmem)]
        rfl
       ·rw [decide_eq_false hmem, decide_eq_true ⟨hx, ha, hmem⟩]
        rfl
      rw [this]
      dsimp only
      rw [qH (by omega)]
     ·rw [qz (decide_eq_false (show ¬ (0 ≤ (qj l m).to ∧ (qj l m).to < (qj l x).frm) from ha)), qg, decide_eq_false (fun h => ha h.2.1)]
      dsimp only
      rw [qH (by omega)]
 ·intro rec
  unfold lfind.l6.T
  simp only [cTo]
  rw [qu (by rw [qp]; omega)]
open Classical in
theorem lt8_4 (l : List Call) (hl : l.length ≤ 1000) (x : Nat) (o : List Int) (ho : o.length ≤ 1000) (W V : WTy) (A : List Int) (V1 U1 : WTy) (X1 : List Int) (O1 : List (List Int)) (V2 U2 : WTy) (X2 : List Int) (O2 : List (List Int)) (V3 U3 : WTy) (X3 : List Int) (O3 : List (List Int)) (V4 U4 : WTy) (X4 : List Int) (O4 : List (List Int)) :
  qr lfind.l7.T qn ((o, ((x : Int), (decide ((x : Int) ∈ o), (l, (qh l, ((x : Int), (l, (qh l, ((0 : Int), ()))))))))), (W, ((l, ()), (A, ((), (V1, (U1, (X1, (O1, (V2, (U2, (X2, (O2, (V3, (U3, (X3, (O3, (V4, (U4, (X4, (O4, (V, (cTo (qj l x), ()))))))))))))))))))))))) = some ((o, ((x : Int), (jb l o x l.length, (l, (qh l, ((x : Int), ())))))), (W, ((l, ()), (A, ((), (V1, (U1, (X1, (O1, (V2, (U2, (X2, (O2, (V3, (U3, (X3, (O3, (V4, (U4, (X4, (O4, (V, (cTo (qj l x), ()))))))))))))))))))))))) := by
 refine Eq.trans (congrArg (qr lfind.l7.T qn) ?_) (qG (T := lfind.l7.T) (fun m => ((o, ((x : Int), (jb l o x m, (l, (qh l, ((x : Int), (l, (qh l, ((m : Int), ()))))))))), (W, ((l, ()), (A, ((), (V1, (U1, (X1, (O1, (V2, (U2, (X2, (O2, (V3, (U3, (X3, (O3, (V4, (U4, (X4, (O4, (V, (cTo (qj l x), ())))))))))))))))))))))))) ((o, ((x : Int), (jb l o x l.length, (l, (qh l, ((x : Int), ())))))), (W, ((l, ()), (A, ((), (V1, (U1, (X1, (O1, (V2, (U2, (X2, (O2, (V3, (U3, (X3, (O3, (V4, (U4, (X4, (O4, (V, (cTo (qj l x), ()))))))))))))))))))))))) l.length (by omega) ?_ ?_)
 ·rw [GG]
  rfl
 ·intro m hm rec
  unfold lfind.l7.T
  simp only [cTo]
  rw [qk (qp.2 hm), q8 (by omega) (by omega), qg, Int.toNat_natCast]
  cases hB : jb l o x m with
  | true =>
    rw [qy rfl, qg, GE hB]
    dsimp only
    rw [qH (by omega)]
  | false =>
    rw [qz rfl, GF hB]
    by_cases hx : m = x
    ·rw [qz (b := bnot (ieq (m : Int) (x : Int))) (by subst hx; simp), qg, decide_eq_false (fun h => h.1 hx)]
     dsimp only
     rw [qH (by omega)]
    ·rw [qy (b := bnot (ieq (m : Int) (x : Int))) (by simp; omega), zM, qg]
     by_cases ha : qD l m x
     ·rw [qy (decide_eq_true (show 0 ≤ (qj l m).to ∧ (qj l m).to < (qj l x).frm from ha)), jf o (m : Int) (by first | exact ho | simp), qg, qg]
      have : bnot (decide ((m : Int) ∈ o)) = decide (m ≠ x ∧ qD l m x ∧ (m : Int) ∉ o) := by
       by_cases hmem : (m : Int) ∈ o
       ·rw [decide_eq_true hmem, decide_eq_false (fun h => h.2.2 hmem)]
        rfl
       ·rw [decide_eq_false hmem, decide_eq_true ⟨hx, ha, hmem⟩]
        rfl
      rw [this]
      dsimp only
      rw [qH (by omega)]
     ·rw [qz (decide_eq_false (show ¬ (0 ≤ (qj l m).to ∧ (qj l m).to < (qj l x).frm) from ha)), qg, decide_eq_false (fun h => ha h.2.1)]
      dsimp only
      rw [qH (by omega)]
 ·intro rec
  unfold lfind.l7.T
  simp only [cTo]
  rw [qu (by rw [qp]; omega)]
open Classical in
theorem lf4 {l : List Call} (hl : l.length ≤ 5) {N : Nat} (hf : j8 N l) (W : WTy) (A : List Int) (V1 U1 : WTy) (X1 : List Int) (O1 : List (List Int)) (V2 U2 : WTy) (X2 : List Int) (O2 : List (List Int)) (V3 U3 : WTy) (X3 : List Int) (O3 : List (List Int)) (V4 U4 : WTy) (X4 : List Int) (O4 : List (List Int)) (o : List Int) (hd : o.length = 4) (V : WTy) (v : World) (hv : wOf V = v) (h : RightP v) (hN : v.at_.length = N) (hp : Ux l o) :
  qr lfind.l14.T qn ((o, (l, (qh l, ((0 : Int), ())))), (W, ((l, ()), (A, ((), (V1, (U1, (X1, (O1, (V2, (U2, (X2, (O2, (V3, (U3, (X3, (O3, (V4, (U4, (X4, (O4, (V, ())))))))))))))))))))))) = some (match zr l 0 v o with | some p => .inl ((p, (true, ())), (W, ((l, ()), (A, ((), (V1, (U1, (X1, (O1, (V2, (U2, (X2, (O2, (V3, (U3, (X3, (O3, (V4, (U4, (X4, (O4, ()))))))))))))))))))))) | none => .inr ((), (W, ((l, ()), (A, ((), (V1, (U1, (X1, (O1, (V2, (U2, (X2, (O2, (V3, (U3, (X3, (O3, (V4, (U4, (X4, (O4, ())))))))))))))))))))))) := by
 have key := kp (T := lfind.l14.T) (fun k => ((o, (l, (qh l, ((k : Int), ())))), (W, ((l, ()), (A, ((), (V1, (U1, (X1, (O1, (V2, (U2, (X2, (O2, (V3, (U3, (X3, (O3, (V4, (U4, (X4, (O4, (V, ()))))))))))))))))))))))) (fun k => (kJ l 0 v o k).map fun p => .inl ((p, (true, ())), (W, ((l, ()), (A, ((), (V1, (U1, (X1, (O1, (V2, (U2, (X2, (O2, (V3, (U3, (X3, (O3, (V4, (U4, (X4, (O4, ())))))))))))))))))))))) (.inr ((), (W, ((l, ()), (A, ((), (V1, (U1, (X1, (O1, (V2, (U2, (X2, (O2, (V3, (U3, (X3, (O3, (V4, (U4, (X4, (O4, ())))))))))))))))))))))) l.length (by omega) ?_ ?_
 ·refine Eq.trans key ?_
  rw [jA]
  unfold zr
  cases (List.range l.length).findSome? (kJ l 0 v o) <;> rfl
 ·intro k hk rec
  have hc := hf _ (z9 hk)
  have hdo := JO h hc.1.1 (by rw [hN]; exact hc.1.2) (qj l k).cmd hc.2.1 hc.2.2
  have hnr : RightP (jm l v k) := vg h hc.1.1 (by rw [hN]; exact hc.1.2) _
  have hnN : (jm l v k).at_.length = N := by rw [← hN]; exact Qe _ _ _
  have hk1 : wrap .i64 (iadd (k : Int) 1) = ((k + 1 : Nat) : Int) := qH (by omega)
  obtain ⟨s1, s2⟩ := z8 h (qj l k).player (qj l k).cmd
  unfold lfind.l14.T kJ
  dsimp only
  rw [qk (qp.2 hk), q8 (by omega) (by omega), qg, Int.toNat_natCast, jf o (k : Int) (by omega), qg]
  have h8 := lt8_4 l (by omega) k o (by omega) W V A V1 U1 X1 O1 V2 U2 X2 O2 V3 U3 X3 O3 V4 U4 X4 O4
  rw [show qr lfind.l7.T qn _ = _ from h8, qg]
  simp only [cTo]
  by_cases hlate : gy l o k l.length
  ·rw [show jb l o k l.length = true from decide_eq_true hlate, qy rfl, if_pos hlate]
   refine Eq.trans (b := rec ((o, (l, (qh l, (wrap .i64 (iadd (k : Int) 1), ())))), (W, ((l, ()), (A, ((), (V1, (U1, (X1, (O1, (V2, (U2, (X2, (O2, (V3, (U3, (X3, (O3, (V4, (U4, (X4, (O4, (V, ()))))))))))))))))))))))) rfl ?_
   rw [hk1]
   rfl
  ·have hpre := Zg hp hk hlate
   rw [show jb l o k l.length = false from decide_eq_false hlate, qz rfl, if_neg hlate, hv, show Qn v (qj l k).player _ = _ from hdo, qg, zV, qg]
   dsimp only
   by_cases hto : 0 ≤ (qj l k).to
   ·rw [qy (decide_eq_true hto), vf (DoP v (qj l k).player (qj l k).cmd).2 _ (by omega) (by omega), qg]
    by_cases hre : (DoP v (qj l k).player (qj l k).cmd).2 = (qj l k).reply
    ·have hok : okI l v k := fun _ => hre
     rw [if_pos hok, show decide ((DoP v (qj l k).player (qj l k).cmd).2 = _) = true from decide_eq_true hre, qz (b := bnot true) rfl, qg, ji]
     dsimp only
     rw [jw _ _ (by omega) (by simp), qg, j1 l _ (by omega) (by rw [List.length_append, List.length_singleton]; omega), qg]
     have hfull : je l (o ++ [(k : Int)]) := DZ hpre (by rw [List.length_append, List.length_singleton]; omega)
     rw [jx hfull, decide_eq_true hfull, qy rfl]
     rfl
    ·have hok : ¬ okI l v k := fun h => hre (h hto)
     rw [if_neg hok, show decide ((DoP v (qj l k).player (qj l k).cmd).2 = _) = false from decide_eq_false hre, qy (b := bnot false) rfl]
     refine Eq.trans (b := rec ((o, (l, (qh l, (wrap .i64 (iadd (k : Int) 1), ())))), (W, ((l, ()), (A, ((), (V1, (U1, (X1, (O1, (V2, (U2, (X2, (O2, (V3, (U3, (X3, (O3, (V4, (U4, (X4, (O4, (V, ()))))))))))))))))))))))) rfl ?_
     rw [hk1]
     rfl
   ·have hok : okI l v k := fun h => absurd h hto
    rw [qz (decide_eq_false hto), if_pos hok, qg, ji]
    dsimp only
    rw [jw _ _ (by omega) (by simp), qg, j1 l _ (by omega) (by rw [List.length_append, List.length_singleton]; omega), qg]
    have hfull : je l (o ++ [(k : Int)]) := DZ hpre (by rw [List.length_append, List.length_singleton]; omega)
    rw [jx hfull, decide_eq_true hfull, qy rfl]
    rfl
 ·intro rec
  unfold lfind.l14.T
  dsimp only
  rw [qu (by rw [qp]; omega)]
open Classical in
theorem lf3 {l : List Call} (hl : l.length ≤ 5) {N : Nat} (hf : j8 N l) (W : WTy) (A : List Int) (V1 U1 : WTy) (X1 : List Int) (O1 : List (List Int)) (V2 U2 : WTy) (X2 : List Int) (O2 : List (List Int)) (V3 U3 : WTy) (X3 : List Int) (O3 : List (List Int)) (o : List Int) (hd : o.length = 3) (V : WTy) (v : World) (hv : wOf V = v) (h : RightP v) (hN : v.at_.length = N) (hp : Ux l o) :
  qr lfind.l8.T qn ((o, (l, (qh l, ((0 : Int), ())))), (W, ((l, ()), (A, ((), (V1, (U1, (X1, (O1, (V2, (U2, (X2, (O2, (V3, (U3, (X3, (O3, (V, ())))))))))))))))))) = some (match zr l 1 v o with | some p => .inl ((p, (true, ())), (W, ((l, ()), (A, ((), (V1, (U1, (X1, (O1, (V2, (U2, (X2, (O2, (V3, (U3, (X3, (O3, ()))))))))))))))))) | none => .inr ((), (W, ((l, ()), (A, ((), (V1, (U1, (X1, (O1, (V2, (U2, (X2, (O2, (V3, (U3, (X3, (O3, ())))))))))))))))))) := by
 have key := kp (T := lfind.l8.T) (fun k => ((o, (l, (qh l, ((k : Int), ())))), (W, ((l, ()), (A, ((), (V1, (U1, (X1, (O1, (V2, (U2, (X2, (O2, (V3, (U3, (X3, (O3, (V, ()))))))))))))))))))) (fun k => (kJ l 1 v o k).map fun p => .inl ((p, (true, ())), (W, ((l, ()), (A, ((), (V1, (U1, (X1, (O1, (V2, (U2, (X2, (O2, (V3, (U3, (X3, (O3, ())))))))))))))))))) (.inr ((), (W, ((l, ()), (A, ((), (V1, (U1, (X1, (O1, (V2, (U2, (X2, (O2, (V3, (U3, (X3, (O3, ())))))))))))))))))) l.length (by omega) ?_ ?_
 ·refine Eq.trans key ?_
  rw [jA]
  unfold zr
  cases (List.range l.length).findSome? (kJ l 1 v o) <;> rfl
 ·intro k hk rec
  have hc := hf _ (z9 hk)
  have hdo := JO h hc.1.1 (by rw [hN]; exact hc.1.2) (qj l k).cmd hc.2.1 hc.2.2
  have hnr : RightP (jm l v k) := vg h hc.1.1 (by rw [hN]; exact hc.1.2) _
  have hnN : (jm l v k).at_.length = N := by rw [← hN]; exact Qe _ _ _
  have hk1 : wrap .i64 (iadd (k : Int) 1) = ((k + 1 : Nat) : Int) := qH (by omega)
  obtain ⟨s1, s2⟩ := z8 h (qj l k).player (qj l k).cmd
  unfold lfind.l8.T kJ
  dsimp only
  rw [qk (qp.2 hk), q8 (by omega) (by omega), qg, Int.toNat_natCast, jf o (k : Int) (by omega), qg]
  have h8 := lt8_3 l (by omega) k o (by omega) W V A V1 U1 X1 O1 V2 U2 X2 O2 V3 U3 X3 O3
  rw [show qr lfind.l6.T qn _ = _ from h8, qg]
  simp only [cTo]
  by_cases hlate : gy l o k l.length
  ·rw [show jb l o k l.length = true from decide_eq_true hlate, qy rfl, if_pos hlate]
   refine Eq.trans (b := rec ((o, (l, (qh l, (wrap .i64 (iadd (k : Int) 1), ())))), (W, ((l, ()), (A, ((), (V1, (U1, (X1, (O1, (V2, (U2, (X2, (O2, (V3, (U3, (X3, (O3, (V, ()))))))))))))))))))) rfl ?_
   rw [hk1]
   rfl
  ·have hpre := Zg hp hk hlate
   rw [show jb l o k l.length = false from decide_eq_false hlate, qz rfl, if_neg hlate, hv, show Qn v (qj l k).player _ = _ from hdo, qg, zV, qg]
   dsimp only
   by_cases hto : 0 ≤ (qj l k).to
   ·rw [qy (decide_eq_true hto), vf (DoP v (qj l k).player (qj l k).cmd).2 _ (by omega) (by omega), qg]
    by_cases hre : (DoP v (qj l k).player (qj l k).cmd).2 = (qj l k).reply
    ·have hok : okI l v k := fun _ => hre
     rw [if_pos hok, show decide ((DoP v (qj l k).player (qj l k).cmd).2 = _) = true from decide_eq_true hre, qz (b := bnot true) rfl, qg, ji]
     dsimp only
     rw [jw _ _ (by omega) (by simp), qg, j1 l _ (by omega) (by rw [List.length_append, List.length_singleton]; omega), qg]
     by_cases hw : je l (o ++ [(k : Int)])
     ·rw [jx hw, decide_eq_true hw, qy rfl]
      rfl
     ·rw [jZ hw, decide_eq_false hw, qz rfl]
      have hin := lf4 hl hf W A V1 U1 X1 O1 V2 U2 X2 O2 V3 U3 X3 O3 V (wTo (DoP v (qj l k).player (qj l k).cmd).1) [(k : Int)] [o, [(k : Int)]] (o ++ [(k : Int)]) (by rw [List.length_append, List.length_singleton]; simp [hd]) (wTo (DoP v (qj l k).player (qj l k).cmd).1) (jm l v k) rfl hnr hnN hpre
      rw [show qr lfind.l14.T qn _ = _ from hin, qg]
      cases zr l 0 (jm l v k) (o ++ [(k : Int)]) with
      | some p => rfl
      | none =>
        refine Eq.trans (b := rec ((o, (l, (qh l, (wrap .i64 (iadd (k : Int) 1), ())))), (W, ((l, ()), (A, ((), (V1, (U1, (X1, (O1, (V2, (U2, (X2, (O2, (V3, (U3, (X3, (O3, (V, ()))))))))))))))))))) rfl ?_
        rw [hk1]
        rfl
    ·have hok : ¬ okI l v k := fun h => hre (h hto)
     rw [if_neg hok, show decide ((DoP v (qj l k).player (qj l k).cmd).2 = _) = false from decide_eq_false hre, qy (b := bnot false) rfl]
     refine Eq.trans (b := rec ((o, (l, (qh l, (wrap .i64 (iadd (k : Int) 1), ())))), (W, ((l, ()), (A, ((), (V1, (U1, (X1, (O1, (V2, (U2, (X2, (O2, (V3, (U3, (X3, (O3, (V, ()))))))))))))))))))) rfl ?_
     rw [hk1]
     rfl
   ·have hok : okI l v k := fun h => absurd h hto
    rw [qz (decide_eq_false hto), if_pos hok, qg, ji]
    dsimp only
    rw [jw _ _ (by omega) (by simp), qg, j1 l _ (by omega) (by rw [List.length_append, List.length_singleton]; omega), qg]
    by_cases hw : je l (o ++ [(k : Int)])
    ·rw [jx hw, decide_eq_true hw, qy rfl]
     rfl
    ·rw [jZ hw, decide_eq_false hw, qz rfl]
     have hin := lf4 hl hf W A V1 U1 X1 O1 V2 U2 X2 O2 V3 U3 X3 O3 V (wTo (DoP v (qj l k).player (qj l k).cmd).1) [(k : Int)] [o, [(k : Int)]] (o ++ [(k : Int)]) (by rw [List.length_append, List.length_singleton]; simp [hd]) (wTo (DoP v (qj l k).player (qj l k).cmd).1) (jm l v k) rfl hnr hnN hpre
     rw [show qr lfind.l14.T qn _ = _ from hin, qg]
     cases zr l 0 (jm l v k) (o ++ [(k : Int)]) with
     | some p => rfl
     | none =>
       refine Eq.trans (b := rec ((o, (l, (qh l, (wrap .i64 (iadd (k : Int) 1), ())))), (W, ((l, ()), (A, ((), (V1, (U1, (X1, (O1, (V2, (U2, (X2, (O2, (V3, (U3, (X3, (O3, (V, ()))))))))))))))))))) rfl ?_
       rw [hk1]
       rfl
 ·intro rec
  unfold lfind.l8.T
  dsimp only
  rw [qu (by rw [qp]; omega)]
open Classical in
theorem lf2 {l : List Call} (hl : l.length ≤ 5) {N : Nat} (hf : j8 N l) (W : WTy) (A : List Int) (V1 U1 : WTy) (X1 : List Int) (O1 : List (List Int)) (V2 U2 : WTy) (X2 : List Int) (O2 : List (List Int)) (o : List Int) (hd : o.length = 2) (V : WTy) (v : World) (hv : wOf V = v) (h : RightP v) (hN : v.at_.length = N) (hp : Ux l o) :
  qr lfind.l9.T qn ((o, (l, (qh l, ((0 : Int), ())))), (W, ((l, ()), (A, ((), (V1, (U1, (X1, (O1, (V2, (U2, (X2, (O2, (V, ())))))))))))))) = some (match zr l 2 v o with | some p => .inl ((p, (true, ())), (W, ((l, ()), (A, ((), (V1, (U1, (X1, (O1, (V2, (U2, (X2, (O2, ()))))))))))))) | none => .inr ((), (W, ((l, ()), (A, ((), (V1, (U1, (X1, (O1, (V2, (U2, (X2, (O2, ())))))))))))))) := by
 have key := kp (T := lfind.l9.T) (fun k => ((o, (l, (qh l, ((k : Int), ())))), (W, ((l, ()), (A, ((), (V1, (U1, (X1, (O1, (V2, (U2, (X2, (O2, (V, ()))))))))))))))) (fun k => (kJ l 2 v o k).map fun p => .inl ((p, (true, ())), (W, ((l, ()), (A, ((), (V1, (U1, (X1, (O1, (V2, (U2, (X2, (O2, ())))))))))))))) (.inr ((), (W, ((l, ()), (A, ((), (V1, (U1, (X1, (O1, (V2, (U2, (X2, (O2, ())))))))))))))) l.length (by omega) ?_ ?_
 ·refine Eq.trans key ?_
  rw [jA]
  unfold zr
  cases (List.range l.length).findSome? (kJ l 2 v o) <;> rfl
 ·intro k hk rec
  have hc := hf _ (z9 hk)
  have hdo := JO h hc.1.1 (by rw [hN]; exact hc.1.2) (qj l k).cmd hc.2.1 hc.2.2
  have hnr : RightP (jm l v k) := vg h hc.1.1 (by rw [hN]; exact hc.1.2) _
  have hnN : (jm l v k).at_.length = N := by rw [← hN]; exact Qe _ _ _
  have hk1 : wrap .i64 (iadd (k : Int) 1) = ((k + 1 : Nat) : Int) := qH (by omega)
  obtain ⟨s1, s2⟩ := z8 h (qj l k).player (qj l k).cmd
  unfold lfind.l9.T kJ
  dsimp only
  rw [qk (qp.2 hk), q8 (by omega) (by omega), qg, Int.toNat_natCast, jf o (k : Int) (by omega), qg]
  have h8 := lt8_2 l (by omega) k o (by omega) W V A V1 U1 X1 O1 V2 U2 X2 O2
  rw [show qr lfind.l5.T qn _ = _ from h8, qg]
  simp only [cTo]
  by_cases hlate : gy l o k l.length
  ·rw [show jb l o k l.length = true from decide_eq_true hlate, qy rfl, if_pos hlate]
   refine Eq.trans (b := rec ((o, (l, (qh l, (wrap .i64 (iadd (k : Int) 1), ())))), (W, ((l, ()), (A, ((), (V1, (U1, (X1, (O1, (V2, (U2, (X2, (O2, (V, ()))))))))))))))) rfl ?_
   rw [hk1]
   rfl
  ·have hpre := Zg hp hk hlate
   rw [show jb l o k l.length = false from decide_eq_false hlate, qz rfl, if_neg hlate, hv, show Qn v (qj l k).player _ = _ from hdo, qg, zV, qg]
   dsimp only
   by_cases hto : 0 ≤ (qj l k).to
   ·rw [qy (decide_eq_true hto), vf (DoP v (qj l k).player (qj l k).cmd).2 _ (by omega) (by omega), qg]
    by_cases hre : (DoP v (qj l k).player (qj l k).cmd).2 = (qj l k).reply
    ·have hok : okI l v k := fun _ => hre
     rw [if_pos hok, show decide ((DoP v (qj l k).player (qj l k).cmd).2 = _) = true from decide_eq_true hre, qz (b := bnot true) rfl, qg, ji]
     dsimp only
     rw [jw _ _ (by omega) (by simp), qg, j1 l _ (by omega) (by rw [List.length_append, List.length_singleton]; omega), qg]
     by_cases hw : je l (o ++ [(k : Int)])
     ·rw [jx hw, decide_eq_true hw, qy rfl]
      rfl
     ·rw [jZ hw, decide_eq_false hw, qz rfl]
      have hin := lf3 hl hf W A V1 U1 X1 O1 V2 U2 X2 O2 V (wTo (DoP v (qj l k).player (qj l k).cmd).1) [(k : Int)] [o, [(k : Int)]] (o ++ [(k : Int)]) (by rw [List.length_append, List.length_singleton]; simp [hd]) (wTo (DoP v (qj l k).player (qj l k).cmd).1) (jm l v k) rfl hnr hnN hpre
      rw [show qr lfind.l8.T qn _ = _ from hin, qg]
      cases zr l 1 (jm l v k) (o ++ [(k : Int)]) with
      | some p => rfl
      | none =>
        refine Eq.trans (b := rec ((o, (l, (qh l, (wrap .i64 (iadd (k : Int) 1), ())))), (W, ((l, ()), (A, ((), (V1, (U1, (X1, (O1, (V2, (U2, (X2, (O2, (V, ()))))))))))))))) rfl ?_
        rw [hk1]
        rfl
    ·have hok : ¬ okI l v k := fun h => hre (h hto)
     rw [if_neg hok, show decide ((DoP v (qj l k).player (qj l k).cmd).2 = _) = false from decide_eq_false hre, qy (b := bnot false) rfl]
     refine Eq.trans (b := rec ((o, (l, (qh l, (wrap .i64 (iadd (k : Int) 1), ())))), (W, ((l, ()), (A, ((), (V1, (U1, (X1, (O1, (V2, (U2, (X2, (O2, (V, ()))))))))))))))) rfl ?_
     rw [hk1]
     rfl
   ·have hok : okI l v k := fun h => absurd h hto
    rw [qz (decide_eq_false hto), if_pos hok, qg, ji]
    dsimp only
    rw [jw _ _ (by omega) (by simp), qg, j1 l _ (by omega) (by rw [List.length_append, List.length_singleton]; omega), qg]
    by_cases hw : je l (o ++ [(k : Int)])
    ·rw [jx hw, decide_eq_true hw, qy rfl]
     rfl
    ·rw [jZ hw, decide_eq_false hw, qz rfl]
     have hin := lf3 hl hf W A V1 U1 X1 O1 V2 U2 X2 O2 V (wTo (DoP v (qj l k).player (qj l k).cmd).1) [(k : Int)] [o, [(k : Int)]] (o ++ [(k : Int)]) (by rw [List.length_append, List.length_singleton]; simp [hd]) (wTo (DoP v (qj l k).player (qj l k).cmd).1) (jm l v k) rfl hnr hnN hpre
     rw [show qr lfind.l8.T qn _ = _ from hin, qg]
     cases zr l 1 (jm l v k) (o ++ [(k : Int)]) with
     | some p => rfl
     | none =>
       refine Eq.trans (b := rec ((o, (l, (qh l, (wrap .i64 (iadd (k : Int) 1), ())))), (W, ((l, ()), (A, ((), (V1, (U1, (X1, (O1, (V2, (U2, (X2, (O2, (V, ()))))))))))))))) rfl ?_
       rw [hk1]
       rfl
 ·intro rec
  unfold lfind.l9.T
  dsimp only
  rw [qu (by rw [qp]; omega)]
open Classical in
theorem lf1 {l : List Call} (hl : l.length ≤ 5) {N : Nat} (hf : j8 N l) (W : WTy) (A : List Int) (V1 U1 : WTy) (X1 : List Int) (O1 : List (List Int)) (o : List Int) (hd : o.length = 1) (V : WTy) (v : World) (hv : wOf V = v) (h : RightP v) (hN : v.at_.length = N) (hp : Ux l o) :
  qr lfind.l10.T qn ((o, (l, (qh l, ((0 : Int), ())))), (W, ((l, ()), (A, ((), (V1, (U1, (X1, (O1, (V, ())))))))))) = some (match zr l 3 v o with | some p => .inl ((p, (true, ())), (W, ((l, ()), (A, ((), (V1, (U1, (X1, (O1, ()))))))))) | none => .inr ((), (W, ((l, ()), (A, ((), (V1, (U1, (X1, (O1, ())))))))))) := by
 have key := kp (T := lfind.l10.T) (fun k => ((o, (l, (qh l, ((k : Int), ())))), (W, ((l, ()), (A, ((), (V1, (U1, (X1, (O1, (V, ()))))))))))) (fun k => (kJ l 3 v o k).map fun p => .inl ((p, (true, ())), (W, ((l, ()), (A, ((), (V1, (U1, (X1, (O1, ())))))))))) (.inr ((), (W, ((l, ()), (A, ((), (V1, (U1, (X1, (O1, ())))))))))) l.length (by omega) ?_ ?_
 ·refine Eq.trans key ?_
  rw [jA]
  unfold zr
  cases (List.range l.length).findSome? (kJ l 3 v o) <;> rfl
 ·intro k hk rec
  have hc := hf _ (z9 hk)
  have hdo := JO h hc.1.1 (by rw [hN]; exact hc.1.2) (qj l k).cmd hc.2.1 hc.2.2
  have hnr : RightP (jm l v k) := vg h hc.1.1 (by rw [hN]; exact hc.1.2) _
  have hnN : (jm l v k).at_.length = N := by rw [← hN]; exact Qe _ _ _
  have hk1 : wrap .i64 (iadd (k : Int) 1) = ((k + 1 : Nat) : Int) := qH (by omega)
  obtain ⟨s1, s2⟩ := z8 h (qj l k).player (qj l k).cmd
  unfold lfind.l10.T kJ
  dsimp only
  rw [qk (qp.2 hk), q8 (by omega) (by omega), qg, Int.toNat_natCast, jf o (k : Int) (by omega), qg]
  have h8 := lt8_1 l (by omega) k o (by omega) W V A V1 U1 X1 O1
  rw [show qr lfind.l4.T qn _ = _ from h8, qg]
  simp only [cTo]
  by_cases hlate : gy l o k l.length
  ·rw [show jb l o k l.length = true from decide_eq_true hlate, qy rfl, if_pos hlate]
   refine Eq.trans (b := rec ((o, (l, (qh l, (wrap .i64 (iadd (k : Int) 1), ())))), (W, ((l, ()), (A, ((), (V1, (U1, (X1, (O1, (V, ()))))))))))) rfl ?_
   rw [hk1]
   rfl
  ·have hpre := Zg hp hk hlate
   rw [show jb l o k l.length = false from decide_eq_false hlate, qz rfl, if_neg hlate, hv, show Qn v (qj l k).player _ = _ from hdo, qg, zV, qg]
   dsimp only
   by_cases hto : 0 ≤ (qj l k).to
   ·rw [qy (decide_eq_true hto), vf (DoP v (qj l k).player (qj l k).cmd).2 _ (by omega) (by omega), qg]
    by_cases hre : (DoP v (qj l k).player (qj l k).cmd).2 = (qj l k).reply
    ·have hok : okI l v k := fun _ => hre
     rw [if_pos hok, show decide ((DoP v (qj l k).player (qj l k).cmd).2 = _) = true from decide_eq_true hre, qz (b := bnot true) rfl, qg, ji]
     dsimp only
     rw [jw _ _ (by omega) (by simp), qg, j1 l _ (by omega) (by rw [List.length_append, List.length_singleton]; omega), qg]
     by_cases hw : je l (o ++ [(k : Int)])
     ·rw [jx hw, decide_eq_true hw, qy rfl]
      rfl
     ·rw [jZ hw, decide_eq_false hw, qz rfl]
      have hin := lf2 hl hf W A V1 U1 X1 O1 V (wTo (DoP v (qj l k).player (qj l k).cmd).1) [(k : Int)] [o, [(k : Int)]] (o ++ [(k : Int)]) (by rw [List.length_append, List.length_singleton]; simp [hd]) (wTo (DoP v (qj l k).player (qj l k).cmd).1) (jm l v k) rfl hnr hnN hpre
      rw [show qr lfind.l9.T qn _ = _ from hin, qg]
      cases zr l 2 (jm l v k) (o ++ [(k : Int)]) with
      | some p => rfl
      | none =>
        refine Eq.trans (b := rec ((o, (l, (qh l, (wrap .i64 (iadd (k : Int) 1), ())))), (W, ((l, ()), (A, ((), (V1, (U1, (X1, (O1, (V, ()))))))))))) rfl ?_
        rw [hk1]
        rfl
    ·have hok : ¬ okI l v k := fun h => hre (h hto)
     rw [if_neg hok, show decide ((DoP v (qj l k).player (qj l k).cmd).2 = _) = false from decide_eq_false hre, qy (b := bnot false) rfl]
     refine Eq.trans (b := rec ((o, (l, (qh l, (wrap .i64 (iadd (k : Int) 1), ())))), (W, ((l, ()), (A, ((), (V1, (U1, (X1, (O1, (V, ()))))))))))) rfl ?_
     rw [hk1]
     rfl
   ·have hok : okI l v k := fun h => absurd h hto
    rw [qz (decide_eq_false hto), if_pos hok, qg, ji]
    dsimp only
    rw [jw _ _ (by omega) (by simp), qg, j1 l _ (by omega) (by rw [List.length_append, List.length_singleton]; omega), qg]
    by_cases hw : je l (o ++ [(k : Int)])
    ·rw [jx hw, decide_eq_true hw, qy rfl]
     rfl
    ·rw [jZ hw, decide_eq_false hw, qz rfl]
     have hin := lf2 hl hf W A V1 U1 X1 O1 V (wTo (DoP v (qj l k).player (qj l k).cmd).1) [(k : Int)] [o, [(k : Int)]] (o ++ [(k : Int)]) (by rw [List.length_append, List.length_singleton]; simp [hd]) (wTo (DoP v (qj l k).player (qj l k).cmd).1) (jm l v k) rfl hnr hnN hpre
     rw [show qr lfind.l9.T qn _ = _ from hin, qg]
     cases zr l 2 (jm l v k) (o ++ [(k : Int)]) with
     | some p => rfl
     | none =>
       refine Eq.trans (b := rec ((o, (l, (qh l, (wrap .i64 (iadd (k : Int) 1), ())))), (W, ((l, ()), (A, ((), (V1, (U1, (X1, (O1, (V, ()))))))))))) rfl ?_
       rw [hk1]
       rfl
 ·intro rec
  unfold lfind.l10.T
  dsimp only
  rw [qu (by rw [qp]; omega)]
open Classical in
theorem lf0 {l : List Call} (hl : l.length ≤ 5) {N : Nat} (hf : j8 N l) (W : WTy) (A : List Int) (V : WTy) (v : World) (hv : wOf V = v) (h : RightP v) (hN : v.at_.length = N) (hp : Ux l ([] : List Int)) :
  qr lfind.l11.T qn ((l, (qh l, ((0 : Int), ()))), (W, ((l, ()), (A, ((), (V, ())))))) = some (match zr l 4 v ([] : List Int) with | some p => .inl ((p, (true, ())), (W, ((l, ()), (A, ((), ()))))) | none => .inr ((), (W, ((l, ()), (A, ((), ())))))) := by
 have key := kp (T := lfind.l11.T) (fun k => ((l, (qh l, ((k : Int), ()))), (W, ((l, ()), (A, ((), (V, ()))))))) (fun k => (kJ l 4 v ([] : List Int) k).map fun p => .inl ((p, (true, ())), (W, ((l, ()), (A, ((), ())))))) (.inr ((), (W, ((l, ()), (A, ((), ())))))) l.length (by omega) ?_ ?_
 ·refine Eq.trans key ?_
  rw [jA]
  unfold zr
  cases (List.range l.length).findSome? (kJ l 4 v ([] : List Int)) <;> rfl
 ·intro k hk rec
  have hc := hf _ (z9 hk)
  have hdo := JO h hc.1.1 (by rw [hN]; exact hc.1.2) (qj l k).cmd hc.2.1 hc.2.2
  have hnr : RightP (jm l v k) := vg h hc.1.1 (by rw [hN]; exact hc.1.2) _
  have hnN : (jm l v k).at_.length = N := by rw [← hN]; exact Qe _ _ _
  have hk1 : wrap .i64 (iadd (k : Int) 1) = ((k + 1 : Nat) : Int) := qH (by omega)
  obtain ⟨s1, s2⟩ := z8 h (qj l k).player (qj l k).cmd
  unfold lfind.l11.T kJ
  dsimp only
  rw [qk (qp.2 hk), q8 (by omega) (by omega), qg, Int.toNat_natCast, jf ([] : List Int) (k : Int) (by simp), qg]
  have h8 := lt8_0 l (by omega) k W V A
  rw [show qr lfind.l13.T qn _ = _ from h8, qg]
  simp only [cTo]
  by_cases hlate : gy l ([] : List Int) k l.length
  ·rw [show jb l ([] : List Int) k l.length = true from decide_eq_true hlate, qy rfl, if_pos hlate]
   refine Eq.trans (b := rec ((l, (qh l, (wrap .i64 (iadd (k : Int) 1), ()))), (W, ((l, ()), (A, ((), (V, ()))))))) rfl ?_
   rw [hk1]
   rfl
  ·have hpre := Zg hp hk hlate
   rw [show jb l ([] : List Int) k l.length = false from decide_eq_false hlate, qz rfl, if_neg hlate, hv, show Qn v (qj l k).player _ = _ from hdo, qg, zV, qg]
   dsimp only
   by_cases hto : 0 ≤ (qj l k).to
   ·rw [qy (decide_eq_true hto), vf (DoP v (qj l k).player (qj l k).cmd).2 _ (by omega) (by omega), qg]
    by_cases hre : (DoP v (qj l k).player (qj l k).cmd).2 = (qj l k).reply
    ·have hok : okI l v k := fun _ => hre
     rw [if_pos hok, show decide ((DoP v (qj l k).player (qj l k).cmd).2 = _) = true from decide_eq_true hre, qz (b := bnot true) rfl, qg, ji]
     dsimp only
     rw [jw _ _ (by simp) (by simp), qg, j1 l _ (by omega) (by rw [List.length_append, List.length_singleton]; simp), qg]
     by_cases hw : je l (([] : List Int) ++ [(k : Int)])
     ·rw [jx hw, decide_eq_true hw, qy rfl]
      rfl
     ·rw [jZ hw, decide_eq_false hw, qz rfl]
      have hin := lf1 hl hf W A V (wTo (DoP v (qj l k).player (qj l k).cmd).1) [(k : Int)] [([] : List Int), [(k : Int)]] (([] : List Int) ++ [(k : Int)]) (by rw [List.length_append, List.length_singleton]; simp) (wTo (DoP v (qj l k).player (qj l k).cmd).1) (jm l v k) rfl hnr hnN hpre
      rw [show qr lfind.l10.T qn _ = _ from hin, qg]
      cases zr l 3 (jm l v k) (([] : List Int) ++ [(k : Int)]) with
      | some p => rfl
      | none =>
        refine Eq.trans (b := rec ((l, (qh l, (wrap .i64 (iadd (k : Int) 1), ()))), (W, ((l, ()), (A, ((), (V, ()))))))) rfl ?_
        rw [hk1]
        rfl
    ·have hok : ¬ okI l v k := fun h => hre (h hto)
     rw [if_neg hok, show decide ((DoP v (qj l k).player (qj l k).cmd).2 = _) = false from decide_eq_false hre, qy (b := bnot false) rfl]
     refine Eq.trans (b := rec ((l, (qh l, (wrap .i64 (iadd (k : Int) 1), ()))), (W, ((l, ()), (A, ((), (V, ()))))))) rfl ?_
     rw [hk1]
     rfl
   ·have hok : okI l v k := fun h => absurd h hto
    rw [qz (decide_eq_false hto), if_pos hok, qg, ji]
    dsimp only
    rw [jw _ _ (by simp) (by simp), qg, j1 l _ (by omega) (by rw [List.length_append, List.length_singleton]; simp), qg]
    by_cases hw : je l (([] : List Int) ++ [(k : Int)])
    ·rw [jx hw, decide_eq_true hw, qy rfl]
     rfl
    ·rw [jZ hw, decide_eq_false hw, qz rfl]
     have hin := lf1 hl hf W A V (wTo (DoP v (qj l k).player (qj l k).cmd).1) [(k : Int)] [([] : List Int), [(k : Int)]] (([] : List Int) ++ [(k : Int)]) (by rw [List.length_append, List.length_singleton]; simp) (wTo (DoP v (qj l k).player (qj l k).cmd).1) (jm l v k) rfl hnr hnN hpre
     rw [show qr lfind.l10.T qn _ = _ from hin, qg]
     cases zr l 3 (jm l v k) (([] : List Int) ++ [(k : Int)]) with
     | some p => rfl
     | none =>
       refine Eq.trans (b := rec ((l, (qh l, (wrap .i64 (iadd (k : Int) 1), ()))), (W, ((l, ()), (A, ((), (V, ()))))))) rfl ?_
       rw [hk1]
       rfl
 ·intro rec
  unfold lfind.l11.T
  dsimp only
  rw [qu (by rw [qp]; omega)]
open Classical in
theorem Rz {w : World} (h : RightP w) {l : List Call} (hl : l.length ≤ 5) (hf : j8 w.at_.length l) :
  ze w l = some (match J2 l 5 w [] with | some p => (p, true) | none => ([], false)) := by
 unfold ze
 rw [j1 l _ (by omega) (by simp), qg]
 by_cases hw : je l []
 ·rw [decide_eq_true hw, qy rfl, jx hw]
 ·rw [decide_eq_false hw, qz rfl, jZ hw, lf0 hl hf (wTo w) [] (wTo w) w rfl h rfl (pre_nil l), qg]
  cases zr l 4 w [] <;> rfl
end Go.Sx
