/-
  Worlds: trades, the loops of gifts (plain).
-/
import Derived.Test.YtcpabdpbldmmmaaGreatDoorLyTl
set_option linter.unusedVariables false
set_option linter.unusedSimpArgs false
namespace Go.Sx
open Go Go.Proofs
abbrev Uw : Type := List (Int × Bool)
def zp (l : List Int) : Nat → Uw
 | 0 => []
 | k + 1 => @gV (Kd.int .i64) Kd.bool (zp l k) (gi l (k : Int)) true
theorem RQ (x y : Int) : ∀ (m : Uw), odef (@jo (Kd.int .i64) Kd.bool (@gV (Kd.int .i64) Kd.bool m x true) y) false = (decide (y = x) || odef (@jo (Kd.int .i64) Kd.bool m y) false)
 | [] => by
   show odef (@jo (Kd.int .i64) Kd.bool [(x, true)] y) false = _
   unfold jo
   by_cases e : y = x
   ·subst e
    simp [Kd.beq]
   ·simp [Kd.beq, e]
 | (a, v) :: r => by
   have ih := RQ x y r
   unfold gV
   by_cases e : x = a
   ·subst e
    rw [show (Kd.int .i64).beq x (x, v).1 = true from decide_eq_true rfl]
    show odef (@jo (Kd.int .i64) Kd.bool ((x, true) :: r) y) false = _
    unfold jo
    by_cases e1 : y = x
    ·subst e1
     simp [Kd.beq]
    ·simp [Kd.beq, e1]
   ·rw [show (Kd.int .i64).beq x (a, v).1 = false from decide_eq_false e]
    show odef (@jo (Kd.int .i64) Kd.bool ((a, v) :: @gV (Kd.int .i64) Kd.bool r x true) y) false = _
    unfold jo at ih ⊢
    by_cases e1 : y = a
    ·subst e1
     simp [Kd.beq, Ne.symm e]
    ·simp only [List.find?_cons, Kd.beq, decide_eq_false e1]
     exact ih
theorem zP (l : List Int) (y : Int) : ∀ k, odef (@jo (Kd.int .i64) Kd.bool (zp l k) y) false = true ↔ ∃ j : Nat, j < k ∧ gi l (j : Int) = y
 | 0 => by
   show false = true ↔ _
   exact ⟨fun h => absurd h (by decide), fun ⟨j, h, _⟩ => absurd h (by omega)⟩
 | k + 1 => by
   show odef (@jo (Kd.int .i64) Kd.bool (@gV (Kd.int .i64) Kd.bool (zp l k) (gi l (k : Int)) true) y) false = true ↔ _
   rw [RQ, Bool.or_eq_true, decide_eq_true_eq, zP l y k]
   constructor
   ·rintro (h | ⟨j, h1, h2⟩)
    ·exact ⟨k, by omega, h.symm⟩
    ·exact ⟨j, by omega, h2⟩
   ·rintro ⟨j, h1, h2⟩
    by_cases e : j = k
    ·subst e
     exact .inl h2.symm
    ·exact .inr ⟨j, by omega, h2⟩
theorem qdw (l : List Int) (hl : l.length ≤ 1000) : Jc l = some (decide (¬ l.Nodup)) := by
 unfold Jc
 obtain ⟨h1, h2⟩ := qK (T := gtwice.lr3.T) (fun k => ((l, (qh l, ((k : Int), ()))), (zp l k, ()))) (fun i => ∀ j : Nat, j < i → gi l (i : Int) ≠ gi l (j : Int)) (.inl ((true, ()), ())) (.inr ((), ())) l.length (by omega)
  (fun i hi hg rec => by
   unfold gtwice.lr3.T
   dsimp only
   have : odef (@jo (Kd.int .i64) Kd.bool (zp l i) (gi l (i : Int))) false = false := by
    cases h : odef (@jo (Kd.int .i64) Kd.bool (zp l i) (gi l (i : Int))) false with
    | false => rfl
    | true =>
      obtain ⟨j, h1, h2⟩ := (zP l _ i).1 h
      exact absurd h2.symm (hg j h1)
   rw [qk (qp.2 hi), qm (by omega) (by omega), qg, this, qz rfl, qH (by omega)]
   rfl)
  (fun i hi hg rec => by
   unfold gtwice.lr3.T
   dsimp only
   have : odef (@jo (Kd.int .i64) Kd.bool (zp l i) (gi l (i : Int))) false = true := by
    rw [zP]
    obtain ⟨j, hj⟩ := Classical.not_forall.1 hg
    obtain ⟨h1, h2⟩ := Classical.not_imp.1 hj
    exact ⟨j, h1, (Classical.not_not.1 h2).symm⟩
   rw [qk (qp.2 hi), qm (by omega) (by omega), qg, this, qy rfl])
  (fun rec => by
   unfold gtwice.lr3.T
   dsimp only
   rw [qu (by rw [qp]; omega)])
 by_cases hn : l.Nodup
 ·rw [decide_eq_false (fun h => h hn)]
  rw [show qr gtwice.lr3.T qn ((l, (qh l, ((0 : Int), ()))), (([] : Uw), ())) = _ from h1 (Zk.2 hn)]
  rfl
 ·rw [decide_eq_true hn]
  rw [show qr gtwice.lr3.T qn ((l, (qh l, ((0 : Int), ()))), (([] : Uw), ())) = _ from h2 (fun h => hn (Zk.1 h))]
  rfl
theorem jw (a b : List Int) (ha : a.length ≤ 1000) (hb : b.length ≤ 1000) : jH [a, b] = some (a ++ b) := by
 unfold jH
 have e1 : qr iconcat.lr3.T qn ((([a, b], ((0 : Int), ([a, b], (qh [a, b], ((0 : Int), ()))))), ())) = some ((([a, b], (((a.length + b.length : Nat) : Int), ())), ())) := by
  refine qG (T := iconcat.lr3.T) (fun k => (([a, b], (((if k = 0 then 0 else if k = 1 then a.length else a.length + b.length : Nat) : Int), ([a, b], (qh [a, b], ((k : Int), ()))))), ())) _ 2 (by omega) ?_ ?_
  ·intro i hi rec
   have h2 : qh [a, b] = 2 := rfl
   have h01 : i = 0 ∨ i = 1 := by omega
   rcases h01 with rfl | rfl
   ·unfold iconcat.lr3.T
    dsimp only
    have hw : wrap .i64 (iadd (((if (0:Nat) = 0 then 0 else if (0:Nat) = 1 then a.length else a.length + b.length : Nat) : Int)) (qh a)) = ((a.length : Nat) : Int) := by
     show wrap .i64 (((0 : Nat) : Int) + qh a) = _
     rw [ilen_eq, qO (by omega) (by omega)]
     omega
    rw [qk (by rw [h2]; omega), show lget [a, b] ((0 : Nat) : Int) = some a from rfl, qg, hw, qu (by omega), qH (by omega)]
    rfl
   ·unfold iconcat.lr3.T
    dsimp only
    have hw : wrap .i64 (iadd (((if (1:Nat) = 0 then 0 else if (1:Nat) = 1 then a.length else a.length + b.length : Nat) : Int)) (qh b)) = ((a.length + b.length : Nat) : Int) := by
     show wrap .i64 (((a.length : Nat) : Int) + qh b) = _
     rw [ilen_eq, qO (by omega) (by omega)]
     omega
    rw [qk (by rw [h2]; omega), show lget [a, b] ((1 : Nat) : Int) = some b from rfl, qg, hw, qu (by omega), qH (by omega)]
    rfl
  ·intro rec
   unfold iconcat.lr3.T
   dsimp only
   rw [qu (by show ¬ ((2 : Nat) : Int) < 2; omega)]
   rfl
 have e2 : qr iconcat.lr11.T qn ((([a, b], (qh [a, b], ((0 : Int), ()))), (([] : List Int), ()))) = some (((), (a ++ b, ()))) := by
  refine qG (T := iconcat.lr11.T) (fun k => (([a, b], (qh [a, b], ((k : Int), ()))), ((if k = 0 then [] else if k = 1 then a else a ++ b), ()))) _ 2 (by omega) ?_ ?_
  ·intro i hi rec
   have h2 : qh [a, b] = 2 := rfl
   have h01 : i = 0 ∨ i = 1 := by omega
   rcases h01 with rfl | rfl
   ·unfold iconcat.lr11.T
    dsimp only
    rw [qk (by rw [h2]; omega), show lget [a, b] ((0 : Nat) : Int) = some a from rfl, qg, if_pos rfl, qk (by rw [ilen_eq, ilen_eq]; show (((0 : Nat) : Int) + (a.length : Int)) * 8 < _; omega), qH (by omega)]
    rfl
   ·unfold iconcat.lr11.T
    dsimp only
    rw [qk (by rw [h2]; omega), show lget [a, b] ((1 : Nat) : Int) = some b from rfl, qg, if_neg (by decide), if_pos rfl, qk (by rw [ilen_eq, ilen_eq]; show ((a.length : Int) + (b.length : Int)) * 8 < _; omega), qH (by omega)]
    rfl
  ·intro rec
   unfold iconcat.lr11.T
   dsimp only
   rw [qu (by show ¬ ((2 : Nat) : Int) < 2; omega)]
   rfl
 rw [e1, qg]
 dsimp only
 have hw : wrap .i64 (isub (((a.length + b.length : Nat) : Int)) 0) = ((a.length + b.length : Nat) : Int) := by
  show wrap .i64 (((a.length + b.length : Nat) : Int) - 0) = _
  rw [qO (by omega) (by omega)]
  omega
 rw [qu (by omega), hw, e2]
 by_cases h0 : (0 : Int) < ((a.length + b.length : Nat) : Int)
 ·rw [qk h0, qB (by omega), qk (by show (((a.length + b.length : Nat) : Int)) * 8 < _; omega)]
  rfl
 ·rw [qu h0]
  rfl
theorem gtr2 (w : World) (c : Cmd) (l : List Int) (hl : l.length ≤ 1000) (ll : List (List Int)) :
  ((∀ x ∈ l, vx w x) → qr gtrade.l1.T qn (((l, (qh l, ((0 : Int), ()))), (wTo w, (kTo c, (z3, (ll, ())))))) = some (.inr ((), (wTo w, (kTo c, (z3, (ll, ()))))))) ∧
  ((¬ ∀ x ∈ l, vx w x) → ∃ i : Nat, i < l.length ∧ qr gtrade.l1.T qn (((l, (qh l, ((0 : Int), ()))), (wTo w, (kTo c, (z3, (ll, ())))))) = some (.inl (((i : Int), ()), (wTo w, (kTo c, (z3, (ll, ()))))))) := by
 rw [← vu]
 refine Vs (T := gtrade.l1.T) (fun i => (((l, (qh l, ((i : Int), ()))), (wTo w, (kTo c, (z3, (ll, ())))))) ) (fun i => vx w (gi l (i : Int))) (fun i => .inl (((i : Int), ()), (wTo w, (kTo c, (z3, (ll, ())))))) (.inr ((), (wTo w, (kTo c, (z3, (ll, ())))))) l.length (by omega) ?_ ?_ ?_
 ·intro i hi hg rec
  unfold gtrade.l1.T
  simp only [wTo, kTo, z3]
  rw [qk (qp.2 hi), qm (by omega) (by omega), qg, JQ, qbc, qg, qv, if_pos (show 0 ≤ gi l (i : Int) ∧ gi l (i : Int) < (w.where_.length : Int) from hg), qH (by omega)]
 ·intro i hi hg rec
  unfold gtrade.l1.T
  simp only [wTo, kTo, z3]
  rw [qk (qp.2 hi), qm (by omega) (by omega), qg, JQ, qbc, qg, qv, if_neg (show ¬ (0 ≤ gi l (i : Int) ∧ gi l (i : Int) < (w.where_.length : Int)) from hg)]
 ·intro rec
  unfold gtrade.l1.T
  simp only [wTo, kTo, z3]
  rw [qu (by rw [qp]; omega)]
theorem gtr2n1 (w : World) (c : Cmd) (l : List Int) (hl : l.length ≤ 1000) (hin : ∀ x ∈ l, vx w x) (p : Int) :
  ((∀ x ∈ l, upW w.where_ x.toNat = ⟨1, p⟩) → qr gtrade.l3.T qn (((l, (qh l, ((0 : Int), ()))), (wTo w, (kTo c, (z3, ((p, ()), ())))))) = some (.inr ((), (wTo w, (kTo c, (z3, ((p, ()), ()))))))) ∧
  ((¬ ∀ x ∈ l, upW w.where_ x.toNat = ⟨1, p⟩) → ∃ i : Nat, i < l.length ∧ qr gtrade.l3.T qn (((l, (qh l, ((0 : Int), ()))), (wTo w, (kTo c, (z3, ((p, ()), ())))))) = some (.inl (((i : Int), ()), (wTo w, (kTo c, (z3, ((p, ()), ()))))))) := by
 rw [← vu] at hin ⊢
 refine Vs (T := gtrade.l3.T) (fun i => (((l, (qh l, ((i : Int), ()))), (wTo w, (kTo c, (z3, ((p, ()), ())))))) ) (fun i => upW w.where_ (gi l (i : Int)).toNat = ⟨1, p⟩) (fun i => .inl (((i : Int), ()), (wTo w, (kTo c, (z3, ((p, ()), ())))))) (.inr ((), (wTo w, (kTo c, (z3, ((p, ()), ())))))) l.length (by omega) ?_ ?_ ?_
 ·intro i hi hg rec
  unfold gtrade.l3.T j5
  simp only [wTo, kTo, z3]
  have hx := hin i hi
  rw [qk (qp.2 hi), qm (by omega) (by omega), qg, jv hx.1 hx.2]
  simp only [qg]
  rw [qU _ ⟨1, p⟩, qv, if_pos hg, qH (by omega)]
 ·intro i hi hg rec
  unfold gtrade.l3.T j5
  simp only [wTo, kTo, z3]
  have hx := hin i hi
  rw [qk (qp.2 hi), qm (by omega) (by omega), qg, jv hx.1 hx.2]
  simp only [qg]
  rw [qU _ ⟨1, p⟩, qv, if_neg hg]
 ·intro rec
  unfold gtrade.l3.T
  simp only [wTo, kTo, z3]
  rw [qu (by rw [qp]; omega)]
theorem gtr2n2 (w : World) (c : Cmd) (l : List Int) (hl : l.length ≤ 1000) (hin : ∀ x ∈ l, vx w x) (p q : Int) :
  ((∀ x ∈ l, upW w.where_ x.toNat = ⟨1, q⟩) → qr gtrade.l2.T qn (((l, (qh l, ((0 : Int), ()))), (wTo w, (kTo c, (z3, ((p, ()), ((q, ()), ()))))))) = some (.inr ((), (wTo w, (kTo c, (z3, ((p, ()), ((q, ()), ())))))))) ∧
  ((¬ ∀ x ∈ l, upW w.where_ x.toNat = ⟨1, q⟩) → ∃ i : Nat, i < l.length ∧ qr gtrade.l2.T qn (((l, (qh l, ((0 : Int), ()))), (wTo w, (kTo c, (z3, ((p, ()), ((q, ()), ()))))))) = some (.inl (((i : Int), ()), (wTo w, (kTo c, (z3, ((p, ()), ((q, ()), ())))))))) := by
 rw [← vu] at hin ⊢
 refine Vs (T := gtrade.l2.T) (fun i => (((l, (qh l, ((i : Int), ()))), (wTo w, (kTo c, (z3, ((p, ()), ((q, ()), ()))))))) ) (fun i => upW w.where_ (gi l (i : Int)).toNat = ⟨1, q⟩) (fun i => .inl (((i : Int), ()), (wTo w, (kTo c, (z3, ((p, ()), ((q, ()), ()))))))) (.inr ((), (wTo w, (kTo c, (z3, ((p, ()), ((q, ()), ()))))))) l.length (by omega) ?_ ?_ ?_
 ·intro i hi hg rec
  unfold gtrade.l2.T j5
  simp only [wTo, kTo, z3]
  have hx := hin i hi
  rw [qk (qp.2 hi), qm (by omega) (by omega), qg, jv hx.1 hx.2]
  simp only [qg]
  rw [qU _ ⟨1, q⟩, qv, if_pos hg, qH (by omega)]
 ·intro i hi hg rec
  unfold gtrade.l2.T j5
  simp only [wTo, kTo, z3]
  have hx := hin i hi
  rw [qk (qp.2 hi), qm (by omega) (by omega), qg, jv hx.1 hx.2]
  simp only [qg]
  rw [qU _ ⟨1, q⟩, qv, if_neg hg]
 ·intro rec
  unfold gtrade.l2.T
  simp only [wTo, kTo, z3]
  rw [qu (by rw [qp]; omega)]
theorem gtr22 (w : World) (c : Cmd) (l : List Int) (hl : l.length ≤ 1000) (p q : Int) (A B : List Int) (ws : List Place) (hin : ∀ x ∈ l, 0 ≤ x ∧ x < (ws.length : Int)) :
  qr gtrade.lr22.T qn (((p, (q, (l, (qh l, ((0 : Int), ()))))), (kTo c, (z3, (A, (B, (ws, (dTo w.desc, ())))))))) = some (((p, ()), (kTo c, (z3, (A, (B, (pkW ws l ⟨1, q⟩ l.length, (dTo w.desc, ())))))))) := by
 rw [← vu] at hin
 refine qG (T := gtrade.lr22.T) (fun i => (((p, (q, (l, (qh l, ((i : Int), ()))))), (kTo c, (z3, (A, (B, (pkW ws l ⟨1, q⟩ i, (dTo w.desc, ())))))))) ) _ l.length (by omega) ?_ ?_
 ·intro i hi rec
  unfold gtrade.lr22.T j5
  simp only [kTo, z3, dTo]
  have hx := hin i hi
  rw [qk (qp.2 hi), qm (by omega) (by omega)]
  simp only [qg]
  rw [qB hx.1, qk (by rw [ilen_eq, Q6]; exact hx.2), jv hx.1 (by rw [Q6]; exact hx.2), qg, qH (by omega)]
  rfl
 ·intro rec
  unfold gtrade.lr22.T
  simp only [kTo, z3, dTo]
  rw [qu (by rw [qp]; omega)]
theorem gtr27 (w : World) (l : List Int) (hl : l.length ≤ 1000) (p : Int) (A B : List Int) (ws : List Place) (hin : ∀ x ∈ l, 0 ≤ x ∧ x < (ws.length : Int)) :
  qr gtrade.lr27.T qn (((p, (l, (qh l, ((0 : Int), ())))), (z3, (A, (B, (ws, (dTo w.desc, ()))))))) = some (((), (z3, (A, (B, (pkW ws l ⟨1, p⟩ l.length, (dTo w.desc, ()))))))) := by
 rw [← vu] at hin
 refine qG (T := gtrade.lr27.T) (fun i => (((p, (l, (qh l, ((i : Int), ())))), (z3, (A, (B, (pkW ws l ⟨1, p⟩ i, (dTo w.desc, ()))))))) ) _ l.length (by omega) ?_ ?_
 ·intro i hi rec
  unfold gtrade.lr27.T j5
  simp only [kTo, z3, dTo]
  have hx := hin i hi
  rw [qk (qp.2 hi), qm (by omega) (by omega)]
  simp only [qg]
  rw [qB hx.1, qk (by rw [ilen_eq, Q6]; exact hx.2), jv hx.1 (by rw [Q6]; exact hx.2), qg, qH (by omega)]
  rfl
 ·intro rec
  unfold gtrade.lr27.T
  simp only [kTo, z3, dTo]
  rw [qu (by rw [qp]; omega)]
end Go.Sx
