/-
  Worlds: what the document's words come to (plain).
-/
import Derived.Test.YtcpabdpbldmmmaaGreatDoorLyA
import Derived.Test.YtcpabdpbldmmmaaGreatDoorSxBaseD
set_option linter.unusedVariables false
set_option linter.unusedSimpArgs false
namespace Go.Sx
open Go Go.Proofs
theorem Zq {X O : Type} {T : (X → Option O) → X → Option O} (st : Nat → X) (ex : Nat → Option O) (fin : O) (n : Nat)
  (hT : ∀ i, i < n → ∀ rec, T rec (st i) = (match ex i with | some o => some o | none => rec (st (i + 1)))) (hF : ∀ rec, T rec (st n) = some fin) :
  ∀ (d L k : Nat), k + d = n → d < L → qr T L (st k) = some (((List.range' k d).findSome? ex).getD fin)
 | 0, 0, _, _, h => by omega
 | 0, L + 1, k, hk, _ => by
   have : k = n := by omega
   subst this
   exact hF _
 | d + 1, 0, _, _, h => by omega
 | d + 1, L + 1, k, hk, h => by
   show T (qr T L) (st k) = _
   rw [hT k (by omega), List.range'_succ, List.findSome?_cons]
   cases ex k with
   | some o => rfl
   | none =>
     simp only
     exact Zq st ex fin n hT hF d L (k + 1) (by omega) (by omega)
theorem kp {X O : Type} {T : (X → Option O) → X → Option O} (st : Nat → X) (ex : Nat → Option O) (fin : O) (n : Nat) (hn : n < 18446744073709551616)
  (hT : ∀ i, i < n → ∀ rec, T rec (st i) = (match ex i with | some o => some o | none => rec (st (i + 1)))) (hF : ∀ rec, T rec (st n) = some fin) :
  qr T qn (st 0) = some (((List.range n).findSome? ex).getD fin) := by
 rw [List.range_eq_range']
 exact Zq st ex fin n hT hF n qn 0 (by omega) hn
theorem qG {X O : Type} {T : (X → Option O) → X → Option O} (st : Nat → X) (fin : O) (n : Nat) (hn : n < 18446744073709551616)
  (hT : ∀ i, i < n → ∀ rec, T rec (st i) = rec (st (i + 1))) (hF : ∀ rec, T rec (st n) = some fin) : qr T qn (st 0) = some fin := by
 rw [kp st (fun _ => none) fin n hn hT hF, (List.findSome?_eq_none_iff).2 (fun _ _ => rfl)]
 rfl
open Classical in
theorem qg1 {X O : Type} {T : (X → Option O) → X → Option O} (st : Nat → X) (good : Nat → Prop) (bad fin : O) (n : Nat) (hn : n < 18446744073709551616)
  (hG : ∀ i, i < n → good i → ∀ rec, T rec (st i) = rec (st (i + 1))) (hB : ∀ i, i < n → ¬ good i → ∀ rec, T rec (st i) = some bad) (hF : ∀ rec, T rec (st n) = some fin) :
  qr T qn (st 0) = some (if ∀ i, i < n → good i then fin else bad) := by
 rw [kp st (fun i => if good i then none else some bad) fin n hn (fun i hi rec => ?_) hF]
 ·by_cases h : ∀ i, i < n → good i
  ·rw [if_pos h, (List.findSome?_eq_none_iff).2 (fun i hi => if_pos (h i (List.mem_range.1 hi)))]
   rfl
  ·rw [if_neg h]
   obtain ⟨i, hi⟩ := Classical.not_forall.1 h
   obtain ⟨hi, hg⟩ := Classical.not_imp.1 hi
   have : ((List.range n).findSome? fun i => if good i then none else some bad).isSome = true := by
    rw [List.findSome?_isSome_iff]
    exact ⟨i, List.mem_range.2 hi, by rw [if_neg hg]; rfl⟩
   obtain ⟨o, ho⟩ := Option.isSome_iff_exists.1 this
   rw [ho]
   obtain ⟨j, _, hj⟩ := List.exists_of_findSome?_eq_some ho
   split at hj
   ·cases hj
   ·cases hj
    rfl
 ·by_cases h : good i
  ·rw [if_pos h]; exact hG i hi h rec
  ·rw [if_neg h]; exact hB i hi h rec
theorem qK {X O : Type} {T : (X → Option O) → X → Option O} (st : Nat → X) (good : Nat → Prop) (bad fin : O) (n : Nat) (hn : n < 18446744073709551616)
  (hG : ∀ i, i < n → good i → ∀ rec, T rec (st i) = rec (st (i + 1))) (hB : ∀ i, i < n → ¬ good i → ∀ rec, T rec (st i) = some bad) (hF : ∀ rec, T rec (st n) = some fin) :
  ((∀ i, i < n → good i) → qr T qn (st 0) = some fin) ∧ ((¬ ∀ i, i < n → good i) → qr T qn (st 0) = some bad) := by
 have := qg1 st good bad fin n hn hG hB hF
 exact ⟨fun h => by rw [this, if_pos h], fun h => by rw [this, if_neg h]⟩
theorem qH {i : Nat} (h : i < 1000000000) : wrap .i64 (iadd (i : Int) 1) = ((i + 1 : Nat) : Int) := by
 show wrap .i64 ((i : Int) + 1) = _
 rw [qO (by omega) (by omega)]
 omega
theorem qk {α : Type} {a b : Int} {x y : α} (h : a < b) : cnd (ilt a b) x y = x := qy (decide_eq_true h)
theorem qu {α : Type} {a b : Int} {x y : α} (h : ¬ a < b) : cnd (ilt a b) x y = y := qz (decide_eq_false h)
theorem qB {α : Type} {a b : Int} {x y : α} (h : a ≤ b) : cnd (ile a b) x y = x := qy (decide_eq_true h)
theorem jG {α : Type} {a b : Int} {x y : α} (h : ¬ a ≤ b) : cnd (ile a b) x y = y := qz (decide_eq_false h)
theorem qM {α : Type} {a b : Int} {x y : α} (h : a = b) : cnd (ieq a b) x y = x := qy (decide_eq_true h)
theorem qI {α : Type} {a b : Int} {x y : α} (h : ¬ a = b) : cnd (ieq a b) x y = y := qz (decide_eq_false h)
theorem qp {α : Type} {l : List α} {i : Nat} : (i : Int) < qh l ↔ i < l.length := by rw [ilen_eq]; omega
theorem JQ (w : World) : wOf (w.desc.exits, w.desc.players, w.desc.coins, w.desc.items, w.desc.boxes, w.desc.room, w.desc.player, w.desc.box, w.at_, w.coins, w.where_, ()) = w := rfl
theorem JC (n : Int) : UB n = some (decide (0 ≤ n ∧ n ≤ 1073741824)) := by
 unfold UB
 by_cases h : 0 ≤ n
 ·rw [qB h]
  congr 1
  exact decide_eq_decide.2 ⟨fun h' => ⟨h, h'⟩, fun h' => h'.2⟩
 ·rw [jG h, decide_eq_false (fun h' => h h'.1)]
theorem jN (n m : Int) : gt n m = some (decide (0 ≤ n ∧ n < m)) := by
 unfold gt
 by_cases h : 0 ≤ n
 ·rw [qB h]
  congr 1
  exact decide_eq_decide.2 ⟨fun h' => ⟨h, h'⟩, fun h' => h'.2⟩
 ·rw [jG h, decide_eq_false (fun h' => h h'.1)]
def capW (w : World) (k : Int) : Int := if k = 0 then w.desc.room else if k = 1 then w.desc.player else w.desc.box
theorem three {k : Int} (h : 0 ≤ k) (h' : k < 3) : k = 0 ∨ k = 1 ∨ k = 2 := by omega
theorem Bx (w : World) (p : Place) (h0 : 0 ≤ p.kind) (h1 : p.kind < 3) : Gs w p = some (capW w p.kind) := by
 unfold Gs
 rw [qB h0, qk h1]
 rcases three h0 h1 with h | h | h <;> rw [h] <;> rfl
theorem qU (x p : Place) : band (ieq x.kind p.kind) (ieq x.id p.id) = decide (x = p) := by
 obtain ⟨a, b⟩ := x
 obtain ⟨c, d⟩ := p
 simp
theorem Ys (ws : List Place) (p : Place) (i : Nat) (h : i < ws.length) : manyW (ws.take (i + 1)) p = manyW (ws.take i) p + (if ws[i] = p then 1 else 0) := by
 rw [List.take_add_one, List.getElem?_eq_getElem h]
 simp only [manyW, Option.toList_some, List.countP_append, List.countP_cons, List.countP_nil, decide_eq_true_eq, Nat.zero_add]
theorem BB (ws : List Place) (p : Place) : manyW ws p ≤ ws.length := List.countP_le_length
theorem Gm (w : World) (p : Place) (hw : w.where_.length ≤ 1000) : JB w p = some (manyW w.where_ p : Int) := by
 unfold JB
 rw [show ((0 : Int), ((0 : Int), ())) = (((manyW (w.where_.take 0) p : Nat) : Int), (((0 : Nat) : Int), ())) from rfl,
  qG (fun i => (((((manyW (w.where_.take i) p : Nat) : Int), ((i : Int), ())), (wTo w, ((p.kind, (p.id, ())), ()))) : rmany.lr3.X)) (((((manyW w.where_ p : Nat) : Int), ()), ()) : rmany.lr3.O) w.where_.length (by omega)]
 ·rfl
 ·intro i hi rec
  unfold rmany.lr3.T
  have hl : lget w.where_ (i : Int) = some w.where_[i] := qP hi
  have hm := Ys w.where_ p i hi
  have hb := BB (w.where_.take i) p
  have hb2 := List.length_take_le i w.where_
  simp only [wTo]
  rw [qk (qp.2 hi), hl]
  simp only [qg]
  rw [qU, qH (i := i) (by omega)]
  by_cases e : w.where_[i] = p
  ·rw [qy (decide_eq_true e), qH (by omega), hm, if_pos e]
  ·rw [qz (decide_eq_false e), hm, if_neg e]
   rfl
 ·intro rec
  unfold rmany.lr3.T
  simp only [wTo]
  rw [qu (by rw [qp]; omega), List.take_of_length_le (Nat.le_refl _)]
end Go.Sx
