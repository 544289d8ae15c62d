/-
  Worlds: things put to places, room (plain).
-/
import Derived.Test.YtcpabdpbldmmmaaGreatDoorLyTf
import Derived.Test.YtcpabdpbldmmmaaGreatDoorLyB
set_option linter.unusedVariables false
set_option linter.unusedSimpArgs false
namespace Go.Sx
open Go Go.Proofs
theorem UK {α β : Type} {l : List β} {x y : α} (h : l.length ≤ 1000) : cnd (ilt (imul (iadd 0 (qh l)) 8) 140737488355329) x y = x := qn (by rw [ilen_eq]; show (0 + (l.length : Int)) * 8 < _; omega)
theorem qef {α β : Type} {l : List β} {x y : α} (h : l.length ≤ 1000) : cnd (ilt (imul (iadd 0 (qh l)) 16) 140737488355329) x y = x := qn (by rw [ilen_eq]; show (0 + (l.length : Int)) * 16 < _; omega)
theorem z5 (l : List Int) (h : l.length ≤ 1000) : qo l = some l := by
 unfold qo
 rw [UK h]
 cases l with
 | nil => rw [qw (by rw [ilen_eq]; simp), jQ]
 | cons a r => rw [qn (by rw [ilen_eq]; simp)]
theorem J1 (l : List Place) (h : l.length ≤ 1000) : q6 l = some l := by
 unfold q6
 rw [qef h]
 cases l with
 | nil => rw [qw (by rw [ilen_eq]; simp), jQ]
 | cons a r => rw [qn (by rw [ilen_eq]; simp)]
structure SmallW (w : World) : Prop where
 at_ : w.at_.length ≤ 1000
 coins : w.coins.length ≤ 1000
 where_ : w.where_.length ≤ 1000
theorem RightP.small {w : World} (h : RightP w) : SmallW w := by
 have := h.may.players.2
 have := h.may.items
 have := h.at_len
 have := h.coins_len
 have := h.where_len
 exact ⟨by omega, by omega, by omega⟩
def toP (w : World) (i : Int) (p : Place) : World := ⟨w.desc, w.at_, w.coins, lset w.where_ i p⟩
theorem qi3 {w : World} (hs : SmallW w) {i : Int} (h0 : 0 ≤ i) (h1 : i < (w.where_.length : Int)) (p : Place) : JV w i p = some (toP w i p) := by
 unfold JV
 rw [UK hs.at_, UK hs.coins, qef hs.where_, qC h0, qn (by rw [ilen_eq]; exact h1), jh h0 h1]
 rfl
theorem hto_eq {w : World} (hs : SmallW w) {i : Int} (h0 : 0 ≤ i) (h1 : i < (w.where_.length : Int)) (p : Place) : KP w i p = some (toP w i p) := by
 unfold KP
 simp only [z5 _ hs.at_, z5 _ hs.coins, J1 _ hs.where_, jQ, qg]
 rw [qC h0, qn (by rw [ilen_eq]; exact h1), jh h0 h1]
 rfl
def jp (w : World) (p : Place) : Int := capW w p.kind - (manyW w.where_ p : Int)
theorem Qj {w : World} (h : RightP w) (k : Int) : 0 ≤ capW w k ∧ capW w k < 65 := by
 obtain ⟨h1, h2, h3⟩ := h.may.caps
 unfold capW
 split
 ·exact h1
 split
 ·exact h2
 ·exact h3
theorem Z1 {w : World} (hc : ∀ k, 0 ≤ capW w k ∧ capW w k < 65) (hs : SmallW w) {p : Place} (h0 : 0 ≤ p.kind) (h1 : p.kind < 3) : jO w p = some (jp w p) := by
 unfold jO
 rw [D1 w p h0 h1, qg, Ub w p hs.where_, qg]
 have := hc p.kind
 have := DD w.where_ p
 have := hs.where_
 have e : wrap .i64 (isub (capW w p.kind) (manyW w.where_ p : Int)) = capW w p.kind - (manyW w.where_ p : Int) := qV (n := capW w p.kind - (manyW w.where_ p : Int)) (by omega) (by omega)
 rw [e]
 rfl
def inL (ws : List Place) (p : Place) (i : Nat) : List Int := ((List.range i).filter fun (k : Nat) => decide (upW ws k = p)).map fun (k : Nat) => (k : Int)
theorem NM (ws : List Place) (p : Place) (i : Nat) : inL ws p (i + 1) = if upW ws i = p then inL ws p i ++ [(i : Int)] else inL ws p i := by
 unfold inL
 rw [List.range_succ, List.filter_append, List.map_append]
 by_cases h : upW ws i = p <;> simp [h]
theorem qd9 (ws : List Place) (p : Place) : ∀ i, i ≤ ws.length → (inL ws p i).length = manyW (ws.take i) p
 | 0, _ => by simp [inL, manyW]
 | i + 1, h => by
   rw [NM, Bp ws p i (by omega)]
   have := qd9 ws p i (by omega)
   rw [zO (show i < ws.length by omega)]
   by_cases e : ws[i] = p
   ·rw [if_pos e, if_pos e, List.length_append, this]; rfl
   ·rw [if_neg e, if_neg e, this]; rfl
theorem tin_eq (w : World) (p : Place) (hs : w.where_.length ≤ 1000) : tinF w p = some (inL w.where_ p w.where_.length) := by
 unfold tinF
 have e := qJ (T := tin.lr3.T) (fun i => ((w.where_, (qh w.where_, ((i : Int), ()))), ((p.kind, (p.id, ())), (inL w.where_ p i, ())))) ((), (inL w.where_ p w.where_.length, ())) w.where_.length (by omega) ?_ ?_
 ·rw [show qt tin.lr3.T ql ((w.where_, (qh w.where_, ((0 : Int), ()))), ((p.kind, (p.id, ())), (([] : List Int), ()))) = _ from e]
  rfl
 ·intro i hi rec
  have hl : lget w.where_ (i : Int) = some w.where_[i] := qS hi
  have hn : (inL w.where_ p i).length ≤ i := by
   have := List.length_filter_le (fun (k : Nat) => decide (upW w.where_ k = p)) (List.range i)
   rw [List.length_range] at this
   unfold inL
   rw [List.length_map]
   exact this
  unfold tin.lr3.T
  simp only []
  rw [qn (by rw [ilen_eq]; omega), hl, qg, qK (by omega), NM, zO hi]
  have hpe : band (ieq p.kind (w.where_[i]).kind) (ieq p.id (w.where_[i]).id) = decide (w.where_[i] = p) := by
   rw [← qX]
   show (decide (p.kind = _) && decide (p.id = _)) = (decide (_ = p.kind) && decide (_ = p.id))
   rw [decide_eq_decide.2 (show p.kind = (w.where_[i]).kind ↔ (w.where_[i]).kind = p.kind from eq_comm), decide_eq_decide.2 (show p.id = (w.where_[i]).id ↔ (w.where_[i]).id = p.id from eq_comm)]
  rw [hpe]
  by_cases h : w.where_[i] = p
  ·rw [q7 (decide_eq_true h), qn (by rw [ilen_eq]; show (((inL w.where_ p i).length : Int) + 1) * 8 < _; omega), if_pos h]
  ·rw [q8 (decide_eq_false h), if_neg h]
 ·intro rec
  unfold tin.lr3.T
  simp only []
  rw [qw (by rw [ilen_eq]; omega)]
theorem GI {w : World} (hc : ∀ k, 0 ≤ capW w k ∧ capW w k < 65) (hs : SmallW w) {p : Place} (h0 : 0 ≤ p.kind) (h1 : p.kind < 3) : zi w p = some (jp w p) := by
 unfold zi
 rw [qC h0, qn h1, tin_eq w p hs.where_, qg]
 have hl : qh (inL w.where_ p w.where_.length) = (manyW w.where_ p : Int) := by
  rw [ilen_eq, qd9 _ _ _ (Nat.le_refl _), List.take_of_length_le (Nat.le_refl _)]
 have hcap : jU ([w.desc.room, w.desc.player, w.desc.box] : List Int) p.kind = capW w p.kind := by
  rcases three h0 h1 with h | h | h <;> rw [h] <;> rfl
 rw [hl, hcap]
 have := hc p.kind
 have := DD w.where_ p
 have := hs.where_
 have e : wrap .i64 (isub (capW w p.kind) (manyW w.where_ p : Int)) = capW w p.kind - (manyW w.where_ p : Int) := qV (n := capW w p.kind - (manyW w.where_ p : Int)) (by omega) (by omega)
 rw [e]
 rfl
theorem qdr {w : World} (h : RightP w) (p : Place) : 0 ≤ jp w p := by
 unfold jp
 by_cases hp : p ∈ w.where_
 ·have := h.many p hp
  omega
 ·have : manyW w.where_ p = 0 := by
   unfold manyW
   rw [List.countP_eq_zero]
   intro x hx
   simp
   rintro rfl
   exact hp hx
  rw [this]
  have := (Qj h p.kind).1
  omega
def vo (l : List Int) (r : Int) (i : Nat) : List Int := ((List.range i).filter fun (k : Nat) => decide (gi l (k : Int) = r)).map fun (k : Nat) => (k : Int)
theorem Ul (l : List Int) (r : Int) (i : Nat) : vo l r (i + 1) = if gi l (i : Int) = r then vo l r i ++ [(i : Int)] else vo l r i := by
 unfold vo
 rw [List.range_succ, List.filter_append, List.map_append]
 by_cases h : gi l (i : Int) = r <;> simp [h]
theorem KD (l : List Int) (r : Int) (i : Nat) : (vo l r i).length ≤ i := by
 have := List.length_filter_le (fun (k : Nat) => decide (gi l (k : Int) = r)) (List.range i)
 rw [List.length_range] at this
 unfold vo
 rw [List.length_map]
 exact this
theorem qi8 (w : World) (r : Int) (hs : w.at_.length ≤ 1000) : K4 w r = some (vo w.at_ r w.at_.length) := by
 unfold K4
 have e := qJ (T := rpres.lr3.T) (fun i => ((r, ((i : Int), ())), (wTo w, (vo w.at_ r i, ())))) ((), (vo w.at_ r w.at_.length, ())) w.at_.length (by omega) ?_ ?_
 ·rw [show qt rpres.lr3.T ql ((r, ((0 : Int), ())), (wTo w, (([] : List Int), ()))) = _ from e]
  rfl
 ·intro i hi rec
  have hl : lget w.at_ (i : Int) = some (gi w.at_ (i : Int)) := qm (by omega) (by omega)
  have hn := KD w.at_ r i
  unfold rpres.lr3.T
  simp only [wTo]
  rw [qn (by rw [ilen_eq]; omega), hl, qg, qK (by omega), Ul]
  by_cases h : gi w.at_ (i : Int) = r
  ·rw [qQ h, qn (by rw [ilen_eq]; show (((vo w.at_ r i).length : Int) + 1) * 8 < _; omega), if_pos h]
  ·rw [qL h, if_neg h]
 ·intro rec
  unfold rpres.lr3.T
  simp only [wTo]
  rw [qw (by rw [ilen_eq]; omega)]
theorem qiv (w : World) (r : Int) (hs : w.at_.length ≤ 1000) : Ky w r = some (vo w.at_ r w.at_.length) := by
 unfold Ky
 have e := qJ (T := spres.lr3.T) (fun i => ((r, (qh w.at_, ((i : Int), ()))), (wTo w, (vo w.at_ r i, ())))) ((), (vo w.at_ r w.at_.length, ())) w.at_.length (by omega) ?_ ?_
 ·rw [show qt spres.lr3.T ql ((r, (qh w.at_, ((0 : Int), ()))), (wTo w, (([] : List Int), ()))) = _ from e]
  rfl
 ·intro i hi rec
  have hl : lget w.at_ (i : Int) = some (gi w.at_ (i : Int)) := qm (by omega) (by omega)
  have hn := KD w.at_ r i
  unfold spres.lr3.T
  simp only [wTo]
  rw [qn (by rw [ilen_eq]; omega), hl, qg, qK (by omega), Ul]
  by_cases h : gi w.at_ (i : Int) = r
  ·rw [qQ h, qn (by rw [ilen_eq]; show (((vo w.at_ r i).length : Int) + 1) * 8 < _; omega), if_pos h]
  ·rw [qL h, if_neg h]
 ·intro rec
  unfold spres.lr3.T
  simp only [wTo]
  rw [qw (by rw [ilen_eq]; omega)]
end Go.Sx
