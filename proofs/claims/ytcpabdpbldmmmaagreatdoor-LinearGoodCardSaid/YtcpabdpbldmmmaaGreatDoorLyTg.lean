/-
  Worlds: things put to places, room (plain).
-/
import Derived.Test.YtcpabdpbldmmmaaGreatDoorLyTf
import Derived.Test.YtcpabdpbldmmmaaGreatDoorLyB
set_option linter.unusedVariables false
set_option linter.unusedSimpArgs false
namespace Go.Sx
open Go Go.Proofs
theorem DZ {α β : Type} {l : List β} {x y : α} (h : l.length ≤ 1000) : cnd (ilt (imul (iadd 0 (qh l)) 8) 140737488355329) x y = x := qm (by rw [ilen_eq]; show (0 + (l.length : Int)) * 8 < _; omega)
theorem qed {α β : Type} {l : List β} {x y : α} (h : l.length ≤ 1000) : cnd (ilt (imul (iadd 0 (qh l)) 16) 140737488355329) x y = x := qm (by rw [ilen_eq]; show (0 + (l.length : Int)) * 16 < _; omega)
theorem z6 (l : List Int) (h : l.length ≤ 1000) : qo l = some l := by
 unfold qo
 rw [DZ h]
 cases l with
 | nil => rw [qv (by rw [ilen_eq]; simp), zt]
 | cons a r => rw [qm (by rw [ilen_eq]; simp)]
theorem J2 (l : List Place) (h : l.length ≤ 1000) : qz l = some l := by
 unfold qz
 rw [qed h]
 cases l with
 | nil => rw [qv (by rw [ilen_eq]; simp), zt]
 | cons a r => rw [qm (by rw [ilen_eq]; simp)]
structure SmallW (w : World) : Prop where
 at_ : w.at_.length ≤ 1000
 coins : w.coins.length ≤ 1000
 where_ : w.where_.length ≤ 1000
theorem RightP.small {w : World} (h : RightP w) : SmallW w := by
 have := h.may.players.2
 have := h.may.items
 have := h.at_len
 have := h.coins_len
 have := h.where_len
 exact ⟨by omega, by omega, by omega⟩
def toP (w : World) (i : Int) (p : Place) : World := ⟨w.desc, w.at_, w.coins, lset w.where_ i p⟩
theorem qiz {w : World} (hs : SmallW w) {i : Int} (h0 : 0 ≤ i) (h1 : i < (w.where_.length : Int)) (p : Place) : JX w i p = some (toP w i p) := by
 unfold JX
 rw [DZ hs.at_, DZ hs.coins, qed hs.where_, qC h0, qm (by rw [ilen_eq]; exact h1), jf h0 h1]
 rfl
theorem hto_eq {w : World} (hs : SmallW w) {i : Int} (h0 : 0 ≤ i) (h1 : i < (w.where_.length : Int)) (p : Place) : KN w i p = some (toP w i p) := by
 unfold KN
 simp only [z6 _ hs.at_, z6 _ hs.coins, J2 _ hs.where_, zt, qg]
 rw [qC h0, qm (by rw [ilen_eq]; exact h1), jf h0 h1]
 rfl
def jo (w : World) (p : Place) : Int := capW w p.kind - (manyW w.where_ p : Int)
theorem Qm {w : World} (h : RightP w) (k : Int) : 0 ≤ capW w k ∧ capW w k < 65 := by
 obtain ⟨h1, h2, h3⟩ := h.may.caps
 unfold capW
 split
 ·exact h1
 split
 ·exact h2
 ·exact h3
theorem Z3 {w : World} (hc : ∀ k, 0 ≤ capW w k ∧ capW w k < 65) (hs : SmallW w) {p : Place} (h0 : 0 ≤ p.kind) (h1 : p.kind < 3) : jM w p = some (jo w p) := by
 unfold jM
 rw [Dz w p h0 h1, qg, GZ w p hs.where_, qg]
 have := hc p.kind
 have := DC w.where_ p
 have := hs.where_
 have e : wrap .i64 (isub (capW w p.kind) (manyW w.where_ p : Int)) = capW w p.kind - (manyW w.where_ p : Int) := qW (n := capW w p.kind - (manyW w.where_ p : Int)) (by omega) (by omega)
 rw [e]
 rfl
def inL (ws : List Place) (p : Place) (i : Nat) : List Int := ((List.range i).filter fun (k : Nat) => decide (upW ws k = p)).map fun (k : Nat) => (k : Int)
theorem NO (ws : List Place) (p : Place) (i : Nat) : inL ws p (i + 1) = if upW ws i = p then inL ws p i ++ [(i : Int)] else inL ws p i := by
 unfold inL
 rw [List.range_succ, List.filter_append, List.map_append]
 by_cases h : upW ws i = p <;> simp [h]
theorem qd8 (ws : List Place) (p : Place) : ∀ i, i ≤ ws.length → (inL ws p i).length = manyW (ws.take i) p
 | 0, _ => by simp [inL, manyW]
 | i + 1, h => by
   rw [NO, Bm ws p i (by omega)]
   have := qd8 ws p i (by omega)
   rw [zO (show i < ws.length by omega)]
   by_cases e : ws[i] = p
   ·rw [if_pos e, if_pos e, List.length_append, this]; rfl
   ·rw [if_neg e, if_neg e, this]; rfl
theorem tin_eq (w : World) (p : Place) (hs : w.where_.length ≤ 1000) : tinF w p = some (inL w.where_ p w.where_.length) := by
 unfold tinF
 have e := qJ (T := tin.lr3.T) (fun i => ((w.where_, (qh w.where_, ((i : Int), ()))), ((p.kind, (p.id, ())), (inL w.where_ p i, ())))) ((), (inL w.where_ p w.where_.length, ())) w.where_.length (by omega) ?_ ?_
 ·rw [show qr tin.lr3.T ql ((w.where_, (qh w.where_, ((0 : Int), ()))), ((p.kind, (p.id, ())), (([] : List Int), ()))) = _ from e]
  rfl
 ·intro i hi rec
  have hl : lget w.where_ (i : Int) = some w.where_[i] := qR hi
  have hn : (inL w.where_ p i).length ≤ i := by
   have := List.length_filter_le (fun (k : Nat) => decide (upW w.where_ k = p)) (List.range i)
   rw [List.length_range] at this
   unfold inL
   rw [List.length_map]
   exact this
  unfold tin.lr3.T
  simp only []
  rw [qm (by rw [ilen_eq]; omega), hl, qg, qI (by omega), NO, zO hi]
  have hpe : band (ieq p.kind (w.where_[i]).kind) (ieq p.id (w.where_[i]).id) = decide (w.where_[i] = p) := by
   rw [← qV]
   show (decide (p.kind = _) && decide (p.id = _)) = (decide (_ = p.kind) && decide (_ = p.id))
   rw [decide_eq_decide.2 (show p.kind = (w.where_[i]).kind ↔ (w.where_[i]).kind = p.kind from eq_comm), decide_eq_decide.2 (show p.id = (w.where_[i]).id ↔ (w.where_[i]).id = p.id from eq_comm)]
  rw [hpe]
  by_cases h : w.where_[i] = p
  ·rw [q6 (decide_eq_true h), qm (by rw [ilen_eq]; show (((inL w.where_ p i).length : Int) + 1) * 8 < _; omega), if_pos h]
  ·rw [q7 (decide_eq_false h), if_neg h]
 ·intro rec
  unfold tin.lr3.T
  simp only []
  rw [qv (by rw [ilen_eq]; omega)]
theorem GG {w : World} (hc : ∀ k, 0 ≤ capW w k ∧ capW w k < 65) (hs : SmallW w) {p : Place} (h0 : 0 ≤ p.kind) (h1 : p.kind < 3) : zg w p = some (jo w p) := by
 unfold zg
 rw [qC h0, qm h1, tin_eq w p hs.where_, qg]
 have hl : qh (inL w.where_ p w.where_.length) = (manyW w.where_ p : Int) := by
  rw [ilen_eq, qd8 _ _ _ (Nat.le_refl _), List.take_of_length_le (Nat.le_refl _)]
 have hcap : jS ([w.desc.room, w.desc.player, w.desc.box] : List Int) p.kind = capW w p.kind := by
  rcases three h0 h1 with h | h | h <;> rw [h] <;> rfl
 rw [hl, hcap]
 have := hc p.kind
 have := DC w.where_ p
 have := hs.where_
 have e : wrap .i64 (isub (capW w p.kind) (manyW w.where_ p : Int)) = capW w p.kind - (manyW w.where_ p : Int) := qW (n := capW w p.kind - (manyW w.where_ p : Int)) (by omega) (by omega)
 rw [e]
 rfl
theorem qdq {w : World} (h : RightP w) (p : Place) : 0 ≤ jo w p := by
 unfold jo
 by_cases hp : p ∈ w.where_
 ·have := h.many p hp
  omega
 ·have : manyW w.where_ p = 0 := by
   unfold manyW
   rw [List.countP_eq_zero]
   intro x hx
   simp
   rintro rfl
   exact hp hx
  rw [this]
  have := (Qm h p.kind).1
  omega
def vp (l : List Int) (r : Int) (i : Nat) : List Int := ((List.range i).filter fun (k : Nat) => decide (gi l (k : Int) = r)).map fun (k : Nat) => (k : Int)
theorem Uj (l : List Int) (r : Int) (i : Nat) : vp l r (i + 1) = if gi l (i : Int) = r then vp l r i ++ [(i : Int)] else vp l r i := by
 unfold vp
 rw [List.range_succ, List.filter_append, List.map_append]
 by_cases h : gi l (i : Int) = r <;> simp [h]
theorem KD (l : List Int) (r : Int) (i : Nat) : (vp l r i).length ≤ i := by
 have := List.length_filter_le (fun (k : Nat) => decide (gi l (k : Int) = r)) (List.range i)
 rw [List.length_range] at this
 unfold vp
 rw [List.length_map]
 exact this
theorem qi4 (w : World) (r : Int) (hs : w.at_.length ≤ 1000) : K3 w r = some (vp w.at_ r w.at_.length) := by
 unfold K3
 have e := qJ (T := rpres.lr3.T) (fun i => ((r, ((i : Int), ())), (wTo w, (vp w.at_ r i, ())))) ((), (vp w.at_ r w.at_.length, ())) w.at_.length (by omega) ?_ ?_
 ·rw [show qr rpres.lr3.T ql ((r, ((0 : Int), ())), (wTo w, (([] : List Int), ()))) = _ from e]
  rfl
 ·intro i hi rec
  have hl : lget w.at_ (i : Int) = some (gi w.at_ (i : Int)) := qn (by omega) (by omega)
  have hn := KD w.at_ r i
  unfold rpres.lr3.T
  simp only [wTo]
  rw [qm (by rw [ilen_eq]; omega), hl, qg, qI (by omega), Uj]
  by_cases h : gi w.at_ (i : Int) = r
  ·rw [qP h, qm (by rw [ilen_eq]; show (((vp w.at_ r i).length : Int) + 1) * 8 < _; omega), if_pos h]
  ·rw [qO h, if_neg h]
 ·intro rec
  unfold rpres.lr3.T
  simp only [wTo]
  rw [qv (by rw [ilen_eq]; omega)]
theorem qir (w : World) (r : Int) (hs : w.at_.length ≤ 1000) : Kx w r = some (vp w.at_ r w.at_.length) := by
 unfold Kx
 have e := qJ (T := spres.lr3.T) (fun i => ((r, (qh w.at_, ((i : Int), ()))), (wTo w, (vp w.at_ r i, ())))) ((), (vp w.at_ r w.at_.length, ())) w.at_.length (by omega) ?_ ?_
 ·rw [show qr spres.lr3.T ql ((r, (qh w.at_, ((0 : Int), ()))), (wTo w, (([] : List Int), ()))) = _ from e]
  rfl
 ·intro i hi rec
  have hl : lget w.at_ (i : Int) = some (gi w.at_ (i : Int)) := qn (by omega) (by omega)
  have hn := KD w.at_ r i
  unfold spres.lr3.T
  simp only [wTo]
  rw [qm (by rw [ilen_eq]; omega), hl, qg, qI (by omega), Uj]
  by_cases h : gi w.at_ (i : Int) = r
  ·rw [qP h, qm (by rw [ilen_eq]; show (((vp w.at_ r i).length : Int) + 1) * 8 < _; omega), if_pos h]
  ·rw [qO h, if_neg h]
 ·intro rec
  unfold spres.lr3.T
  simp only [wTo]
  rw [qv (by rw [ilen_eq]; omega)]
end Go.Sx
