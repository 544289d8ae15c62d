/-
  Worlds: things put to places, room (plain).
-/
import Derived.Test.YtcpabdpbldmmmaaGreatDoorLyTf
import Derived.Test.YtcpabdpbldmmmaaGreatDoorLyB
set_option linter.unusedVariables false
set_option linter.unusedSimpArgs false
namespace Go.Sx
open Go Go.Proofs
theorem BW {α β : Type} {l : List β} {x y : α} (h : l.length ≤ 1000) : cnd (ilt (imul (iadd 0 (qh l)) 8) 140737488355329) x y = x := qk (by rw [ilen_eq]; show (0 + (l.length : Int)) * 8 < _; omega)
theorem qbk {α β : Type} {l : List β} {x y : α} (h : l.length ≤ 1000) : cnd (ilt (imul (iadd 0 (qh l)) 16) 140737488355329) x y = x := qk (by rw [ilen_eq]; show (0 + (l.length : Int)) * 16 < _; omega)
theorem zt (l : List Int) (h : l.length ≤ 1000) : qo l = some l := by
 unfold qo
 rw [BW h]
 cases l with
 | nil => rw [qu (by rw [ilen_eq]; simp), zn]
 | cons a r => rw [qk (by rw [ilen_eq]; simp)]
theorem Jj (l : List Place) (h : l.length ≤ 1000) : qx l = some l := by
 unfold qx
 rw [qbk h]
 cases l with
 | nil => rw [qu (by rw [ilen_eq]; simp), zn]
 | cons a r => rw [qk (by rw [ilen_eq]; simp)]
structure SmallW (w : World) : Prop where
 at_ : w.at_.length ≤ 1000
 coins : w.coins.length ≤ 1000
 where_ : w.where_.length ≤ 1000
theorem RightP.small {w : World} (h : RightP w) : SmallW w := by
 have := h.may.players.2
 have := h.may.items
 have := h.at_len
 have := h.coins_len
 have := h.where_len
 exact ⟨by omega, by omega, by omega⟩
def toP (w : World) (i : Int) (p : Place) : World := ⟨w.desc, w.at_, w.coins, lset w.where_ i p⟩
theorem qfe {w : World} (hs : SmallW w) {i : Int} (h0 : 0 ≤ i) (h1 : i < (w.where_.length : Int)) (p : Place) : DA w i p = some (toP w i p) := by
 unfold DA
 rw [BW hs.at_, BW hs.coins, qbk hs.where_, qB h0, qk (by rw [ilen_eq]; exact h1), jd h0 h1]
 rfl
theorem hto_eq {w : World} (hs : SmallW w) {i : Int} (h0 : 0 ≤ i) (h1 : i < (w.where_.length : Int)) (p : Place) : Kq w i p = some (toP w i p) := by
 unfold Kq
 simp only [zt _ hs.at_, zt _ hs.coins, Jj _ hs.where_, zn, qg]
 rw [qB h0, qk (by rw [ilen_eq]; exact h1), jd h0 h1]
 rfl
def jl (w : World) (p : Place) : Int := capW w p.kind - (manyW w.where_ p : Int)
theorem Qh {w : World} (h : RightP w) (k : Int) : 0 ≤ capW w k ∧ capW w k < 65 := by
 obtain ⟨h1, h2, h3⟩ := h.may.caps
 unfold capW
 split
 ·exact h1
 split
 ·exact h2
 ·exact h3
theorem Zc {w : World} (hc : ∀ k, 0 ≤ capW w k ∧ capW w k < 65) (hs : SmallW w) {p : Place} (h0 : 0 ≤ p.kind) (h1 : p.kind < 3) : vT w p = some (jl w p) := by
 unfold vT
 rw [Bx w p h0 h1, qg, Gm w p hs.where_, qg]
 have := hc p.kind
 have := BB w.where_ p
 have := hs.where_
 have e : wrap .i64 (isub (capW w p.kind) (manyW w.where_ p : Int)) = capW w p.kind - (manyW w.where_ p : Int) := qO (n := capW w p.kind - (manyW w.where_ p : Int)) (by omega) (by omega)
 rw [e]
 rfl
def inL (ws : List Place) (p : Place) (i : Nat) : List Int := ((List.range i).filter fun (k : Nat) => decide (upW ws k = p)).map fun (k : Nat) => (k : Int)
theorem R8 (ws : List Place) (p : Place) (i : Nat) : inL ws p (i + 1) = if upW ws i = p then inL ws p i ++ [(i : Int)] else inL ws p i := by
 unfold inL
 rw [List.range_succ, List.filter_append, List.map_append]
 by_cases h : upW ws i = p <;> simp [h]
theorem qbf (ws : List Place) (p : Place) : ∀ i, i ≤ ws.length → (inL ws p i).length = manyW (ws.take i) p
 | 0, _ => by simp [inL, manyW]
 | i + 1, h => by
   rw [R8, Ys ws p i (by omega)]
   have := qbf ws p i (by omega)
   rw [zI (show i < ws.length by omega)]
   by_cases e : ws[i] = p
   ·rw [if_pos e, if_pos e, List.length_append, this]; rfl
   ·rw [if_neg e, if_neg e, this]; rfl
theorem tin_eq (w : World) (p : Place) (hs : w.where_.length ≤ 1000) : tinF w p = some (inL w.where_ p w.where_.length) := by
 unfold tinF
 have e := qG (T := tin.lr3.T) (fun i => ((w.where_, (qh w.where_, ((i : Int), ()))), ((p.kind, (p.id, ())), (inL w.where_ p i, ())))) ((), (inL w.where_ p w.where_.length, ())) w.where_.length (by omega) ?_ ?_
 ·rw [show qr tin.lr3.T qn ((w.where_, (qh w.where_, ((0 : Int), ()))), ((p.kind, (p.id, ())), (([] : List Int), ()))) = _ from e]
  rfl
 ·intro i hi rec
  have hl : lget w.where_ (i : Int) = some w.where_[i] := qP hi
  have hn : (inL w.where_ p i).length ≤ i := by
   have := List.length_filter_le (fun (k : Nat) => decide (upW w.where_ k = p)) (List.range i)
   rw [List.length_range] at this
   unfold inL
   rw [List.length_map]
   exact this
  unfold tin.lr3.T
  simp only []
  rw [qk (by rw [ilen_eq]; omega), hl, qg, qH (by omega), R8, zI hi]
  have hpe : band (ieq p.kind (w.where_[i]).kind) (ieq p.id (w.where_[i]).id) = decide (w.where_[i] = p) := by
   rw [← qU]
   show (decide (p.kind = _) && decide (p.id = _)) = (decide (_ = p.kind) && decide (_ = p.id))
   rw [decide_eq_decide.2 (show p.kind = (w.where_[i]).kind ↔ (w.where_[i]).kind = p.kind from eq_comm), decide_eq_decide.2 (show p.id = (w.where_[i]).id ↔ (w.where_[i]).id = p.id from eq_comm)]
  rw [hpe]
  by_cases h : w.where_[i] = p
  ·rw [qy (decide_eq_true h), qk (by rw [ilen_eq]; show (((inL w.where_ p i).length : Int) + 1) * 8 < _; omega), if_pos h]
  ·rw [qz (decide_eq_false h), if_neg h]
 ·intro rec
  unfold tin.lr3.T
  simp only []
  rw [qu (by rw [ilen_eq]; omega)]
theorem VV {w : World} (hc : ∀ k, 0 ≤ capW w k ∧ capW w k < 65) (hs : SmallW w) {p : Place} (h0 : 0 ≤ p.kind) (h1 : p.kind < 3) : zc w p = some (jl w p) := by
 unfold zc
 rw [qB h0, qk h1, tin_eq w p hs.where_, qg]
 have hl : qh (inL w.where_ p w.where_.length) = (manyW w.where_ p : Int) := by
  rw [ilen_eq, qbf _ _ _ (Nat.le_refl _), List.take_of_length_le (Nat.le_refl _)]
 have hcap : jQ ([w.desc.room, w.desc.player, w.desc.box] : List Int) p.kind = capW w p.kind := by
  rcases three h0 h1 with h | h | h <;> rw [h] <;> rfl
 rw [hl, hcap]
 have := hc p.kind
 have := BB w.where_ p
 have := hs.where_
 have e : wrap .i64 (isub (capW w p.kind) (manyW w.where_ p : Int)) = capW w p.kind - (manyW w.where_ p : Int) := qO (n := capW w p.kind - (manyW w.where_ p : Int)) (by omega) (by omega)
 rw [e]
 rfl
theorem qaw {w : World} (h : RightP w) (p : Place) : 0 ≤ jl w p := by
 unfold jl
 by_cases hp : p ∈ w.where_
 ·have := h.many p hp
  omega
 ·have : manyW w.where_ p = 0 := by
   unfold manyW
   rw [List.countP_eq_zero]
   intro x hx
   simp
   rintro rfl
   exact hp hx
  rw [this]
  have := (Qh h p.kind).1
  omega
def vj (l : List Int) (r : Int) (i : Nat) : List Int := ((List.range i).filter fun (k : Nat) => decide (gi l (k : Int) = r)).map fun (k : Nat) => (k : Int)
theorem Gz (l : List Int) (r : Int) (i : Nat) : vj l r (i + 1) = if gi l (i : Int) = r then vj l r i ++ [(i : Int)] else vj l r i := by
 unfold vj
 rw [List.range_succ, List.filter_append, List.map_append]
 by_cases h : gi l (i : Int) = r <;> simp [h]
theorem Kc (l : List Int) (r : Int) (i : Nat) : (vj l r i).length ≤ i := by
 have := List.length_filter_le (fun (k : Nat) => decide (gi l (k : Int) = r)) (List.range i)
 rw [List.length_range] at this
 unfold vj
 rw [List.length_map]
 exact this
theorem qfj (w : World) (r : Int) (hs : w.at_.length ≤ 1000) : NN w r = some (vj w.at_ r w.at_.length) := by
 unfold NN
 have e := qG (T := rpres.lr3.T) (fun i => ((r, ((i : Int), ())), (wTo w, (vj w.at_ r i, ())))) ((), (vj w.at_ r w.at_.length, ())) w.at_.length (by omega) ?_ ?_
 ·rw [show qr rpres.lr3.T qn ((r, ((0 : Int), ())), (wTo w, (([] : List Int), ()))) = _ from e]
  rfl
 ·intro i hi rec
  have hl : lget w.at_ (i : Int) = some (gi w.at_ (i : Int)) := qm (by omega) (by omega)
  have hn := Kc w.at_ r i
  unfold rpres.lr3.T
  simp only [wTo]
  rw [qk (by rw [ilen_eq]; omega), hl, qg, qH (by omega), Gz]
  by_cases h : gi w.at_ (i : Int) = r
  ·rw [qM h, qk (by rw [ilen_eq]; show (((vj w.at_ r i).length : Int) + 1) * 8 < _; omega), if_pos h]
  ·rw [qI h, if_neg h]
 ·intro rec
  unfold rpres.lr3.T
  simp only [wTo]
  rw [qu (by rw [ilen_eq]; omega)]
theorem qe7 (w : World) (r : Int) (hs : w.at_.length ≤ 1000) : ZT w r = some (vj w.at_ r w.at_.length) := by
 unfold ZT
 have e := qG (T := spres.lr3.T) (fun i => ((r, (qh w.at_, ((i : Int), ()))), (wTo w, (vj w.at_ r i, ())))) ((), (vj w.at_ r w.at_.length, ())) w.at_.length (by omega) ?_ ?_
 ·rw [show qr spres.lr3.T qn ((r, (qh w.at_, ((0 : Int), ()))), (wTo w, (([] : List Int), ()))) = _ from e]
  rfl
 ·intro i hi rec
  have hl : lget w.at_ (i : Int) = some (gi w.at_ (i : Int)) := qm (by omega) (by omega)
  have hn := Kc w.at_ r i
  unfold spres.lr3.T
  simp only [wTo]
  rw [qk (by rw [ilen_eq]; omega), hl, qg, qH (by omega), Gz]
  by_cases h : gi w.at_ (i : Int) = r
  ·rw [qM h, qk (by rw [ilen_eq]; show (((vj w.at_ r i).length : Int) + 1) * 8 < _; omega), if_pos h]
  ·rw [qI h, if_neg h]
 ·intro rec
  unfold spres.lr3.T
  simp only [wTo]
  rw [qu (by rw [ilen_eq]; omega)]
end Go.Sx
