/-
  Worlds: how deep, and whether right (plain).
-/
import Derived.Test.YtcpabdpbldmmmaaGreatDoorLyTc
set_option linter.unusedVariables false
set_option linter.unusedSimpArgs false
namespace Go.Sx
open Go Go.Proofs
def plK (ws : List Place) (p : Place) : Nat → Place
 | 0 => p
 | k + 1 => upW ws (plK ws p k).id.toNat
def WFp (ws : List Place) (p : Place) : Prop := p.kind = 2 → 0 ≤ p.id ∧ p.id < (ws.length : Int)
theorem wf_up {ws : List Place} (h : ∀ q ∈ ws, WFp ws q) (i : Nat) : WFp ws (upW ws i) := by
 by_cases hi : i < ws.length
 ·rw [zI hi]
  exact h _ (List.getElem_mem _)
 ·intro hk
  unfold upW at hk
  rw [List.getD_eq_getElem?_getD, List.getElem?_eq_none (by omega)] at hk
  simp at hk
theorem wf_plK {ws : List Place} (h : ∀ q ∈ ws, WFp ws q) {p : Place} (hp : WFp ws p) : ∀ k, WFp ws (plK ws p k)
 | 0 => hp
 | k + 1 => wf_up h _
theorem lget_up {ws : List Place} {p : Place} (hp : WFp ws p) (hk : p.kind = 2) : lget ws p.id = some (upW ws p.id.toNat) := by
 obtain ⟨h0, h1⟩ := hp hk
 rw [jd h0 h1, zI (show p.id.toNat < ws.length by omega)]
theorem qh1 {ws : List Place} : ∀ (d : Nat) (p : Place), (∀ k, k < d → (plK ws p k).kind = 2) → (plK ws p d).kind ≠ 2 → Dep ws p d
 | 0, p, _, h => .base p h
 | d + 1, p, h, h' => by
   have e : ∀ k, plK ws (upW ws p.id.toNat) k = plK ws p (k + 1) := by
    intro k
    induction k with
    | zero => rfl
    | succ k ih => show upW ws (plK ws (upW ws p.id.toNat) k).id.toNat = _; rw [ih]; rfl
   exact .step p (h 0 (by omega)) d (qh1 d _ (fun k hk => by rw [e]; exact h (k + 1) (by omega)) (by rw [e]; exact h'))
theorem of_dep {ws : List Place} {p : Place} {d : Nat} (h : Dep ws p d) : (∀ k, k < d → (plK ws p k).kind = 2) ∧ (plK ws p d).kind ≠ 2 := by
 induction h with
 | base p h => exact ⟨fun k hk => by omega, h⟩
 | step p h d t ih =>
   have e : ∀ k, plK ws (upW ws p.id.toNat) k = plK ws p (k + 1) := by
    intro k
    induction k with
    | zero => rfl
    | succ k ih => show upW ws (plK ws (upW ws p.id.toNat) k).id.toNat = _; rw [ih]; rfl
   refine ⟨fun k hk => ?_, by rw [← e]; exact ih.2⟩
   cases k with
   | zero => exact h
   | succ k => rw [← e]; exact ih.1 k (by omega)
abbrev Ue (w : World) (p : Place) (k : Nat) : rdep.lr2.X := (((k : Int), ()), (wTo w, (((plK w.where_ p k).kind, ((plK w.where_ p k).id, ())), ())))
theorem Yj {w : World} (h : ∀ q ∈ w.where_, WFp w.where_ q) {p : Place} (hp : WFp w.where_ p) {k : Nat} (hk : (plK w.where_ p k).kind = 2) (hk5 : k < 50) (rec : rdep.lr2.X → Option rdep.lr2.O) :
  rdep.lr2.T rec (Ue w p k) = rec (Ue w p (k + 1)) := by
 unfold rdep.lr2.T
 simp only [Ue, wTo]
 rw [qM hk, qH (by omega), qu (by omega), lget_up (wf_plK h hp k) hk]
 rfl
theorem Bv {w : World} (h : ∀ q ∈ w.where_, WFp w.where_ q) {p : Place} (hp : WFp w.where_ p) {d : Nat} (hd : Dep w.where_ p d) (hd5 : d ≤ 50) : gw w p = some (d : Int) := by
 obtain ⟨h1, h2⟩ := of_dep hd
 unfold gw
 have e := qG (T := rdep.lr2.T) (Ue w p) (.inr (((d : Int), ()), ())) d (by omega) (fun k hk rec => Yj h hp (h1 k hk) (by omega) rec) (fun rec => by
  unfold rdep.lr2.T
  simp only [Ue, wTo]
  rw [qI h2])
 rw [show qr rdep.lr2.T qn (((0 : Int), ()), (wTo w, ((p.kind, (p.id, ())), ()))) = _ from e]
 rfl
theorem DT {w : World} (h : ∀ q ∈ w.where_, WFp w.where_ q) {p : Place} (hp : WFp w.where_ p) : ∃ n : Int, gw w p = some n ∧ (n ≤ 4 → ∃ d : Nat, d ≤ 4 ∧ Dep w.where_ p d) := by
 by_cases hx : ∃ d, d ≤ 50 ∧ Dep w.where_ p d
 ·obtain ⟨d, h5, hd⟩ := hx
  exact ⟨d, Bv h hp hd h5, fun h4 => ⟨d, by omega, hd⟩⟩
 ·have hk : ∀ k, k ≤ 50 → (plK w.where_ p k).kind = 2 := by
   intro k
   induction k using Nat.strongRecOn with
   | _ k ih =>
     intro h5
     by_cases e : (plK w.where_ p k).kind = 2
     ·exact e
     ·exact absurd ⟨k, h5, qh1 k p (fun j hj => ih j hj (by omega)) e⟩ hx
  refine ⟨99, ?_, fun h4 => by omega⟩
  unfold gw
  have e := qG (T := rdep.lr2.T) (Ue w p) (.inl (((99 : Int), ()), ())) 50 (by omega) (fun k hk' rec => Yj h hp (hk k (by omega)) (by omega) rec) (fun rec => by
   unfold rdep.lr2.T
   simp only [Ue, wTo]
   rw [qM (hk 50 (by omega)), qH (by omega), qk (by omega)])
  rw [show qr rdep.lr2.T qn (((0 : Int), ()), (wTo w, ((p.kind, (p.id, ())), ()))) = _ from e]
  rfl
def ExOK (r : Nat) (e : Exits) : Prop := ∀ x ∈ [e.e0, e.e1, e.e2, e.e3], x = -1 ∨ (0 ≤ x ∧ x < (r : Int))
structure MayD (d : Desc) : Prop where
 rooms : 1 ≤ d.exits.length ∧ d.exits.length ≤ 8
 players : 1 ≤ d.players.length ∧ d.players.length ≤ 6
 coins : d.coins.length = d.players.length
 items : d.items.length ≤ 16
 boxes : d.boxes.length = d.items.length
 caps : (0 ≤ d.room ∧ d.room < 65) ∧ (0 ≤ d.player ∧ d.player < 65) ∧ (0 ≤ d.box ∧ d.box < 65)
 exits : ∀ e ∈ d.exits, ExOK d.exits.length e
def AtOK (d : Desc) (p : Place) : Prop := (p.kind = 0 ∧ 0 ≤ p.id ∧ p.id < (d.exits.length : Int)) ∨ (p.kind = 1 ∧ 0 ≤ p.id ∧ p.id < (d.players.length : Int)) ∨ (p.kind = 2 ∧ 0 ≤ p.id ∧ p.id < (d.items.length : Int) ∧ lget d.boxes p.id = some true)
structure RightP (w : World) : Prop where
 may : MayD w.desc
 at_len : w.at_.length = w.desc.players.length
 coins_len : w.coins.length = w.desc.players.length
 where_len : w.where_.length = w.desc.items.length
 at_ok : ∀ r ∈ w.at_, 0 ≤ r ∧ r < (w.desc.exits.length : Int)
 coins_ok : ∀ c ∈ w.coins, 0 ≤ c ∧ c ≤ 1073741824
 where_ok : ∀ p ∈ w.where_, AtOK w.desc p
 deep : ∀ p ∈ w.where_, ∃ d : Nat, d ≤ 4 ∧ Dep w.where_ p d
 many : ∀ p ∈ w.where_, (manyW w.where_ p : Int) ≤ capW w p.kind
end Go.Sx
