/-
  Orders of calls: what they tell, both ways (plain).
-/
import Derived.Test.YtcpabdpbldmmmaaGreatDoorLyTq
set_option linter.unusedVariables false
set_option linter.unusedSimpArgs false
namespace Go.Sx
open Go Go.Proofs
def j8 (n : Nat) (l : List Call) : Prop := ∀ c ∈ l, (0 ≤ c.player ∧ c.player < (n : Int)) ∧ c.cmd.gives.length ≤ 40 ∧ c.cmd.wants.length ≤ 40
def cK (l : List Call) (o : List Int) (k : Nat) : Call := qj l (gi o (k : Int)).toNat
noncomputable def wK (w : World) (l : List Call) (o : List Int) : Nat → World
 | 0 => w
 | k + 1 => (DoP (wK w l o k) (cK l o k).player (cK l o k).cmd).1
noncomputable def rK (w : World) (l : List Call) (o : List Int) (k : Nat) : Reply := (DoP (wK w l o k) (cK l o k).player (cK l o k).cmd).2
def inR (l : List Call) (o : List Int) (n : Nat) : Prop := ∀ j : Nat, j < n → 0 ≤ gi o (j : Int) ∧ gi o (j : Int) < (l.length : Int)
theorem Uq {l : List Call} {o : List Int} {n k : Nat} (hr : inR l o n) (hk : k < n) : cK l o k ∈ l := z9 (by have := hr k hk; omega)
theorem gj {w : World} (h : RightP w) {l : List Call} (hf : j8 w.at_.length l) {o : List Int} {n : Nat} (hr : inR l o n) : ∀ k, k ≤ n → RightP (wK w l o k) ∧ (wK w l o k).at_.length = w.at_.length
 | 0, _ => ⟨h, rfl⟩
 | k + 1, hk => by
   obtain ⟨h1, h2⟩ := gj h hf hr k (by omega)
   have hp := (hf _ (Uq hr (show k < n by omega))).1
   exact ⟨vg h1 hp.1 (by rw [h2]; exact hp.2) _, by show (DoP _ _ _).1.at_.length = _; rw [Qe, h2]⟩
theorem z8 {w : World} (h : RightP w) (p : Int) (c : Cmd) : (DoP w p c).2.players.length ≤ 1000 ∧ (DoP w p c).2.items.length ≤ 1000 := by
 have ha : ∀ (v : World) (k r e : Int), (gf w k r v e).2.players.length ≤ 1000 ∧ (gf w k r v e).2.items.length ≤ 1000 := fun v k r e => by
  unfold gf
  split <;> exact ⟨by show 0 ≤ 1000; omega, by show 0 ≤ 1000; omega⟩
 have hs := h.small
 unfold DoP
 split
 ·exact ⟨by show 0 ≤ 1000; omega, by show 0 ≤ 1000; omega⟩
 split
 ·exact ha _ _ _ _
 split
 ·exact ha _ _ _ _
 split
 ·exact ha _ _ _ _
 split
 ·exact ha _ _ _ _
 split
 ·exact ha _ _ _ _
 split
 ·exact ha _ _ _ _
 split
 ·exact ha _ _ _ _
 split
 ·exact ha _ _ _ _
 split
 ·exact ⟨Nat.le_trans (Kc _ _ _) hs.at_, Nat.le_trans (JT _ _ _) hs.where_⟩
 ·exact ⟨by show 0 ≤ 1000; omega, Nat.le_trans (JT _ _ _) hs.where_⟩
theorem rg24 {w : World} (h : RightP w) {l : List Call} (hf : j8 w.at_.length l) (o : List Int) (ho : o.length ≤ 1000) (hr : inR l o o.length) :
  ((∀ k : Nat, k < o.length → (0 ≤ (cK l o k).to → rK w l o k = (cK l o k).reply)) → qr rgood.lr24.T qn (((l, (o, ((0 : Int), ()))), (wTo w, ()))) = some (.inr ((), ()))) ∧
  ((¬ ∀ k : Nat, k < o.length → (0 ≤ (cK l o k).to → rK w l o k = (cK l o k).reply)) → qr rgood.lr24.T qn (((l, (o, ((0 : Int), ()))), (wTo w, ()))) = some (.inl ((false, ()), ()))) := by
 refine qK (T := rgood.lr24.T) (fun k => ((l, (o, ((k : Int), ()))), (wTo (wK w l o k), ()))) (fun k => 0 ≤ (cK l o k).to → rK w l o k = (cK l o k).reply) (.inl ((false, ()), ())) (.inr ((), ())) o.length (by omega) ?_ ?_ ?_
 ·intro k hk hg rec
  obtain ⟨h1, h2⟩ := gj h hf hr k (by omega)
  have hp := hf _ (Uq hr hk)
  have hx := hr k hk
  obtain ⟨s1, s2⟩ := z8 h1 (cK l o k).player (cK l o k).cmd
  unfold rgood.lr24.T
  simp only [wTo]
  rw [JQ, qk (qp.2 hk), qm (by omega) (by omega), qg, q8 hx.1 hx.2, qg, show qj l (gi o (k : Int)).toNat = cK l o k from rfl, qf0 h1 hp.1.1 (by rw [h2]; exact hp.1.2) _ hp.2.1 hp.2.2, qg, qH (by omega)]
  by_cases ha : 0 ≤ (cK l o k).to
  ·rw [qB ha, Yl _ _ (by omega) (by omega), qg, show (DoP (wK w l o k) (cK l o k).player (cK l o k).cmd).2 = (cK l o k).reply from hg ha, decide_eq_true rfl]
   rfl
  ·rw [jG ha]
   rfl
 ·intro k hk hg rec
  obtain ⟨h1, h2⟩ := gj h hf hr k (by omega)
  have hp := hf _ (Uq hr hk)
  have hx := hr k hk
  obtain ⟨s1, s2⟩ := z8 h1 (cK l o k).player (cK l o k).cmd
  obtain ⟨ha, hne⟩ := Classical.not_imp.1 hg
  unfold rgood.lr24.T
  simp only [wTo]
  rw [JQ, qk (qp.2 hk), qm (by omega) (by omega), qg, q8 hx.1 hx.2, qg, show qj l (gi o (k : Int)).toNat = cK l o k from rfl, qf0 h1 hp.1.1 (by rw [h2]; exact hp.1.2) _ hp.2.1 hp.2.2, qg,
   qB ha, Yl _ _ (by omega) (by omega), qg, decide_eq_false (show ¬ (DoP (wK w l o k) (cK l o k).player (cK l o k).cmd).2 = (cK l o k).reply from hne)]
  rfl
 ·intro rec
  unfold rgood.lr24.T
  simp only [wTo]
  rw [qu (by rw [qp]; omega)]
def vL (w : World) (l : List Call) (o : List Int) : Prop := je l o ∧ ∀ k : Nat, k < o.length → (0 ≤ (cK l o k).to → rK w l o k = (cK l o k).reply)
theorem Dv {l : List Call} {o : List Int} (h : ∀ k : Nat, k < o.length → gA l o k) : inR l o o.length := fun j hj => (h j hj).1
open Classical in
theorem Ze {w : World} (h : RightP w) {l : List Call} (hf : j8 w.at_.length l) (hl : l.length ≤ 1000) (o : List Int) (ho : o.length ≤ 1000) : vU w l o = some (decide (vL w l o)) := by
 unfold vU
 obtain ⟨a1, a2⟩ := rg2 l o hl ho w
 obtain ⟨b1, b2⟩ := rg14 l o hl ho w
 by_cases h1 : ∀ k : Nat, k < o.length → gA l o k
 ·rw [a1 h1, qg, ji]
  dsimp only
  by_cases h2 : ∀ c : Nat, c < l.length → (kE l c → ∃ j : Nat, j < o.length ∧ gi o (j : Int) = (c : Int))
  ·rw [b1 h2, qg, ji]
   dsimp only
   obtain ⟨c1, c2⟩ := rg24 h hf o ho (Dv h1)
   by_cases h3 : ∀ k : Nat, k < o.length → (0 ≤ (cK l o k).to → rK w l o k = (cK l o k).reply)
   ·rw [c1 h3, decide_eq_true (show vL w l o from ⟨⟨h1, h2⟩, h3⟩)]
    rfl
   ·rw [c2 h3, decide_eq_false (fun h : vL w l o => h3 h.2)]
    rfl
  ·rw [b2 h2, decide_eq_false (fun h : vL w l o => h2 h.1.2)]
   rfl
 ·rw [a2 h1, decide_eq_false (fun h : vL w l o => h1 h.1.1)]
  rfl
def csK (l : List Call) (o : List Int) (n : Nat) : List Call := (List.range n).map (cK l o)
noncomputable def rsK (w : World) (l : List Call) (o : List Int) (n : Nat) : List Reply := (List.range n).map (rK w l o)
theorem RX (l : List Call) (o : List Int) (n : Nat) : csK l o (n + 1) = csK l o n ++ [cK l o n] := by
 unfold csK
 rw [List.range_succ, List.map_append]
 rfl
theorem qfh (w : World) (l : List Call) (o : List Int) (n : Nat) : rsK w l o (n + 1) = rsK w l o n ++ [rK w l o n] := by
 unfold rsK
 rw [List.range_succ, List.map_append]
 rfl
theorem vO (l : List Call) (o : List Int) (n : Nat) : (csK l o n).length = n := by simp [csK]
theorem qau (w : World) (l : List Call) (o : List Int) (n : Nat) : (rsK w l o n).length = n := by simp [rsK]
theorem qbq (l : List Call) (o : List Int) {n k : Nat} (h : k < n) : lget (csK l o n) (k : Int) = some (cK l o k) := by
 rw [qP (by rw [vO]; exact h)]
 simp [csK]
theorem qav (w : World) (l : List Call) (o : List Int) {n k : Nat} (h : k < n) : lget (rsK w l o n) (k : Int) = some (rK w l o k) := by
 rw [qP (by rw [qau]; exact h)]
 simp [rsK]
theorem aall_eq {w : World} (h : RightP w) {l : List Call} (hf : j8 w.at_.length l) (o : List Int) (ho : o.length ≤ 1000) (hr : inR l o o.length) : YU w (csK l o o.length) = some (wK w l o o.length, rsK w l o o.length) := by
 unfold YU
 have := qG (T := aall.lr3.T) (fun k => (((csK l o o.length, (qh (csK l o o.length), ((k : Int), ()))), (wTo (wK w l o k), (z3, (rsK w l o k, ())))))) (((), (wTo (wK w l o o.length), (z3, (rsK w l o o.length, ()))))) o.length (by omega) (by
  intro k hk rec
  obtain ⟨h1, h2⟩ := gj h hf hr k (by omega)
  have hp := hf _ (Uq hr hk)
  unfold aall.lr3.T
  simp only [wTo, z3]
  rw [JQ, qk (by rw [ilen_eq, vO]; omega), qbq l o hk, qg, JO h1 hp.1.1 (by rw [h2]; exact hp.1.2) _ hp.2.1 hp.2.2, qg, qk (by rw [ilen_eq, qau]; show ((k : Int) + 1) * 80 < _; omega), qH (by omega), qfh]
  rfl) (by
  intro rec
  unfold aall.lr3.T
  simp only [wTo, z3]
  rw [qu (by rw [ilen_eq, vO]; omega)])
 rw [show qr aall.lr3.T qn ((csK l o o.length, (qh (csK l o o.length), ((0 : Int), ()))), (wTo w, ((0, (0, (0, ()))), (([] : List Reply), ())))) = _ from this, qg]
theorem qcw {w : World} (h : RightP w) {l : List Call} (hf : j8 w.at_.length l) (o : List Int) (ho : o.length ≤ 1000) (hr : inR l o o.length) : QU w l o = some (wK w l o o.length, rsK w l o o.length) := by
 unfold QU
 have := qG (T := replay.lr3.T) (fun k => (((l, (o, (qh o, ((k : Int), ())))), (wTo w, (z3, (csK l o k, ())))))) (((), (wTo w, (z3, (csK l o o.length, ()))))) o.length (by omega) (by
  intro k hk rec
  have hx := hr k hk
  unfold replay.lr3.T
  simp only [wTo, z3]
  rw [qk (by rw [ilen_eq]; omega), qm (by omega) (by omega), qg, q8 hx.1 hx.2, qg, qk (by rw [ilen_eq, vO]; show ((k : Int) + 1) * 208 < _; omega), qH (by omega), RX]
  rfl) (by
  intro rec
  unfold replay.lr3.T
  simp only [wTo, z3]
  rw [qu (by rw [ilen_eq]; omega)])
 rw [show qr replay.lr3.T qn ((l, (o, (qh o, ((0 : Int), ())))), (wTo w, ((0, (0, (0, ()))), (([] : List Call), ())))) = _ from this, qg]
 dsimp only
 rw [show wOf (wTo w) = w from rfl, aall_eq h hf o ho hr, qg]
theorem lg5 {w : World} (h : RightP w) {l : List Call} (hf : j8 w.at_.length l) (o : List Int) (ho : o.length ≤ 1000) (hr : inR l o o.length) :
  ((∀ k : Nat, k < o.length → (0 ≤ (cK l o k).to → rK w l o k = (cK l o k).reply)) → qr lgood.lr5.T qn (((l, (rsK w l o o.length, (o, (qh o, ((0 : Int), ()))))), ())) = some (.inr ((), ()))) ∧
  ((¬ ∀ k : Nat, k < o.length → (0 ≤ (cK l o k).to → rK w l o k = (cK l o k).reply)) → qr lgood.lr5.T qn (((l, (rsK w l o o.length, (o, (qh o, ((0 : Int), ()))))), ())) = some (.inl ((false, ()), ()))) := by
 refine qK (T := lgood.lr5.T) (fun k => ((l, (rsK w l o o.length, (o, (qh o, ((k : Int), ()))))), ())) (fun k => 0 ≤ (cK l o k).to → rK w l o k = (cK l o k).reply) (.inl ((false, ()), ())) (.inr ((), ())) o.length (by omega) ?_ ?_ ?_
 ·intro k hk hg rec
  obtain ⟨h1, h2⟩ := gj h hf hr k (by omega)
  have hx := hr k hk
  obtain ⟨s1, s2⟩ := z8 h1 (cK l o k).player (cK l o k).cmd
  unfold lgood.lr5.T
  dsimp only
  rw [qk (qp.2 hk), qm (by omega) (by omega), qg, q8 hx.1 hx.2, qg, show qj l (gi o (k : Int)).toNat = cK l o k from rfl, zV, qg, qH (by omega)]
  by_cases ha : 0 ≤ (cK l o k).to
  ·rw [qy (decide_eq_true ha), qav w l o hk]
   simp only [qg]
   rw [vf (rK w l o k) _ (by unfold rK; omega) (by unfold rK; omega), qg, hg ha, decide_eq_true rfl]
   rfl
  ·rw [qz (decide_eq_false ha)]
 ·intro k hk hg rec
  obtain ⟨h1, h2⟩ := gj h hf hr k (by omega)
  have hx := hr k hk
  obtain ⟨s1, s2⟩ := z8 h1 (cK l o k).player (cK l o k).cmd
  obtain ⟨ha, hne⟩ := Classical.not_imp.1 hg
  unfold lgood.lr5.T
  dsimp only
  rw [qk (qp.2 hk), qm (by omega) (by omega), qg, q8 hx.1 hx.2, qg, show qj l (gi o (k : Int)).toNat = cK l o k from rfl, zV, qg, qy (decide_eq_true ha), qav w l o hk]
  simp only [qg]
  rw [vf (rK w l o k) _ (by unfold rK; omega) (by unfold rK; omega), qg, decide_eq_false hne]
  rfl
 ·intro rec
  unfold lgood.lr5.T
  dsimp only
  rw [qu (by rw [qp]; omega)]
open Classical in
theorem qgv {w : World} (h : RightP w) {l : List Call} (hf : j8 w.at_.length l) (hl : l.length ≤ 1000) (o : List Int) (ho : o.length ≤ 1000) : kI w l o = some (decide (vL w l o)) := by
 unfold kI
 rw [j1 l o hl ho, qg, JJ]
 by_cases hw : je l o
 ·have hr := Dv hw.1
  rw [decide_eq_true hw, if_pos rfl, qcw h hf o ho hr, qg]
  dsimp only
  obtain ⟨c1, c2⟩ := lg5 h hf o ho hr
  by_cases h3 : ∀ k : Nat, k < o.length → (0 ≤ (cK l o k).to → rK w l o k = (cK l o k).reply)
  ·rw [c1 h3, decide_eq_true (show vL w l o from ⟨hw, h3⟩)]
   rfl
  ·rw [c2 h3, decide_eq_false (fun h : vL w l o => h3 h.2)]
   rfl
 ·rw [decide_eq_false hw, if_neg (by decide), decide_eq_false (fun h : vL w l o => hw h.1)]
end Go.Sx
