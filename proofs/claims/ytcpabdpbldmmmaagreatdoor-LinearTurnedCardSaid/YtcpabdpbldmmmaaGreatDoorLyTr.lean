/-
  Orders of calls: what they tell, both ways (plain).
-/
import Derived.Test.YtcpabdpbldmmmaaGreatDoorLyTq
set_option linter.unusedVariables false
set_option linter.unusedSimpArgs false
namespace Go.Sx
open Go Go.Proofs
def jY (n : Nat) (l : List Call) : Prop := ∀ c ∈ l, (0 ≤ c.player ∧ c.player < (n : Int)) ∧ c.cmd.gives.length ≤ 40 ∧ c.cmd.wants.length ≤ 40
def cK (l : List Call) (o : List Int) (k : Nat) : Call := qk l (gi o (k : Int)).toNat
noncomputable def wK (w : World) (l : List Call) (o : List Int) : Nat → World
 | 0 => w
 | k + 1 => (DoP (wK w l o k) (cK l o k).player (cK l o k).cmd).1
noncomputable def rK (w : World) (l : List Call) (o : List Int) (k : Nat) : Reply := (DoP (wK w l o k) (cK l o k).player (cK l o k).cmd).2
def inR (l : List Call) (o : List Int) (n : Nat) : Prop := ∀ j : Nat, j < n → 0 ≤ gi o (j : Int) ∧ gi o (j : Int) < (l.length : Int)
theorem Yf {l : List Call} {o : List Int} {n k : Nat} (hr : inR l o n) (hk : k < n) : cK l o k ∈ l := gG (by have := hr k hk; omega)
theorem ga {w : World} (h : RightP w) {l : List Call} (hf : jY w.at_.length l) {o : List Int} {n : Nat} (hr : inR l o n) : ∀ k, k ≤ n → RightP (wK w l o k) ∧ (wK w l o k).at_.length = w.at_.length
 | 0, _ => ⟨h, rfl⟩
 | k + 1, hk => by
   obtain ⟨h1, h2⟩ := ga h hf hr k (by omega)
   have hp := (hf _ (Yf hr (show k < n by omega))).1
   exact ⟨gn h1 hp.1 (by rw [h2]; exact hp.2) _, by show (DoP _ _ _).1.at_.length = _; rw [Jy, h2]⟩
theorem zD {w : World} (h : RightP w) (p : Int) (c : Cmd) : (DoP w p c).2.players.length ≤ 1000 ∧ (DoP w p c).2.items.length ≤ 1000 := by
 have ha : ∀ (v : World) (k r e : Int), (Qo w k r v e).2.players.length ≤ 1000 ∧ (Qo w k r v e).2.items.length ≤ 1000 := fun v k r e => by
  unfold Qo
  split <;> exact ⟨by show 0 ≤ 1000; omega, by show 0 ≤ 1000; omega⟩
 have hs := h.small
 unfold DoP
 split
 ·exact ⟨by show 0 ≤ 1000; omega, by show 0 ≤ 1000; omega⟩
 split
 ·exact ha _ _ _ _
 split
 ·exact ha _ _ _ _
 split
 ·exact ha _ _ _ _
 split
 ·exact ha _ _ _ _
 split
 ·exact ha _ _ _ _
 split
 ·exact ha _ _ _ _
 split
 ·exact ha _ _ _ _
 split
 ·exact ha _ _ _ _
 split
 ·exact ⟨Nat.le_trans (KD _ _ _) hs.at_, Nat.le_trans (Zn _ _ _) hs.where_⟩
 ·exact ⟨by show 0 ≤ 1000; omega, Nat.le_trans (Zn _ _ _) hs.where_⟩
theorem rg24 {w : World} (h : RightP w) {l : List Call} (hf : jY w.at_.length l) (o : List Int) (ho : o.length ≤ 1000) (hr : inR l o o.length) :
  ((∀ k : Nat, k < o.length → (0 ≤ (cK l o k).to → rK w l o k = (cK l o k).reply)) → qt rgood.lr24.T ql (((l, (o, ((0 : Int), ()))), (wTo w, ()))) = some (.inr ((), ()))) ∧
  ((¬ ∀ k : Nat, k < o.length → (0 ≤ (cK l o k).to → rK w l o k = (cK l o k).reply)) → qt rgood.lr24.T ql (((l, (o, ((0 : Int), ()))), (wTo w, ()))) = some (.inl ((false, ()), ()))) := by
 refine qO (T := rgood.lr24.T) (fun k => ((l, (o, ((k : Int), ()))), (wTo (wK w l o k), ()))) (fun k => 0 ≤ (cK l o k).to → rK w l o k = (cK l o k).reply) (.inl ((false, ()), ())) (.inr ((), ())) o.length (by omega) ?_ ?_ ?_
 ·intro k hk hg rec
  obtain ⟨h1, h2⟩ := ga h hf hr k (by omega)
  have hp := hf _ (Yf hr hk)
  have hx := hr k hk
  obtain ⟨s1, s2⟩ := zD h1 (cK l o k).player (cK l o k).cmd
  unfold rgood.lr24.T
  simp only [wTo]
  rw [Zk, qn (qp.2 hk), qm (by omega) (by omega), qg, q9 hx.1 hx.2, qg, show qk l (gi o (k : Int)).toNat = cK l o k from rfl, qjq h1 hp.1.1 (by rw [h2]; exact hp.1.2) _ hp.2.1 hp.2.2, qg, qK (by omega)]
  by_cases ha : 0 ≤ (cK l o k).to
  ·rw [qC ha, Bg _ _ (by omega) (by omega), qg, show (DoP (wK w l o k) (cK l o k).player (cK l o k).cmd).2 = (cK l o k).reply from hg ha, decide_eq_true rfl]
   rfl
  ·rw [jE ha]
   rfl
 ·intro k hk hg rec
  obtain ⟨h1, h2⟩ := ga h hf hr k (by omega)
  have hp := hf _ (Yf hr hk)
  have hx := hr k hk
  obtain ⟨s1, s2⟩ := zD h1 (cK l o k).player (cK l o k).cmd
  obtain ⟨ha, hne⟩ := Classical.not_imp.1 hg
  unfold rgood.lr24.T
  simp only [wTo]
  rw [Zk, qn (qp.2 hk), qm (by omega) (by omega), qg, q9 hx.1 hx.2, qg, show qk l (gi o (k : Int)).toNat = cK l o k from rfl, qjq h1 hp.1.1 (by rw [h2]; exact hp.1.2) _ hp.2.1 hp.2.2, qg,
   qC ha, Bg _ _ (by omega) (by omega), qg, decide_eq_false (show ¬ (DoP (wK w l o k) (cK l o k).player (cK l o k).cmd).2 = (cK l o k).reply from hne)]
  rfl
 ·intro rec
  unfold rgood.lr24.T
  simp only [wTo]
  rw [qw (by rw [qp]; omega)]
def zn (w : World) (l : List Call) (o : List Int) : Prop := jf l o ∧ ∀ k : Nat, k < o.length → (0 ≤ (cK l o k).to → rK w l o k = (cK l o k).reply)
theorem GC {l : List Call} {o : List Int} (h : ∀ k : Nat, k < o.length → vQ l o k) : inR l o o.length := fun j hj => (h j hj).1
open Classical in
theorem QB {w : World} (h : RightP w) {l : List Call} (hf : jY w.at_.length l) (hl : l.length ≤ 1000) (o : List Int) (ho : o.length ≤ 1000) : zB w l o = some (decide (zn w l o)) := by
 unfold zB
 obtain ⟨a1, a2⟩ := rg2 l o hl ho w
 obtain ⟨b1, b2⟩ := rg14 l o hl ho w
 by_cases h1 : ∀ k : Nat, k < o.length → vQ l o k
 ·rw [a1 h1, qg, jl]
  dsimp only
  by_cases h2 : ∀ c : Nat, c < l.length → (kZ l c → ∃ j : Nat, j < o.length ∧ gi o (j : Int) = (c : Int))
  ·rw [b1 h2, qg, jl]
   dsimp only
   obtain ⟨c1, c2⟩ := rg24 h hf o ho (GC h1)
   by_cases h3 : ∀ k : Nat, k < o.length → (0 ≤ (cK l o k).to → rK w l o k = (cK l o k).reply)
   ·rw [c1 h3, decide_eq_true (show zn w l o from ⟨⟨h1, h2⟩, h3⟩)]
    rfl
   ·rw [c2 h3, decide_eq_false (fun h : zn w l o => h3 h.2)]
    rfl
  ·rw [b2 h2, decide_eq_false (fun h : zn w l o => h2 h.1.2)]
   rfl
 ·rw [a2 h1, decide_eq_false (fun h : zn w l o => h1 h.1.1)]
  rfl
def csK (l : List Call) (o : List Int) (n : Nat) : List Call := (List.range n).map (cK l o)
noncomputable def rsK (w : World) (l : List Call) (o : List Int) (n : Nat) : List Reply := (List.range n).map (rK w l o)
theorem Mm (l : List Call) (o : List Int) (n : Nat) : csK l o (n + 1) = csK l o n ++ [cK l o n] := by
 unfold csK
 rw [List.range_succ, List.map_append]
 rfl
theorem qi6 (w : World) (l : List Call) (o : List Int) (n : Nat) : rsK w l o (n + 1) = rsK w l o n ++ [rK w l o n] := by
 unfold rsK
 rw [List.range_succ, List.map_append]
 rfl
theorem vR (l : List Call) (o : List Int) (n : Nat) : (csK l o n).length = n := by simp [csK]
theorem qdp (w : World) (l : List Call) (o : List Int) (n : Nat) : (rsK w l o n).length = n := by simp [rsK]
theorem qel (l : List Call) (o : List Int) {n k : Nat} (h : k < n) : lget (csK l o n) (k : Int) = some (cK l o k) := by
 rw [qS (by rw [vR]; exact h)]
 simp [csK]
theorem qdq (w : World) (l : List Call) (o : List Int) {n k : Nat} (h : k < n) : lget (rsK w l o n) (k : Int) = some (rK w l o k) := by
 rw [qS (by rw [qdp]; exact h)]
 simp [rsK]
theorem aall_eq {w : World} (h : RightP w) {l : List Call} (hf : jY w.at_.length l) (o : List Int) (ho : o.length ≤ 1000) (hr : inR l o o.length) : BV w (csK l o o.length) = some (wK w l o o.length, rsK w l o o.length) := by
 unfold BV
 have := qJ (T := aall.lr3.T) (fun k => (((csK l o o.length, (qh (csK l o o.length), ((k : Int), ()))), (wTo (wK w l o k), (z3, (rsK w l o k, ())))))) (((), (wTo (wK w l o o.length), (z3, (rsK w l o o.length, ()))))) o.length (by omega) (by
  intro k hk rec
  obtain ⟨h1, h2⟩ := ga h hf hr k (by omega)
  have hp := hf _ (Yf hr hk)
  unfold aall.lr3.T
  simp only [wTo, z3]
  rw [Zk, qn (by rw [ilen_eq, vR]; omega), qel l o hk, qg, Ve h1 hp.1.1 (by rw [h2]; exact hp.1.2) _ hp.2.1 hp.2.2, qg, qn (by rw [ilen_eq, qdp]; show ((k : Int) + 1) * 80 < _; omega), qK (by omega), qi6]
  rfl) (by
  intro rec
  unfold aall.lr3.T
  simp only [wTo, z3]
  rw [qw (by rw [ilen_eq, vR]; omega)])
 rw [show qt aall.lr3.T ql ((csK l o o.length, (qh (csK l o o.length), ((0 : Int), ()))), (wTo w, ((0, (0, (0, ()))), (([] : List Reply), ())))) = _ from this, qg]
theorem qge {w : World} (h : RightP w) {l : List Call} (hf : jY w.at_.length l) (o : List Int) (ho : o.length ≤ 1000) (hr : inR l o o.length) : Ji w l o = some (wK w l o o.length, rsK w l o o.length) := by
 unfold Ji
 have := qJ (T := replay.lr3.T) (fun k => (((l, (o, (qh o, ((k : Int), ())))), (wTo w, (z3, (csK l o k, ())))))) (((), (wTo w, (z3, (csK l o o.length, ()))))) o.length (by omega) (by
  intro k hk rec
  have hx := hr k hk
  unfold replay.lr3.T
  simp only [wTo, z3]
  rw [qn (by rw [ilen_eq]; omega), qm (by omega) (by omega), qg, q9 hx.1 hx.2, qg, qn (by rw [ilen_eq, vR]; show ((k : Int) + 1) * 208 < _; omega), qK (by omega), Mm]
  rfl) (by
  intro rec
  unfold replay.lr3.T
  simp only [wTo, z3]
  rw [qw (by rw [ilen_eq]; omega)])
 rw [show qt replay.lr3.T ql ((l, (o, (qh o, ((0 : Int), ())))), (wTo w, ((0, (0, (0, ()))), (([] : List Call), ())))) = _ from this, qg]
 dsimp only
 rw [show wOf (wTo w) = w from rfl, aall_eq h hf o ho hr, qg]
theorem lg5 {w : World} (h : RightP w) {l : List Call} (hf : jY w.at_.length l) (o : List Int) (ho : o.length ≤ 1000) (hr : inR l o o.length) :
  ((∀ k : Nat, k < o.length → (0 ≤ (cK l o k).to → rK w l o k = (cK l o k).reply)) → qt lgood.lr5.T ql (((l, (rsK w l o o.length, (o, (qh o, ((0 : Int), ()))))), ())) = some (.inr ((), ()))) ∧
  ((¬ ∀ k : Nat, k < o.length → (0 ≤ (cK l o k).to → rK w l o k = (cK l o k).reply)) → qt lgood.lr5.T ql (((l, (rsK w l o o.length, (o, (qh o, ((0 : Int), ()))))), ())) = some (.inl ((false, ()), ()))) := by
 refine qO (T := lgood.lr5.T) (fun k => ((l, (rsK w l o o.length, (o, (qh o, ((k : Int), ()))))), ())) (fun k => 0 ≤ (cK l o k).to → rK w l o k = (cK l o k).reply) (.inl ((false, ()), ())) (.inr ((), ())) o.length (by omega) ?_ ?_ ?_
 ·intro k hk hg rec
  obtain ⟨h1, h2⟩ := ga h hf hr k (by omega)
  have hx := hr k hk
  obtain ⟨s1, s2⟩ := zD h1 (cK l o k).player (cK l o k).cmd
  unfold lgood.lr5.T
  dsimp only
  rw [qn (qp.2 hk), qm (by omega) (by omega), qg, q9 hx.1 hx.2, qg, show qk l (gi o (k : Int)).toNat = cK l o k from rfl, ke, qg, qK (by omega)]
  by_cases ha : 0 ≤ (cK l o k).to
  ·rw [q7 (decide_eq_true ha), qdq w l o hk]
   simp only [qg]
   rw [vn (rK w l o k) _ (by unfold rK; omega) (by unfold rK; omega), qg, hg ha, decide_eq_true rfl]
   rfl
  ·rw [q8 (decide_eq_false ha)]
 ·intro k hk hg rec
  obtain ⟨h1, h2⟩ := ga h hf hr k (by omega)
  have hx := hr k hk
  obtain ⟨s1, s2⟩ := zD h1 (cK l o k).player (cK l o k).cmd
  obtain ⟨ha, hne⟩ := Classical.not_imp.1 hg
  unfold lgood.lr5.T
  dsimp only
  rw [qn (qp.2 hk), qm (by omega) (by omega), qg, q9 hx.1 hx.2, qg, show qk l (gi o (k : Int)).toNat = cK l o k from rfl, ke, qg, q7 (decide_eq_true ha), qdq w l o hk]
  simp only [qg]
  rw [vn (rK w l o k) _ (by unfold rK; omega) (by unfold rK; omega), qg, decide_eq_false hne]
  rfl
 ·intro rec
  unfold lgood.lr5.T
  dsimp only
  rw [qw (by rw [qp]; omega)]
open Classical in
theorem ZE {w : World} (h : RightP w) {l : List Call} (hf : jY w.at_.length l) (hl : l.length ≤ 1000) (o : List Int) (ho : o.length ≤ 1000) : qA w l o = some (decide (zn w l o)) := by
 unfold qA
 rw [j3 l o hl ho, qg, Zf]
 by_cases hw : jf l o
 ·have hr := GC hw.1
  rw [decide_eq_true hw, if_pos rfl, qge h hf o ho hr, qg]
  dsimp only
  obtain ⟨c1, c2⟩ := lg5 h hf o ho hr
  by_cases h3 : ∀ k : Nat, k < o.length → (0 ≤ (cK l o k).to → rK w l o k = (cK l o k).reply)
  ·rw [c1 h3, decide_eq_true (show zn w l o from ⟨hw, h3⟩)]
   rfl
  ·rw [c2 h3, decide_eq_false (fun h : zn w l o => h3 h.2)]
   rfl
 ·rw [decide_eq_false hw, if_neg (by decide), decide_eq_false (fun h : zn w l o => hw h.1)]
end Go.Sx
