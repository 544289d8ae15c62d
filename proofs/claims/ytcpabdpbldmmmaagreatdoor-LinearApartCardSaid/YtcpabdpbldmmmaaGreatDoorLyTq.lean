/-
  Orders of calls: good ones, both ways (plain).
-/
import Derived.Test.YtcpabdpbldmmmaaGreatDoorLyTp
set_option linter.unusedVariables false
set_option linter.unusedSimpArgs false
namespace Go.Sx
open Go Go.Proofs
theorem Jy {X O : Type} {T : (X → Option O) → X → Option O} (st : Nat → X) (good : Nat → Prop) (bad fin : O) (n : Nat)
  (hG : ∀ i, i < n → (∀ j, j < i → good j) → good i → ∀ rec, T rec (st i) = rec (st (i + 1))) (hB : ∀ i, i < n → (∀ j, j < i → good j) → ¬ good i → ∀ rec, T rec (st i) = some bad) (hF : (∀ j, j < n → good j) → ∀ rec, T rec (st n) = some fin) :
  ∀ (d L k : Nat), k + d = n → d < L → (∀ j, j < k → good j) → ((∀ i, i < n → good i) → qr T L (st k) = some fin) ∧ ((¬ ∀ i, i < n → good i) → qr T L (st k) = some bad)
 | d, 0, _, _, h, _ => by omega
 | 0, L + 1, k, hk, _, hj => by
   have : k = n := by omega
   subst this
   exact ⟨fun h => hF h _, fun h => absurd hj h⟩
 | d + 1, L + 1, k, hk, h, hj => by
   by_cases hg : good k
   ·have := Jy st good bad fin n hG hB hF d L (k + 1) (by omega) (by omega) (fun j hj' => by
     by_cases e : j = k
     ·rw [e]; exact hg
     ·exact hj j (by omega))
    show (_ → T (qr T L) (st k) = _) ∧ (_ → T (qr T L) (st k) = _)
    rw [hG k (by omega) hj hg]
    exact this
   ·show (_ → T (qr T L) (st k) = _) ∧ (_ → T (qr T L) (st k) = _)
    exact ⟨fun h' => absurd (h' k (by omega)) hg, fun _ => hB k (by omega) hj hg _⟩
theorem Yy {X O : Type} {T : (X → Option O) → X → Option O} (st : Nat → X) (good : Nat → Prop) (bad fin : O) (n : Nat) (hn : n < 18446744073709551616)
  (hG : ∀ i, i < n → (∀ j, j < i → good j) → good i → ∀ rec, T rec (st i) = rec (st (i + 1))) (hB : ∀ i, i < n → (∀ j, j < i → good j) → ¬ good i → ∀ rec, T rec (st i) = some bad) (hF : (∀ j, j < n → good j) → ∀ rec, T rec (st n) = some fin) :
  ((∀ i, i < n → good i) → qr T qn (st 0) = some fin) ∧ ((¬ ∀ i, i < n → good i) → qr T qn (st 0) = some bad) :=
 Jy st good bad fin n hG hB hF n qn 0 (by omega) hn (fun j h => absurd h (by omega))
def noCall : Call := ⟨0, ⟨0, 0, 0, 0, 0, [], 0, [], 0⟩, 0, 0, ⟨0, 0, 0, [], [], 0⟩⟩
def qj (l : List Call) (x : Nat) : Call := l.getD x noCall
theorem q8 {l : List Call} {x : Int} (h0 : 0 ≤ x) (h1 : x < (l.length : Int)) : lget l x = some (qj l x.toNat) := by
 rw [jd h0 h1]
 unfold qj
 rw [List.getD_eq_getElem?_getD, List.getElem?_eq_getElem (by omega)]
 rfl
theorem z9 {l : List Call} {x : Nat} (h : x < l.length) : qj l x ∈ l := by
 unfold qj
 rw [List.getD_eq_getElem?_getD, List.getElem?_eq_getElem h]
 exact List.getElem_mem _
def kE (l : List Call) (x : Nat) : Prop := 0 ≤ (qj l x).to
def qD (l : List Call) (m x : Nat) : Prop := 0 ≤ (qj l m).to ∧ (qj l m).to < (qj l x).frm
theorem zV (c : Call) : vm c = some (decide (0 ≤ c.to)) := rfl
theorem zM (a b : Call) : zl a b = some (decide (0 ≤ a.to ∧ a.to < b.frm)) := by
 unfold zl
 rw [zV, qg]
 by_cases h : 0 ≤ a.to
 ·rw [qy (decide_eq_true h)]
  congr 1
  exact decide_eq_decide.2 ⟨fun h' => ⟨h, h'⟩, fun h' => h'.2⟩
 ·rw [qz (decide_eq_false h), decide_eq_false (fun h' => h h'.1)]
def gA (l : List Call) (o : List Int) (k : Nat) : Prop :=
 (0 ≤ gi o (k : Int) ∧ gi o (k : Int) < (l.length : Int)) ∧ ∀ j : Nat, j < k → gi o (k : Int) ≠ gi o (j : Int) ∧ ¬ qD l (gi o (k : Int)).toNat (gi o (j : Int)).toNat
def je (l : List Call) (o : List Int) : Prop := (∀ k : Nat, k < o.length → gA l o k) ∧ ∀ c : Nat, c < l.length → kE l c → ∃ j : Nat, j < o.length ∧ gi o (j : Int) = (c : Int)
theorem Yv {o : List Int} {k j : Nat} (hk : k ≤ o.length) (hj : j < k) : lget (ltake o (k : Int)) (j : Int) = some (gi o (j : Int)) := by
 have : j < (o.take k).length := by rw [List.length_take]; omega
 show lget (o.take (k : Int).toNat) (j : Int) = _
 rw [Int.toNat_natCast, qP this, List.getElem_take, zN (by omega)]
theorem GD {o : List Int} {k : Nat} (hk : k ≤ o.length) : qh (ltake o (k : Int)) = (k : Int) := by
 show qh (o.take (k : Int).toNat) = _
 rw [ilen_eq, Int.toNat_natCast, List.length_take]
 omega
theorem lw9 (l : List Call) (o : List Int) (ho : o.length ≤ 1000) (k : Nat) (hk : k < o.length) (hr : ∀ j : Nat, j < k + 1 → 0 ≤ gi o (j : Int) ∧ gi o (j : Int) < (l.length : Int)) (m : Uw) :
  ((∀ j : Nat, j < k → ¬ qD l (gi o (k : Int)).toNat (gi o (j : Int)).toNat) → qr lwhole.lr9.T qn (((l, (o, (gi o (k : Int), (o, (qh o, ((k : Int), (ltake o (k : Int), (qh (ltake o (k : Int)), ((0 : Int), ()))))))))), (m, ()))) = some (.inr ((l, (o, (o, (qh o, ((k : Int), ()))))), (m, ())))) ∧
  ((¬ ∀ j : Nat, j < k → ¬ qD l (gi o (k : Int)).toNat (gi o (j : Int)).toNat) → qr lwhole.lr9.T qn (((l, (o, (gi o (k : Int), (o, (qh o, ((k : Int), (ltake o (k : Int), (qh (ltake o (k : Int)), ((0 : Int), ()))))))))), (m, ()))) = some (.inl ((false, ()), ()))) := by
 refine qK (T := lwhole.lr9.T) (fun j => ((l, (o, (gi o (k : Int), (o, (qh o, ((k : Int), (ltake o (k : Int), (qh (ltake o (k : Int)), ((j : Int), ()))))))))), (m, ()))) (fun j => ¬ qD l (gi o (k : Int)).toNat (gi o (j : Int)).toNat) (.inl ((false, ()), ())) (.inr ((l, (o, (o, (qh o, ((k : Int), ()))))), (m, ()))) k (by omega) ?_ ?_ ?_
 ·intro j hj hg rec
  unfold lwhole.lr9.T
  dsimp only
  have a := hr k (by omega)
  have b := hr j (by omega)
  rw [GD (by omega), qk (by omega), Yv (by omega) hj, qg, q8 a.1 a.2, qg, q8 b.1 b.2, qg, zM, qg, qz (decide_eq_false (show ¬ (0 ≤ (qj l (gi o (k : Int)).toNat).to ∧ (qj l (gi o (k : Int)).toNat).to < (qj l (gi o (j : Int)).toNat).frm) from hg)), qH (by omega)]
 ·intro j hj hg rec
  unfold lwhole.lr9.T
  dsimp only
  have a := hr k (by omega)
  have b := hr j (by omega)
  rw [GD (by omega), qk (by omega), Yv (by omega) hj, qg, q8 a.1 a.2, qg, q8 b.1 b.2, qg, zM, qg, qy (decide_eq_true (show 0 ≤ (qj l (gi o (k : Int)).toNat).to ∧ (qj l (gi o (k : Int)).toNat).to < (qj l (gi o (j : Int)).toNat).frm from Classical.not_not.1 hg))]
 ·intro rec
  unfold lwhole.lr9.T
  dsimp only
  rw [GD (by omega), qu (by omega)]
theorem lw3 (l : List Call) (o : List Int) (hl : l.length ≤ 1000) (ho : o.length ≤ 1000) :
  ((∀ k : Nat, k < o.length → gA l o k) → qr lwhole.lr3.T qn (((l, (o, (o, (qh o, ((0 : Int), ()))))), (([] : Uw), ()))) = some (.inr ((l, ()), (zp o o.length, ())))) ∧
  ((¬ ∀ k : Nat, k < o.length → gA l o k) → qr lwhole.lr3.T qn (((l, (o, (o, (qh o, ((0 : Int), ()))))), (([] : Uw), ()))) = some (.inl ((false, ()), ()))) := by
 refine Yy (T := lwhole.lr3.T) (fun k => ((l, (o, (o, (qh o, ((k : Int), ()))))), (zp o k, ()))) (gA l o) (.inl ((false, ()), ())) (.inr ((l, ()), (zp o o.length, ()))) o.length (by omega) ?_ ?_ ?_
 ·intro k hk hb hg rec
  unfold lwhole.lr3.T
  dsimp only
  have hs : odef (@jo (Kd.int .i64) Kd.bool (zp o k) (gi o (k : Int))) false = false := by
   cases h : odef (@jo (Kd.int .i64) Kd.bool (zp o k) (gi o (k : Int))) false with
   | false => rfl
   | true =>
     obtain ⟨j, h1, h2⟩ := (zP o _ k).1 h
     exact absurd h2.symm (hg.2 j h1).1
  obtain ⟨l1, l2⟩ := lw9 l o ho k hk (fun j hj => by
   by_cases e : j = k
   ·rw [e]; exact hg.1
   ·exact (hb j (by omega)).1) (@gV (Kd.int .i64) Kd.bool (zp o k) (gi o (k : Int)) true)
  rw [qk (qp.2 hk), qm (by omega) (by omega), qg, qu (by have := hg.1.1; omega), jG (by rw [ilen_eq]; have := hg.1.2; omega), hs, qz rfl, qB (by omega), qB (by rw [ilen_eq]; omega), l1 (fun j hj => (hg.2 j hj).2), qg, ji, qH (by omega)]
  rfl
 ·intro k hk hb hg rec
  unfold lwhole.lr3.T
  dsimp only
  rw [qk (qp.2 hk), qm (by omega) (by omega), qg]
  by_cases h0 : gi o (k : Int) < 0
  ·rw [qk h0]
  rw [qu h0]
  by_cases h1 : qh l ≤ gi o (k : Int)
  ·rw [qB h1]
  rw [jG h1]
  rw [ilen_eq] at h1
  by_cases hs : odef (@jo (Kd.int .i64) Kd.bool (zp o k) (gi o (k : Int))) false = true
  ·rw [qy hs]
  have hs := Bool.eq_false_iff.2 hs
  obtain ⟨l1, l2⟩ := lw9 l o ho k hk (fun j hj => by
   by_cases e : j = k
   ·rw [e]; exact ⟨by omega, by omega⟩
   ·exact (hb j (by omega)).1) (@gV (Kd.int .i64) Kd.bool (zp o k) (gi o (k : Int)) true)
  rw [hs, qz rfl, qB (by omega), qB (by rw [ilen_eq]; omega), l2 (fun hall => hg ⟨⟨by omega, by omega⟩, fun j hj => ⟨fun e => absurd ((zP o _ k).2 ⟨j, hj, e.symm⟩) (by rw [hs]; decide), hall j hj⟩⟩), qg, ve]
 ·intro hall rec
  unfold lwhole.lr3.T
  dsimp only
  rw [qu (by rw [qp]; omega)]
theorem lw16 (l : List Call) (o : List Int) (hl : l.length ≤ 1000) :
  ((∀ c : Nat, c < l.length → (kE l c → ∃ j : Nat, j < o.length ∧ gi o (j : Int) = (c : Int))) → qr lwhole.lr16.T qn (((l, (qh l, ((0 : Int), ()))), (zp o o.length, ()))) = some (.inr ((), ()))) ∧
  ((¬ ∀ c : Nat, c < l.length → (kE l c → ∃ j : Nat, j < o.length ∧ gi o (j : Int) = (c : Int))) → qr lwhole.lr16.T qn (((l, (qh l, ((0 : Int), ()))), (zp o o.length, ()))) = some (.inl ((false, ()), ()))) := by
 refine qK (T := lwhole.lr16.T) (fun c => ((l, (qh l, ((c : Int), ()))), (zp o o.length, ()))) (fun c => kE l c → ∃ j : Nat, j < o.length ∧ gi o (j : Int) = (c : Int)) (.inl ((false, ()), ())) (.inr ((), ())) l.length (by omega) ?_ ?_ ?_
 ·intro c hc hg rec
  unfold lwhole.lr16.T
  dsimp only
  rw [qk (qp.2 hc), q8 (by omega) (by omega), qg, zV, qg, Int.toNat_natCast, qH (by omega)]
  by_cases ha : 0 ≤ (qj l c).to
  ·rw [qy (decide_eq_true ha), (zP o (c : Int) o.length).2 (hg ha), qz (b := bnot true) rfl]
  ·rw [qz (decide_eq_false ha)]
 ·intro c hc hg rec
  unfold lwhole.lr16.T
  dsimp only
  obtain ⟨ha, hno⟩ := Classical.not_imp.1 hg
  have hs : odef (@jo (Kd.int .i64) Kd.bool (zp o o.length) (c : Int)) false = false := by
   cases h : odef (@jo (Kd.int .i64) Kd.bool (zp o o.length) (c : Int)) false with
   | false => rfl
   | true => exact absurd ((zP o _ o.length).1 h) hno
  rw [qk (qp.2 hc), q8 (by omega) (by omega), qg, zV, qg, Int.toNat_natCast, qy (decide_eq_true (show 0 ≤ (qj l c).to from ha)), hs, qy (b := bnot false) rfl]
 ·intro rec
  unfold lwhole.lr16.T
  dsimp only
  rw [qu (by rw [qp]; omega)]
open Classical in
theorem j1 (l : List Call) (o : List Int) (hl : l.length ≤ 1000) (ho : o.length ≤ 1000) : jX l o = some (decide (je l o)) := by
 unfold jX
 obtain ⟨a1, a2⟩ := lw3 l o hl ho
 obtain ⟨b1, b2⟩ := lw16 l o hl
 by_cases h1 : ∀ k : Nat, k < o.length → gA l o k
 ·rw [show qr lwhole.lr3.T qn _ = _ from a1 h1, qg, ji]
  dsimp only
  by_cases h2 : ∀ c : Nat, c < l.length → (kE l c → ∃ j : Nat, j < o.length ∧ gi o (j : Int) = (c : Int))
  ·rw [b1 h2, decide_eq_true (show je l o from ⟨h1, h2⟩)]
   rfl
  ·rw [b2 h2, decide_eq_false (fun h : je l o => h2 h.2)]
   rfl
 ·rw [show qr lwhole.lr3.T qn _ = _ from a2 h1, decide_eq_false (fun h : je l o => h1 h.1)]
  rfl
theorem rg7 (l : List Call) (o : List Int) (ho : o.length ≤ 1000) (k : Nat) (hk : k < o.length) (hr : ∀ j : Nat, j < k + 1 → 0 ≤ gi o (j : Int) ∧ gi o (j : Int) < (l.length : Int)) (w : World) :
  ((∀ j : Nat, j < k → gi o (k : Int) ≠ gi o (j : Int) ∧ ¬ qD l (gi o (k : Int)).toNat (gi o (j : Int)).toNat) → qr rgood.lr7.T qn (((l, (o, ((k : Int), ((0 : Int), ())))), (wTo w, ()))) = some (.inr ((l, (o, ((k : Int), ()))), (wTo w, ())))) ∧
  ((¬ ∀ j : Nat, j < k → gi o (k : Int) ≠ gi o (j : Int) ∧ ¬ qD l (gi o (k : Int)).toNat (gi o (j : Int)).toNat) → qr rgood.lr7.T qn (((l, (o, ((k : Int), ((0 : Int), ())))), (wTo w, ()))) = some (.inl ((false, ()), ()))) := by
 refine qK (T := rgood.lr7.T) (fun j => ((l, (o, ((k : Int), ((j : Int), ())))), (wTo w, ()))) (fun j => gi o (k : Int) ≠ gi o (j : Int) ∧ ¬ qD l (gi o (k : Int)).toNat (gi o (j : Int)).toNat) (.inl ((false, ()), ())) (.inr ((l, (o, ((k : Int), ()))), (wTo w, ()))) k (by omega) ?_ ?_ ?_
 ·intro j hj hg rec
  unfold rgood.lr7.T
  simp only [wTo]
  have a := hr k (by omega)
  have b := hr j (by omega)
  rw [qk (by omega), qm (by omega) (by omega), qg, q8 b.1 b.2, qg, qm (by omega) (by omega), qg, q8 a.1 a.2]
  simp only [qg]
  rw [qI hg.1, qH (by omega)]
  by_cases h0 : 0 ≤ (qj l (gi o (k : Int)).toNat).to
  ·rw [qB h0, qu (fun h => hg.2 ⟨h0, h⟩)]
  ·rw [jG h0]
 ·intro j hj hg rec
  unfold rgood.lr7.T
  simp only [wTo]
  have a := hr k (by omega)
  have b := hr j (by omega)
  rw [qk (by omega), qm (by omega) (by omega), qg, q8 b.1 b.2, qg, qm (by omega) (by omega), qg, q8 a.1 a.2]
  simp only [qg]
  by_cases he : gi o (k : Int) = gi o (j : Int)
  ·rw [qM he]
  ·have : qD l (gi o (k : Int)).toNat (gi o (j : Int)).toNat := Classical.not_not.1 fun h => hg ⟨he, h⟩
   rw [qI he, qB this.1, qk this.2]
 ·intro rec
  unfold rgood.lr7.T
  simp only [wTo]
  rw [qu (by omega)]
theorem rg2 (l : List Call) (o : List Int) (hl : l.length ≤ 1000) (ho : o.length ≤ 1000) (w : World) :
  ((∀ k : Nat, k < o.length → gA l o k) → qr rgood.lr2.T qn (((l, (o, ((0 : Int), ()))), (wTo w, ()))) = some (.inr ((l, (o, ())), (wTo w, ())))) ∧
  ((¬ ∀ k : Nat, k < o.length → gA l o k) → qr rgood.lr2.T qn (((l, (o, ((0 : Int), ()))), (wTo w, ()))) = some (.inl ((false, ()), ()))) := by
 refine Yy (T := rgood.lr2.T) (fun k => ((l, (o, ((k : Int), ()))), (wTo w, ()))) (gA l o) (.inl ((false, ()), ())) (.inr ((l, (o, ())), (wTo w, ()))) o.length (by omega) ?_ ?_ ?_
 ·intro k hk hb hg rec
  unfold rgood.lr2.T
  dsimp only
  obtain ⟨l1, l2⟩ := rg7 l o ho k hk (fun j hj => by
   by_cases e : j = k
   ·rw [e]; exact hg.1
   ·exact (hb j (by omega)).1) w
  rw [qk (qp.2 hk), qm (by omega) (by omega), qg, qu (by have := hg.1.1; omega), qg, jG (by rw [ilen_eq]; have := hg.1.2; omega), show qr rgood.lr7.T qn _ = _ from l1 hg.2, qg, ji, qH (by omega)]
 ·intro k hk hb hg rec
  unfold rgood.lr2.T
  dsimp only
  rw [qk (qp.2 hk), qm (by omega) (by omega), qg]
  by_cases h0 : gi o (k : Int) < 0
  ·rw [qk h0]
  rw [qu h0, qg]
  by_cases h1 : qh l ≤ gi o (k : Int)
  ·rw [qB h1]
  rw [jG h1]
  rw [ilen_eq] at h1
  obtain ⟨l1, l2⟩ := rg7 l o ho k hk (fun j hj => by
   by_cases e : j = k
   ·rw [e]; exact ⟨by omega, by omega⟩
   ·exact (hb j (by omega)).1) w
  rw [show qr rgood.lr7.T qn _ = _ from l2 (fun h => hg ⟨⟨by omega, by omega⟩, h⟩), qg, ve]
 ·intro hall rec
  unfold rgood.lr2.T
  dsimp only
  rw [qu (by rw [qp]; omega)]
open Classical in
theorem rg18 (l : List Call) (o : List Int) (ho : o.length ≤ 1000) (c : Nat) (w : World) :
  qr rgood.lr18.T qn (((l, (o, ((c : Int), (false, ((0 : Int), ()))))), (wTo w, ()))) = some ((l, (o, ((c : Int), (decide (∃ j : Nat, j < o.length ∧ gi o (j : Int) = (c : Int)), ())))), (wTo w, ())) := by
 refine Eq.trans (congrArg (qr rgood.lr18.T qn) ?_) (qG (T := rgood.lr18.T) (fun k => ((l, (o, ((c : Int), (decide (∃ j : Nat, j < k ∧ gi o (j : Int) = (c : Int)), ((k : Int), ()))))), (wTo w, ()))) ((l, (o, ((c : Int), (decide (∃ j : Nat, j < o.length ∧ gi o (j : Int) = (c : Int)), ())))), (wTo w, ())) o.length (by omega) ?_ ?_)
 ·rw [decide_eq_false (p := ∃ j : Nat, j < 0 ∧ gi o (j : Int) = (c : Int)) (fun ⟨j, h, _⟩ => by omega)]
  rfl
 ·intro k hk rec
  unfold rgood.lr18.T
  simp only [wTo]
  rw [qk (qp.2 hk), qH (by omega)]
  by_cases h : ∃ j : Nat, j < k ∧ gi o (j : Int) = (c : Int)
  ·rw [qy (decide_eq_true h), decide_eq_true (show ∃ j : Nat, j < k + 1 ∧ gi o (j : Int) = (c : Int) from ⟨h.choose, by have := h.choose_spec.1; omega, h.choose_spec.2⟩)]
  ·rw [qz (decide_eq_false h), qm (by omega) (by omega), qg]
   have : ieq (gi o (k : Int)) (c : Int) = decide (∃ j : Nat, j < k + 1 ∧ gi o (j : Int) = (c : Int)) := by
    refine decide_eq_decide.2 ⟨fun e => ⟨k, by omega, e⟩, fun ⟨j, h1, h2⟩ => ?_⟩
    by_cases e : j = k
    ·rw [← e]; exact h2
    ·exact absurd ⟨j, by omega, h2⟩ h
   rw [this]
 ·intro rec
  unfold rgood.lr18.T
  simp only [wTo]
  rw [qu (by rw [qp]; omega)]
open Classical in
theorem rg14 (l : List Call) (o : List Int) (hl : l.length ≤ 1000) (ho : o.length ≤ 1000) (w : World) :
  ((∀ c : Nat, c < l.length → (kE l c → ∃ j : Nat, j < o.length ∧ gi o (j : Int) = (c : Int))) → qr rgood.lr14.T qn (((l, (o, ((0 : Int), ()))), (wTo w, ()))) = some (.inr ((l, (o, ())), (wTo w, ())))) ∧
  ((¬ ∀ c : Nat, c < l.length → (kE l c → ∃ j : Nat, j < o.length ∧ gi o (j : Int) = (c : Int))) → qr rgood.lr14.T qn (((l, (o, ((0 : Int), ()))), (wTo w, ()))) = some (.inl ((false, ()), ()))) := by
 refine qK (T := rgood.lr14.T) (fun c => ((l, (o, ((c : Int), ()))), (wTo w, ()))) (fun c => kE l c → ∃ j : Nat, j < o.length ∧ gi o (j : Int) = (c : Int)) (.inl ((false, ()), ())) (.inr ((l, (o, ())), (wTo w, ()))) l.length (by omega) ?_ ?_ ?_
 ·intro c hc hg rec
  unfold rgood.lr14.T
  dsimp only
  rw [qk (qp.2 hc), rg18 l o ho c w, qg]
  dsimp only
  rw [q8 (by omega) (by omega), qg, Int.toNat_natCast, qH (by omega)]
  by_cases ha : 0 ≤ (qj l c).to
  ·rw [qB ha, decide_eq_true (hg ha), qz (b := bnot true) rfl]
  ·rw [jG ha]
 ·intro c hc hg rec
  unfold rgood.lr14.T
  dsimp only
  obtain ⟨ha, hno⟩ := Classical.not_imp.1 hg
  rw [qk (qp.2 hc), rg18 l o ho c w, qg]
  dsimp only
  rw [q8 (by omega) (by omega), qg, Int.toNat_natCast, qB ha, decide_eq_false hno, qy (b := bnot false) rfl]
 ·intro rec
  unfold rgood.lr14.T
  dsimp only
  rw [qu (by rw [qp]; omega)]
end Go.Sx
