/-
  Worlds: within, heights (plain).
-/
import Derived.Test.YtcpabdpbldmmmaaGreatDoorLyTh
set_option linter.unusedVariables false
set_option linter.unusedSimpArgs false
namespace Go.Sx
open Go Go.Proofs
theorem InW.out {ws : List Place} {b j : Nat} (h : InW ws b j) (hn : j ≠ b) : (upW ws j).kind = 2 ∧ InW ws b (upW ws j).id.toNat := by
 cases h with
 | refl => exact absurd rfl hn
 | step _ hk t => exact ⟨hk, t⟩
theorem BJ (ws : List Place) (b : Int) (hb : 0 ≤ b) : ∀ (n : Nat) (j : Int) (l : List Place), pathF n ws j = some l → ((j = b ∨ (⟨2, b⟩ : Place) ∈ l) ↔ InW ws b.toNat j.toNat)
 | 0, _, _, h => by cases h
 | n + 1, j, l, h => by
   unfold pathF at h
   obtain ⟨p, hp, h⟩ := Option.bind_eq_some_iff.1 h
   have hj : 0 ≤ j ∧ p = upW ws j.toNat := by
    unfold lget at hp
    split at hp
    ·rename_i h0
     obtain ⟨h1, h2⟩ := List.getElem?_eq_some_iff.1 hp
     exact ⟨h0, by rw [zI h1, h2]⟩
    ·cases hp
   obtain ⟨hj0, hpu⟩ := hj
   split at h
   ·rename_i hk
    obtain ⟨r, hr, rfl⟩ := Option.map_eq_some_iff.1 h
    have ih := BJ ws b hb n p.id r hr
    have hp0 : 0 ≤ p.id := by
     obtain ⟨⟨q, hq, _⟩, _⟩ := QV hr
     unfold lget at hq
     split at hq
     ·assumption
     ·cases hq
    constructor
    ·rintro (rfl | hm)
     ·exact .refl
     ·refine .step _ (by rw [← hpu]; exact hk) ?_
      rw [← hpu]
      refine ih.1 ?_
      rcases List.mem_cons.1 hm with e | e
      ·exact .inl (by rw [← e])
      ·exact .inr e
    ·intro hin
     by_cases e : j = b
     ·exact .inl e
     ·right
      have hne : j.toNat ≠ b.toNat := by omega
      obtain ⟨_, t⟩ := hin.out hne
      rw [← hpu] at t
      rcases ih.2 t with e1 | e1
      ·refine List.mem_cons.2 (.inl ?_)
       obtain ⟨k, d⟩ := p
       simp only at hk e1
       rw [hk, e1]
      ·exact List.mem_cons_of_mem _ e1
   ·rename_i hk
    cases h
    constructor
    ·rintro (rfl | hm)
     ·exact .refl
     ·rw [List.mem_singleton] at hm
      exact absurd (by rw [← hm]) hk
    ·intro hin
     by_cases e : j = b
     ·exact .inl e
     ·have hne : j.toNat ≠ b.toNat := by omega
      exact absurd (by rw [hpu]; exact (hin.out hne).1) hk
open Classical in
theorem VS {w : World} (h : RightP w) {j b : Int} (hb : 0 ≤ b) (h0 : 0 ≤ j) (h1 : j < (w.where_.length : Int)) : zx w j b = some (decide (InW w.where_ b.toNat j.toNat)) := by
 obtain ⟨l, d, hp⟩ := gS h h0 h1
 have hin := BJ w.where_ b hb 100 j l hp.path
 unfold zx
 by_cases e : j = b
 ·rw [if_pos e, decide_eq_true (hin.1 (.inl e))]
 ·rw [if_neg e, hp.path]
  simp only [Option.map_some]
  congr 1
  rw [Bool.eq_iff_iff, List.any_eq_true, decide_eq_true_eq, ← hin]
  simp only [decide_eq_true_eq]
  exact ⟨fun ⟨p, h1, h2⟩ => .inr (h2 ▸ h1), fun h => ⟨_, h.resolve_left e, rfl⟩⟩
open Classical in
theorem NG {w : World} (h : RightP w) {j b : Int} (hb : 0 ≤ b) (h0 : 0 ≤ j) (h1 : j < (w.where_.length : Int)) : Gi w j b = some (decide (InW w.where_ b.toNat j.toNat)) := by
 obtain ⟨l, d, hp⟩ := gS h h0 h1
 have hin := BJ w.where_ b hb 100 j l hp.path
 rw [show Gi w j b = Q0 100 w j b from rfl, KA w b 100 j l hp.path]
 congr 1
 rw [Bool.eq_iff_iff, Bool.or_eq_true, List.any_eq_true, decide_eq_true_eq, decide_eq_true_eq, ← hin]
 simp only [decide_eq_true_eq]
 exact ⟨fun h => h.elim .inl fun ⟨p, h1, h2⟩ => .inr (h2 ▸ h1), fun h => h.elim .inl fun h => .inr ⟨_, h, rfl⟩⟩
def jL (w : World) (k : Int) : Nat := ((pathF 100 w.where_ k).getD []).length - 1
theorem kQ {w : World} (h : RightP w) {i : Int} (h0 : 0 ≤ i) (h1 : i < (w.where_.length : Int)) : kM w i = some (jL w i : Int) ∧ Dep w.where_ (upW w.where_ i.toNat) (jL w i) ∧ jL w i ≤ 4 := by
 obtain ⟨l, d, hp⟩ := gS h h0 h1
 have e : jL w i = d := by
  unfold jL
  rw [hp.path]
  show l.length - 1 = d
  rw [hp.len]
  omega
 rw [e]
 refine ⟨?_, hp.dep, hp.d4⟩
 unfold kM
 rw [hp.path]
 simp only [Option.map_some]
 rw [hp.len]
 congr 1
 omega
theorem dep_in {ws : List Place} {b j d d0 : Nat} (hj : InW ws b j) (h0 : Dep ws (upW ws b) d0) (hd : Dep ws (upW ws j) d) : d0 ≤ d := by
 induction hj generalizing d with
 | refl => rw [hd.inj h0]; exact Nat.le_refl _
 | step i h t ih => cases hd with
   | base _ h' => exact absurd h h'
   | step _ _ d t' =>
     have := ih t'
     omega
open Classical in
noncomputable def hiN (w : World) (i : Int) : Nat → Nat
 | 0 => 0
 | k + 1 => if InW w.where_ i.toNat k then max (hiN w i k) (jL w (k : Int) - jL w i) else hiN w i k
open Classical in
theorem qhb (w : World) (i : Int) : ∀ (n j : Nat), j < n → InW w.where_ i.toNat j → jL w (j : Int) - jL w i ≤ hiN w i n
 | 0, j, h, _ => by omega
 | n + 1, j, h, hin => by
   unfold hiN
   by_cases e : j = n
   ·subst e
    rw [if_pos hin]
    exact Nat.le_max_right _ _
   ·have := qhb w i n j (by omega) hin
    split
    ·exact Nat.le_trans this (Nat.le_max_left _ _)
    ·exact this
open Classical in
theorem M9 (w : World) (i : Int) : ∀ (n : Nat), hiN w i n = 0 ∨ ∃ j, j < n ∧ InW w.where_ i.toNat j ∧ jL w (j : Int) - jL w i = hiN w i n
 | 0 => .inl rfl
 | n + 1 => by
   unfold hiN
   split
   ·rename_i hin
    rcases Nat.le_total (hiN w i n) (jL w (n : Int) - jL w i) with h | h
    ·rw [Nat.max_eq_right h]
     exact .inr ⟨n, by omega, hin, rfl⟩
    ·rw [Nat.max_eq_left h]
     rcases M9 w i n with h' | ⟨j, h1, h2, h3⟩
     ·exact .inl h'
     ·exact .inr ⟨j, by omega, h2, h3⟩
   ·rcases M9 w i n with h' | ⟨j, h1, h2, h3⟩
    ·exact .inl h'
    ·exact .inr ⟨j, by omega, h2, h3⟩
open Classical in
theorem qha (w : World) (h : RightP w) (i : Int) : ∀ n, n ≤ w.where_.length → hiN w i n ≤ 4
 | 0, _ => by unfold hiN; omega
 | n + 1, hn => by
   unfold hiN
   have := qha w h i n (by omega)
   have := (kQ h (i := (n : Int)) (by omega) (by omega)).2.2
   split <;> omega
open Classical in
theorem N8 {w : World} (h : RightP w) {i : Int} (h0 : 0 ≤ i) (h1 : i < (w.where_.length : Int)) : gn w i = some (hiN w i w.where_.length : Int) := by
 have hs := h.small.where_
 unfold gn
 have e := qG (T := theight.lr3.T) (fun k => ((i, (((hiN w i k : Nat) : Int), (qh w.where_, ((k : Int), ())))), (wTo w, ()))) ((((hiN w i w.where_.length : Nat) : Int), ()), ()) w.where_.length (by omega) ?_ ?_
 ·rw [show qr theight.lr3.T qn ((i, ((0 : Int), (qh w.where_, ((0 : Int), ())))), (wTo w, ())) = _ from e]
  rfl
 ·intro k hk rec
  obtain ⟨e1, d1, l1⟩ := kQ h (i := (k : Int)) (by omega) (by omega)
  obtain ⟨e2, d2, l2⟩ := kQ h h0 h1
  unfold theight.lr3.T
  simp only [wTo]
  rw [qk (by rw [ilen_eq]; omega), JQ, VS h h0 (by omega) (by omega), qg, qH (by omega)]
  simp only [Int.toNat_natCast]
  by_cases hin : InW w.where_ i.toNat k
  ·rw [qy (decide_eq_true hin), e1, qg, e2, qg]
   have hle := dep_in hin d2 (by simpa using d1)
   have hw : wrap .i64 (isub (jL w (k : Int) : Int) (jL w i : Int)) = ((jL w (k : Int) - jL w i : Nat) : Int) := by
    show wrap .i64 ((jL w (k : Int) : Int) - (jL w i : Int)) = _
    rw [qO (by omega) (by omega)]
    omega
   have hm : BK (hiN w i k : Int) ((jL w (k : Int) - jL w i : Nat) : Int) = ((hiN w i (k + 1) : Nat) : Int) := by
    show _ = (((if InW w.where_ i.toNat k then max (hiN w i k) (jL w (k : Int) - jL w i) else hiN w i k) : Nat) : Int)
    rw [if_pos hin]
    unfold BK
    split <;> omega
   rw [hw, hm]
  ·rw [qz (decide_eq_false hin)]
   have : hiN w i (k + 1) = hiN w i k := by
    show (if InW w.where_ i.toNat k then max (hiN w i k) (jL w (k : Int) - jL w i) else hiN w i k) = _
    rw [if_neg hin]
   rw [this]
 ·intro rec
  unfold theight.lr3.T
  simp only [wTo]
  rw [qu (by rw [ilen_eq]; omega)]
end Go.Sx
