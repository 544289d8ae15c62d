/-
  Worlds: into boxes; what keeps a world right (plain).
-/
import Derived.Test.YtcpabdpbldmmmaaGreatDoorLyTj
set_option linter.unusedVariables false
set_option linter.unusedSimpArgs false
namespace Go.Sx
open Go Go.Proofs
theorem gW {α : Type} {l : List α} {i : Nat} {a x : α} (h : x ∈ l.set i a) : x = a ∨ x ∈ l := by
 rcases List.mem_or_eq_of_mem_set h with h | h
 ·exact .inr h
 ·exact .inl h
theorem ZO {ws : List Place} {j : Nat} (h : j < ws.length) : upW ws j ∈ ws := by
 rw [zI h]
 exact List.getElem_mem h
theorem qgq {ws : List Place} {p : Place} (h : p ∈ ws) : ∃ j, j < ws.length ∧ upW ws j = p := by
 obtain ⟨j, hj, e⟩ := List.mem_iff_getElem.1 h
 exact ⟨j, hj, by rw [zI hj, e]⟩
theorem qbp {ws : List Place} {it : Nat} {t : Place} (hit : it < ws.length) (ht : t.kind ≠ 2) {j d : Nat} (h : Dep ws (upW ws j) d) : ∃ d', d' ≤ d ∧ Dep (ws.set it t) (upW (ws.set it t) j) d' := by
 generalize hq : upW ws j = q at h
 induction h generalizing j with
 | base q h =>
   by_cases e : j = it
   ·subst e
    rw [ZN hit]
    exact ⟨0, Nat.le_refl _, .base _ ht⟩
   ·rw [zH e, hq]
    exact ⟨0, Nat.le_refl _, .base _ h⟩
 | step q h d tl ih =>
   by_cases e : j = it
   ·subst e
    rw [ZN hit]
    exact ⟨0, Nat.zero_le _, .base _ ht⟩
   ·rw [zH e, hq]
    obtain ⟨d', h1, h2⟩ := ih rfl
    exact ⟨d' + 1, by omega, .step _ h _ h2⟩
theorem kf (w : World) (i : Int) (t : Place) : (toP w i t).where_ = w.where_.set i.toNat t := rfl
theorem DI {w : World} (h : RightP w) {i : Int} (i0 : 0 ≤ i) (i1 : i < (w.where_.length : Int)) {t : Place} (ht : AtOK w.desc t) (hr : ¬ jl w t < 1)
  (hd : ∀ j, j < w.where_.length → ∃ d, d ≤ 4 ∧ Dep (w.where_.set i.toNat t) (upW (w.where_.set i.toNat t) j) d) : RightP (toP w i t) where
 may := h.may
 at_len := h.at_len
 coins_len := h.coins_len
 where_len := by rw [kf, List.length_set]; exact h.where_len
 at_ok := h.at_ok
 coins_ok := h.coins_ok
 where_ok := fun p hp => by
  rcases gW hp with e | e
  ·rw [e]; exact ht
  ·exact h.where_ok p e
 deep := fun p hp => by
  obtain ⟨j, hj, e⟩ := qgq hp
  rw [kf, List.length_set] at hj
  obtain ⟨d, h1, h2⟩ := hd j hj
  rw [kf] at e
  rw [e] at h2
  exact ⟨d, h1, h2⟩
 many := fun p hp => by
  have hi : i.toNat < w.where_.length := by omega
  have hm := Q9 p t w.where_ i.toNat hi
  show ((manyW (w.where_.set i.toNat t) p : Nat) : Int) ≤ capW w p.kind
  unfold jl at hr
  by_cases e : t = p
  ·subst e
   rw [if_pos rfl] at hm
   split at hm <;> omega
  ·rw [if_neg e] at hm
   rcases gW hp with e' | e'
   ·exact absurd e'.symm e
   ·have := h.many p e'
    split at hm <;> omega
theorem ZX {w : World} (h : RightP w) {i : Int} (i0 : 0 ≤ i) (i1 : i < (w.where_.length : Int)) {t : Place} (ht : AtOK w.desc t) (hk : t.kind ≠ 2) : RightP (z7 w i t).1 := by
 unfold z7
 split
 ·exact h
 ·rename_i hr
  refine DI h i0 i1 ht hr fun j hj => ?_
  obtain ⟨d, h1, h2⟩ := h.deep _ (ZO hj)
  obtain ⟨d', h3, h4⟩ := qbp (it := i.toNat) (by omega) hk h2
  exact ⟨d', by omega, h4⟩
theorem ZA {w : World} (h : RightP w) {p : Int} (p0 : 0 ≤ p) (p1 : p < (w.at_.length : Int)) : AtOK w.desc ⟨1, p⟩ := .inr (.inl ⟨rfl, p0, by have := h.at_len; show p < _; omega⟩)
theorem at_room {w : World} (h : RightP w) {p : Int} (p0 : 0 ≤ p) (p1 : p < (w.at_.length : Int)) : AtOK w.desc ⟨0, gi w.at_ p⟩ := .inl ⟨rfl, (h.at_ok _ (vp p0 p1)).1, (h.at_ok _ (vp p0 p1)).2⟩
theorem DK {w : World} (h : RightP w) (i : Int) (f : Place) {t : Place} (ht : AtOK w.desc t) (hk : t.kind ≠ 2) : RightP (mvP w i f t).1 := by
 unfold mvP
 split
 ·rename_i e
  split
  ·exact ZX h e.1 e.2 ht hk
  ·exact h
 ·exact h
theorem qct {w : World} (h : RightP w) {p : Int} (p0 : 0 ≤ p) (p1 : p < (w.at_.length : Int)) (i : Int) : RightP (RL w p i).1 := DK h i _ (ZA h p0 p1) (by decide : (1:Int) ≠ 2)
theorem NU {w : World} (h : RightP w) {p : Int} (p0 : 0 ≤ p) (p1 : p < (w.at_.length : Int)) (i : Int) : RightP (Va w p i).1 := DK h i _ (at_room h p0 p1) (by decide : (0:Int) ≠ 2)
theorem NT {w : World} (h : RightP w) (p i q : Int) : RightP (vM w p i q).1 := by
 unfold vM
 split
 ·rename_i e
  split
  ·rename_i e'
   split
   ·exact h
   ·split
    ·split
     ·exact ZX h e.1 e.2 (ZA h e'.1 e'.2) (by decide : (1:Int) ≠ 2)
     ·exact h
    ·exact h
  ·exact h
 ·exact h
theorem NR {w : World} (h : RightP w) {p : Int} (p0 : 0 ≤ p) (p1 : p < (w.at_.length : Int)) (i b : Int) : RightP (vB w p i b).1 := by
 unfold vB
 split
 ·rename_i e
  split
  ·split
   ·split
    ·split
     ·exact ZX h e.1 e.2 (ZA h p0 p1) (by decide : (1:Int) ≠ 2)
     ·exact h
    ·exact h
   ·exact h
  ·exact h
 ·exact h
theorem qfu {w : World} (h : RightP w) (p : Int) {r : Int} (r0 : 0 ≤ r) (r1 : r < (w.desc.exits.length : Int)) : RightP (atP w p r) where
 may := h.may
 at_len := by show (w.at_.set p.toNat r).length = _; rw [List.length_set]; exact h.at_len
 coins_len := h.coins_len
 where_len := h.where_len
 at_ok := fun x hx => by
  rcases gW hx with e | e
  ·rw [e]; exact ⟨r0, r1⟩
  ·exact h.at_ok x e
 coins_ok := h.coins_ok
 where_ok := h.where_ok
 deep := h.deep
 many := h.many
theorem Gp {w : World} (h : RightP w) {p : Int} (p0 : 0 ≤ p) (p1 : p < (w.at_.length : Int)) {d : Int} (d0 : 0 ≤ d) (d1 : d < 4) : RightP (zE w p d).1 := by
 obtain ⟨e, he, hx, hok⟩ := Z3 h p0 p1 d0 d1
 unfold zE
 split
 ·exact h
 ·rename_i hne
  have := hok.resolve_left hne
  exact qfu h p this.1 this.2
theorem NS {w : World} (h : RightP w) (p q : Int) {d : Int} (d0 : 0 ≤ d) (d1 : d < 4) : RightP (vh w p q d).1 := by
 unfold vh
 split
 ·rename_i e
  split
  ·exact h
  ·split
   ·exact Gp h e.1 e.2 d0 d1
   ·exact h
 ·exact h
open Classical in
noncomputable def Zf (w : World) (p i b : Int) : World × Int :=
 if 0 ≤ i ∧ i < (w.where_.length : Int) then
  (if 0 ≤ b ∧ b < (w.where_.length : Int) then
   (if upW w.where_ i.toNat = ⟨1, p⟩ then
    (if vG w p b then
     (if Nk w b = true then
      (if InW w.where_ i.toNat b.toNat then (w, 7) else if 4 < jL w b + 1 + hiN w i w.where_.length then (w, 8) else z7 w i ⟨2, b⟩)
     else (w, 6))
    else (w, 5))
   else (w, 5))
  else (w, 3))
 else (w, 3)
open Classical in
theorem bput_eq {w : World} (h : RightP w) {p : Int} (p0 : 0 ≤ p) (p1 : p < (w.at_.length : Int)) (i b : Int) : YJ w p i b = some (Zf w p i b) := by
 unfold YJ Zf
 rw [Z9, qg, Uj]
 by_cases e : 0 ≤ i ∧ i < (w.where_.length : Int)
 ·rw [if_pos e, if_pos e, Z9, qg, Uj]
  by_cases eb : 0 ≤ b ∧ b < (w.where_.length : Int)
  ·rw [if_pos eb, if_pos eb, jv e.1 e.2, qg, qU (upW w.where_ i.toNat) ⟨1, p⟩, qv, Nl h p0 p1 eb.1 eb.2, qg, qv, QA h eb.1 eb.2, qg, JJ,
    VS h e.1 eb.1 eb.2, qg, kS, (kQ h eb.1 eb.2).1, qg, N8 h e.1 e.2, qg,
    YZ h e.1 e.2 (by decide : (0:Int) ≤ 2) (by decide : (2:Int) < 3)]
   have b1 := (kQ h eb.1 eb.2).2.2
   have b2 := qha w h i w.where_.length (Nat.le_refl _)
   have hw : wrap .i64 (iadd (wrap .i64 (iadd (jL w b : Int) 1)) (hiN w i w.where_.length : Int)) = ((jL w b + 1 + hiN w i w.where_.length : Nat) : Int) := by
    show wrap .i64 (wrap .i64 ((jL w b : Int) + 1) + (hiN w i w.where_.length : Int)) = _
    rw [qO (n := (jL w b : Int) + 1) (by omega) (by omega), qO (by omega) (by omega)]
    omega
   rw [hw]
   by_cases e1 : upW w.where_ i.toNat = ⟨1, p⟩
   ·rw [if_pos e1, if_pos e1]
    by_cases e2 : vG w p b
    ·rw [if_pos e2, if_pos e2]
     by_cases e3 : Nk w b = true
     ·rw [if_pos e3, if_pos e3]
      by_cases e4 : InW w.where_ i.toNat b.toNat
      ·rw [if_pos e4, if_pos e4]
      ·rw [if_neg e4, if_neg e4]
       by_cases e5 : 4 < jL w b + 1 + hiN w i w.where_.length
       ·rw [if_pos e5, qk (by omega)]
       ·rw [if_neg e5, qu (by omega)]
     ·rw [if_neg e3, if_neg e3]
    ·rw [if_neg e2, if_neg e2]
   ·rw [if_neg e1, if_neg e1]
  ·rw [if_neg eb, if_neg eb]
 ·rw [if_neg e, if_neg e]
theorem DW {w : World} (h : RightP w) {i b : Int} (i0 : 0 ≤ i) (i1 : i < (w.where_.length : Int)) (b0 : 0 ≤ b) (b1 : b < (w.where_.length : Int)) (hb : ¬ InW w.where_ i.toNat b.toNat) :
  (∀ j, j < w.where_.length → ∃ d, d ≤ 9 ∧ Dep (w.where_.set i.toNat ⟨2, b⟩) (upW (w.where_.set i.toNat ⟨2, b⟩) j) d) ∧
  ((∃ j d, j < w.where_.length ∧ Dep (w.where_.set i.toNat ⟨2, b⟩) (upW (w.where_.set i.toNat ⟨2, b⟩) j) d ∧ 4 < d) ↔ 4 < jL w b + 1 + hiN w i w.where_.length) := by
 have eb : (⟨2, b⟩ : Place) = ⟨2, (b.toNat : Int)⟩ := by rw [Int.toNat_of_nonneg b0]
 rw [eb]
 obtain ⟨_, db, lb⟩ := kQ h b0 b1
 obtain ⟨_, di, li⟩ := kQ h i0 i1
 have hit : i.toNat < w.where_.length := by omega
 constructor
 ·intro j hj
  obtain ⟨d, h1, h2⟩ := h.deep _ (ZO hj)
  by_cases hin : InW w.where_ i.toNat j
  ·obtain ⟨h3, h4⟩ := JH hit hb db di hin h2
   exact ⟨_, by omega, h4⟩
  ·exact ⟨d, by omega, Kx hin h2⟩
 ·refine qh2 hit hb db di (fun j hj => h.deep _ (ZO hj)) ⟨fun j d hj hin hd => ?_, ?_⟩
  ·have := qhb w i w.where_.length j hj hin
   have e := (kQ h (i := (j : Int)) (by omega) (by omega)).2.1
   rw [Int.toNat_natCast] at e
   rw [hd.inj e]
   exact this
  ·rcases M9 w i w.where_.length with h0 | ⟨j, h1, h2, h3⟩
   ·exact ⟨i.toNat, _, hit, .refl, di, by rw [h0]; omega⟩
   ·have e := (kQ h (i := (j : Int)) (by omega) (by omega)).2.1
    rw [Int.toNat_natCast] at e
    exact ⟨j, _, h1, h2, e, h3⟩
theorem qcs {w : World} (h : RightP w) {p : Int} (p0 : 0 ≤ p) (p1 : p < (w.at_.length : Int)) (i b : Int) : RightP (Zf w p i b).1 := by
 unfold Zf
 split
 ·rename_i e
  split
  ·rename_i eb
   split
   ·split
    ·split
     ·rename_i hbx
      split
      ·exact h
      ·rename_i hin
       split
       ·exact h
       ·rename_i h4
        unfold z7
        split
        ·exact h
        ·rename_i hr
         obtain ⟨hd, hiff⟩ := DW h e.1 e.2 eb.1 eb.2 hin
         refine DI h e.1 e.2 (.inr (.inr ⟨rfl, eb.1, by have := h.where_len; show b < _; omega, by rw [QA h eb.1 eb.2, hbx]⟩)) hr fun j hj => ?_
         obtain ⟨d, h1, h2⟩ := hd j hj
         refine ⟨d, ?_, h2⟩
         by_cases h5 : 4 < d
         ·exact absurd (hiff.1 ⟨j, d, hj, h2, h5⟩) h4
         ·omega
     ·exact h
    ·exact h
   ·exact h
  ·exact h
 ·exact h
theorem qgc {w : World} (h : RightP w) {i b : Int} (i0 : 0 ≤ i) (i1 : i < (w.where_.length : Int)) (b0 : 0 ≤ b) (b1 : b < (w.where_.length : Int)) (hb : ¬ InW w.where_ i.toNat b.toNat) :
  qr rput10.lr11.T qn (((b, (0, ())), ((wTo w), ((0, (0, (0, ()))), ((wTo (toP w i ⟨2, b⟩)), ()))))) =
   some (if 4 < jL w b + 1 + hiN w i w.where_.length then .inl ((8, ()), (wTo w, ())) else .inr ((b, ()), (wTo w, ((0, (0, (0, ()))), (wTo (toP w i ⟨2, b⟩), ()))))) := by
 obtain ⟨hd, hiff⟩ := DW h i0 i1 b0 b1 hb
 have hs := h.small.where_
 have hl : (w.where_.set i.toNat ⟨2, b⟩).length = w.where_.length := List.length_set
 have hwf : ∀ q ∈ w.where_.set i.toNat ⟨2, b⟩, WFp (w.where_.set i.toNat ⟨2, b⟩) q := fun q hq hk => by
  rw [hl]
  rcases gW hq with e | e
  ·rw [e]; exact ⟨b0, b1⟩
  ·exact h.wf q e hk
 obtain ⟨hg, hb'⟩ := qK (T := rput10.lr11.T) (fun k => ((b, ((k : Int), ())), ((wTo w), ((0, (0, (0, ()))), ((wTo (toP w i ⟨2, b⟩)), ())))))
  (fun j => ∀ d, Dep (w.where_.set i.toNat ⟨2, b⟩) (upW (w.where_.set i.toNat ⟨2, b⟩) j) d → ¬ 4 < d)
  (.inl ((8, ()), (wTo w, ()))) (.inr ((b, ()), (wTo w, ((0, (0, (0, ()))), (wTo (toP w i ⟨2, b⟩), ()))))) w.where_.length (by omega)
  (fun j hj hgood rec => by
   obtain ⟨d, h1, h2⟩ := hd j hj
   unfold rput10.lr11.T
   simp only [wTo]
   have hr : gw (toP w i ⟨2, b⟩) (upW (w.where_.set i.toNat ⟨2, b⟩) j) = some (d : Int) := Bv hwf (hwf _ (ZO (by rw [hl]; exact hj))) h2 (by omega)
   rw [JQ, qk (by rw [ilen_eq, kf, hl]; omega), kf, jv (by omega) (by rw [hl]; omega), qg, Int.toNat_natCast, hr, qg, qu (by have := hgood d h2; omega), qH (by omega)])
  (fun j hj hbad rec => by
   obtain ⟨d, h1, h2⟩ := hd j hj
   unfold rput10.lr11.T
   simp only [wTo]
   have hr : gw (toP w i ⟨2, b⟩) (upW (w.where_.set i.toNat ⟨2, b⟩) j) = some (d : Int) := Bv hwf (hwf _ (ZO (by rw [hl]; exact hj))) h2 (by omega)
   have h4 : 4 < d := by
    by_cases h4 : 4 < d
    ·exact h4
    ·exact absurd (fun d' hd' => by rw [hd'.inj h2]; exact h4) hbad
   rw [JQ, qk (by rw [ilen_eq, kf, hl]; omega), kf, jv (by omega) (by rw [hl]; omega), qg, Int.toNat_natCast, hr, qg, qk (by omega)])
  (fun rec => by
   unfold rput10.lr11.T
   simp only [wTo]
   rw [qu (by rw [ilen_eq, kf, hl]; omega)])
 by_cases h4 : 4 < jL w b + 1 + hiN w i w.where_.length
 ·rw [if_pos h4]
  refine hb' fun hall => ?_
  obtain ⟨j, d, hj, h2, h5⟩ := hiff.2 h4
  exact hall j hj d h2 h5
 ·rw [if_neg h4]
  exact hg fun j hj d h2 h5 => h4 (hiff.1 ⟨j, d, hj, h2, h5⟩)
open Classical in
theorem rput_eq {w : World} (h : RightP w) {p : Int} (p0 : 0 ≤ p) (p1 : p < (w.at_.length : Int)) (i b : Int) : Bn w p i b = some (Zf w p i b) := by
 unfold Bn Zf
 rw [Zd, qg, qv]
 by_cases e : 0 ≤ i ∧ i < (w.where_.length : Int)
 ·rw [if_pos e, if_pos e, Zd, qg, qv]
  by_cases eb : 0 ≤ b ∧ b < (w.where_.length : Int)
  ·rw [if_pos eb, if_pos eb, jv e.1 e.2, qg, qU (upW w.where_ i.toNat) ⟨1, p⟩, qv, DE h p0 p1 eb.1 eb.2, qg, qv, QA h eb.1 eb.2, qg, JJ,
    NG h e.1 eb.1 eb.2, qg, kS, qfe h.small e.1 e.2, qg]
   by_cases e1 : upW w.where_ i.toNat = ⟨1, p⟩
   ·rw [if_pos e1, if_pos e1]
    by_cases e2 : vG w p b
    ·rw [if_pos e2, if_pos e2]
     by_cases e3 : Nk w b = true
     ·rw [if_pos e3, if_pos e3]
      by_cases e4 : InW w.where_ i.toNat b.toNat
      ·rw [if_pos e4, if_pos e4]
      ·rw [if_neg e4, if_neg e4, qgc h e.1 e.2 eb.1 eb.2 e4, qg]
       by_cases e5 : 4 < jL w b + 1 + hiN w i w.where_.length
       ·rw [if_pos e5, if_pos e5]
       ·rw [if_neg e5, if_neg e5]
        have hr := qaw h ⟨2, b⟩
        simp only [scase, wTo, JQ]
        rw [Zc (Qh h) h.small (by decide : (0:Int) ≤ 2) (by decide : (2:Int) < 3), qg]
        unfold z7
        by_cases e6 : jl w ⟨2, b⟩ < 1
        ·rw [qM (by omega), if_pos e6]
        ·rw [qI (by omega), if_neg e6]
     ·rw [if_neg e3, if_neg e3]
    ·rw [if_neg e2, if_neg e2]
   ·rw [if_neg e1, if_neg e1]
  ·rw [if_neg eb, if_neg eb]
 ·rw [if_neg e, if_neg e]
end Go.Sx
