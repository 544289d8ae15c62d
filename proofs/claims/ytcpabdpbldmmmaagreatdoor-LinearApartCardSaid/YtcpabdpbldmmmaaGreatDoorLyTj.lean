/-
  Worlds: get, drop, give, take, and the ways through doors (plain).
-/
import Derived.Test.YtcpabdpbldmmmaaGreatDoorLyTi
set_option linter.unusedVariables false
set_option linter.unusedSimpArgs false
namespace Go.Sx
open Go Go.Proofs
theorem jv {ws : List Place} {i : Int} (h0 : 0 ≤ i) (h1 : i < (ws.length : Int)) : lget ws i = some (upW ws i.toNat) := by
 rw [jd h0 h1, zI]
def z7 (w : World) (i : Int) (t : Place) : World × Int := if jl w t < 1 then (w, 9) else (toP w i t, 0)
theorem YZ {w : World} (h : RightP w) {i : Int} (i0 : 0 ≤ i) (i1 : i < (w.where_.length : Int)) {t : Place} (k0 : 0 ≤ t.kind) (k1 : t.kind < 3) :
  obind (zc w t) (fun x_1 => cnd (ilt x_1 1) (some (w, 9)) (obind (Kq w i t) fun x_2 => some (x_2, 0))) = some (z7 w i t) := by
 rw [VV (Qh h) h.small k0 k1, qg]
 unfold z7
 by_cases e : jl w t < 1
 ·rw [qk e, if_pos e]
 ·rw [qu e, if_neg e, hto_eq h.small i0 i1]
  rfl
theorem YY {w : World} (h : RightP w) {i : Int} (i0 : 0 ≤ i) (i1 : i < (w.where_.length : Int)) {t : Place} (k0 : 0 ≤ t.kind) (k1 : t.kind < 3) :
  obind (vT w t) (fun x_1 => cnd (ieq x_1 0) (some (w, 9)) (obind (DA w i t) fun x_2 => some (x_2, 0))) = some (z7 w i t) := by
 rw [Zc (Qh h) h.small k0 k1, qg]
 have := qaw h t
 unfold z7
 by_cases e : jl w t < 1
 ·rw [qM (by omega), if_pos e]
 ·rw [qI (by omega), if_neg e, qfe h.small i0 i1]
  rfl
def mvP (w : World) (i : Int) (f t : Place) : World × Int :=
 if 0 ≤ i ∧ i < (w.where_.length : Int) then (if upW w.where_ i.toNat = f then z7 w i t else (w, 5)) else (w, 3)
theorem RE {w : World} (h : RightP w) (i : Int) {f t : Place} (k0 : 0 ≤ t.kind) (k1 : t.kind < 3) : QC w i f t = some (mvP w i f t) := by
 unfold QC mvP
 by_cases e : 0 ≤ i ∧ i < (w.where_.length : Int)
 ·rw [qu (by omega), jG (by rw [ilen_eq]; omega), if_pos e, jv e.1 e.2, qg, qU, qv, YZ h e.1 e.2 k0 k1]
  split <;> rfl
 ·rw [if_neg e]
  by_cases e0 : i < 0
  ·rw [qk e0]
  ·rw [qu e0, qB (by rw [ilen_eq]; omega)]
def RL (w : World) (p i : Int) : World × Int := mvP w i ⟨0, gi w.at_ p⟩ ⟨1, p⟩
def Va (w : World) (p i : Int) : World × Int := mvP w i ⟨1, p⟩ ⟨0, gi w.at_ p⟩
theorem hget_eq {w : World} (h : RightP w) {p : Int} (p0 : 0 ≤ p) (p1 : p < (w.at_.length : Int)) (i : Int) : Y2 w p i = some (RL w p i) := by
 unfold Y2 ku RL
 rw [qm p0 p1, qg, qg, RE h i (by decide : (0:Int) ≤ 1) (by decide : (1:Int) < 3), qg]
theorem qhe {w : World} (h : RightP w) {p : Int} (p0 : 0 ≤ p) (p1 : p < (w.at_.length : Int)) (i : Int) : Ks w p i = some (Va w p i) := by
 unfold Ks ku Va
 rw [qm p0 p1, qg, qg, RE h i (by decide : (0:Int) ≤ 0) (by decide : (0:Int) < 3), qg]
theorem rget_eq {w : World} (h : RightP w) {p : Int} (p0 : 0 ≤ p) (p1 : p < (w.at_.length : Int)) (i : Int) : NW w p i = some (RL w p i) := by
 unfold NW RL mvP
 by_cases e : 0 ≤ i ∧ i < (w.where_.length : Int)
 ·rw [qu (by omega), jG (by rw [ilen_eq]; omega), if_pos e, jv e.1 e.2, qg, qm p0 p1, qg, qU (upW w.where_ i.toNat) ⟨0, gi w.at_ p⟩, qv,
   YY h e.1 e.2 (by decide : (0:Int) ≤ 1) (by decide : (1:Int) < 3)]
  split <;> rfl
 ·rw [if_neg e]
  by_cases e0 : i < 0
  ·rw [qk e0]
  ·rw [qu e0, qB (by rw [ilen_eq]; omega)]
theorem qfz {w : World} (h : RightP w) {p : Int} (p0 : 0 ≤ p) (p1 : p < (w.at_.length : Int)) (i : Int) : Bt w p i = some (Va w p i) := by
 unfold Bt Va mvP
 by_cases e : 0 ≤ i ∧ i < (w.where_.length : Int)
 ·rw [qu (by omega), jG (by rw [ilen_eq]; omega), if_pos e, jv e.1 e.2, qg, qU (upW w.where_ i.toNat) ⟨1, p⟩, qv, qm p0 p1]
  simp only [qg]
  rw [YY h e.1 e.2 (by decide : (0:Int) ≤ 0) (by decide : (0:Int) < 3)]
  split <;> rfl
 ·rw [if_neg e]
  by_cases e0 : i < 0
  ·rw [qk e0]
  ·rw [qu e0, qB (by rw [ilen_eq]; omega)]
def vM (w : World) (p i q : Int) : World × Int :=
 if 0 ≤ i ∧ i < (w.where_.length : Int) then
  (if 0 ≤ q ∧ q < (w.at_.length : Int) then
   (if q = p then (w, 12) else if gi w.at_ q = gi w.at_ p then (if upW w.where_ i.toNat = ⟨1, p⟩ then z7 w i ⟨1, q⟩ else (w, 5)) else (w, 5))
  else (w, 3))
 else (w, 3)
theorem qbc (w : World) (i : Int) : RK w i = some (decide (0 ≤ i ∧ i < (w.where_.length : Int))) := by
 unfold RK
 by_cases h : 0 ≤ i
 ·rw [qB h]
  congr 1
  exact decide_eq_decide.2 ⟨fun h' => ⟨h, by rw [ilen_eq] at h'; exact h'⟩, fun h' => by rw [ilen_eq]; exact h'.2⟩
 ·rw [jG h, decide_eq_false (fun h' => h h'.1)]
theorem Zd (w : World) (i : Int) : Gn w i = some (decide (0 ≤ i ∧ i < (w.where_.length : Int))) := qbc w i
theorem qg2 (w : World) (q : Int) : kA w q = some (decide (0 ≤ q ∧ q < (w.at_.length : Int))) := by
 unfold kA
 by_cases h : 0 ≤ q
 ·rw [qB h]
  congr 1
  exact decide_eq_decide.2 ⟨fun h' => ⟨h, by rw [ilen_eq] at h'; exact h'⟩, fun h' => by rw [ilen_eq]; exact h'.2⟩
 ·rw [jG h, decide_eq_false (fun h' => h h'.1)]
theorem Z9 (w : World) (i : Int) : ge w i = some (decide (¬ (0 ≤ i ∧ i < (w.where_.length : Int)))) := by
 unfold ge
 by_cases h : i < 0
 ·rw [qk h, decide_eq_true (p := ¬ (0 ≤ i ∧ i < (w.where_.length : Int))) (fun h' => absurd h'.1 (by omega))]
 ·rw [qu h]
  congr 1
  exact decide_eq_decide.2 ⟨fun h' h'' => by rw [ilen_eq] at h'; omega, fun h' => by rw [ilen_eq]; omega⟩
theorem qhi {w : World} (h : RightP w) {p : Int} (p0 : 0 ≤ p) (p1 : p < (w.at_.length : Int)) (i q : Int) : Kt w p i q = some (vM w p i q) := by
 unfold Kt vM j5
 rw [qbc, qg, qv]
 by_cases e : 0 ≤ i ∧ i < (w.where_.length : Int)
 ·rw [if_pos e, if_pos e, qg2, qg, qv]
  by_cases eq : 0 ≤ q ∧ q < (w.at_.length : Int)
  ·rw [if_pos eq, if_pos eq]
   by_cases e1 : q = p
   ·rw [qM e1, if_pos e1]
   ·rw [qI e1, if_neg e1, qm eq.1 eq.2, qg, qm p0 p1, qg, qv, jv e.1 e.2]
    simp only [qg]
    rw [qU (upW w.where_ i.toNat) ⟨1, p⟩, qv, YZ h e.1 e.2 (by decide : (0:Int) ≤ 1) (by decide : (1:Int) < 3)]
    split
    ·split <;> rfl
    ·rfl
  ·rw [if_neg eq, if_neg eq]
 ·rw [if_neg e, if_neg e]
theorem qfv {w : World} (h : RightP w) {p : Int} (p0 : 0 ≤ p) (p1 : p < (w.at_.length : Int)) (i q : Int) : NV w p i q = some (vM w p i q) := by
 unfold NV vM
 by_cases e : 0 ≤ i ∧ i < (w.where_.length : Int)
 ·rw [qu (by omega), jG (by rw [ilen_eq]; omega), if_pos e]
  by_cases eq : 0 ≤ q ∧ q < (w.at_.length : Int)
  ·rw [qu (by omega), jG (by rw [ilen_eq]; omega), if_pos eq]
   by_cases e1 : q = p
   ·rw [qM e1.symm, if_pos e1]
   ·rw [qI (Ne.symm e1), if_neg e1, qm p0 p1, qg, qm eq.1 eq.2, qg, qv, jv e.1 e.2, qg]
    rw [qU (upW w.where_ i.toNat) ⟨1, p⟩, qv, YY h e.1 e.2 (by decide : (0:Int) ≤ 1) (by decide : (1:Int) < 3)]
    by_cases e2 : gi w.at_ q = gi w.at_ p
    ·rw [if_pos e2, if_pos e2.symm]
     split <;> rfl
    ·rw [if_neg e2, if_neg (Ne.symm e2)]
  ·rw [if_neg eq]
   by_cases e0 : q < 0
   ·rw [qk e0]
   ·rw [qu e0, qB (by rw [ilen_eq]; omega)]
 ·rw [if_neg e]
  by_cases e0 : i < 0
  ·rw [qk e0]
  ·rw [qu e0, qB (by rw [ilen_eq]; omega)]
def Nk (w : World) (b : Int) : Bool := w.desc.boxes.getD b.toNat false
theorem QA {w : World} (h : RightP w) {b : Int} (b0 : 0 ≤ b) (b1 : b < (w.where_.length : Int)) : lget w.desc.boxes b = some (Nk w b) := by
 have : b.toNat < w.desc.boxes.length := by
  have := h.may.boxes
  have := h.where_len
  omega
 rw [jd b0 (by omega)]
 unfold Nk
 rw [List.getD_eq_getElem?_getD, List.getElem?_eq_getElem this]
 rfl
open Classical in
noncomputable def vB (w : World) (p i b : Int) : World × Int :=
 if 0 ≤ i ∧ i < (w.where_.length : Int) then
  (if 0 ≤ b ∧ b < (w.where_.length : Int) then
   (if vG w p b then (if Nk w b = true then (if upW w.where_ i.toNat = ⟨2, b⟩ then z7 w i ⟨1, p⟩ else (w, 5)) else (w, 6)) else (w, 5))
  else (w, 3))
 else (w, 3)
theorem JJ {α : Type} {b : Bool} {x y : α} : cnd (bnot b) x y = if b = true then y else x := by cases b <;> rfl
theorem Uj {α : Type} {p : Prop} [Decidable p] {x y : α} : cnd (decide (¬ p)) x y = if p then y else x := by
 by_cases h : p
 ·rw [if_pos h, qz (decide_eq_false (fun h' => h' h))]
 ·rw [if_neg h, qy (decide_eq_true h)]
open Classical in
theorem qil {w : World} (h : RightP w) {p : Int} (p0 : 0 ≤ p) (p1 : p < (w.at_.length : Int)) (i b : Int) : K2 w p i b = some (vB w p i b) := by
 unfold K2 vB
 rw [Z9, qg, Uj]
 by_cases e : 0 ≤ i ∧ i < (w.where_.length : Int)
 ·rw [if_pos e, if_pos e, Z9, qg, Uj]
  by_cases eb : 0 ≤ b ∧ b < (w.where_.length : Int)
  ·rw [if_pos eb, if_pos eb, Nl h p0 p1 eb.1 eb.2, qg, qv, QA h eb.1 eb.2, qg, JJ, jv e.1 e.2, qg, qU (upW w.where_ i.toNat) ⟨2, b⟩, qv, YZ h e.1 e.2 (by decide : (0:Int) ≤ 1) (by decide : (1:Int) < 3)]
   split
   ·split
    ·split <;> rfl
    ·rfl
   ·rfl
  ·rw [if_neg eb, if_neg eb]
 ·rw [if_neg e, if_neg e]
open Classical in
theorem qff {w : World} (h : RightP w) {p : Int} (p0 : 0 ≤ p) (p1 : p < (w.at_.length : Int)) (i b : Int) : Gl w p i b = some (vB w p i b) := by
 unfold Gl vB
 rw [Zd, qg, qv]
 by_cases e : 0 ≤ i ∧ i < (w.where_.length : Int)
 ·rw [if_pos e, if_pos e, Zd, qg, qv]
  by_cases eb : 0 ≤ b ∧ b < (w.where_.length : Int)
  ·rw [if_pos eb, if_pos eb, DE h p0 p1 eb.1 eb.2, qg, qv, QA h eb.1 eb.2, qg, JJ, jv e.1 e.2, qg, qU (upW w.where_ i.toNat) ⟨2, b⟩, qv, YY h e.1 e.2 (by decide : (0:Int) ≤ 1) (by decide : (1:Int) < 3)]
   split
   ·split
    ·split <;> rfl
    ·rfl
   ·rfl
  ·rw [if_neg eb, if_neg eb]
 ·rw [if_neg e, if_neg e]
def exW (w : World) (r d : Int) : Int := match lget w.desc.exits r with
 | some e => jQ [e.e0, e.e1, e.e2, e.e3] d
 | none => 0
def atP (w : World) (p r : Int) : World := ⟨w.desc, lset w.at_ p r, w.coins, w.where_⟩
def zE (w : World) (p d : Int) : World × Int × Int := if exW w (gi w.at_ p) d = -1 then (w, (0, 4)) else (atP w p (exW w (gi w.at_ p) d), (exW w (gi w.at_ p) d, 0))
theorem qhl {a b c e : Int} {d : Int} (d0 : 0 ≤ d) (d1 : d < 4) : jQ [a, b, c, e] d ∈ [a, b, c, e] := by
 have : d = 0 ∨ d = 1 ∨ d = 2 ∨ d = 3 := by omega
 rcases this with h | h | h | h <;> subst h <;> simp [jQ]
theorem Z3 {w : World} (h : RightP w) {p : Int} (p0 : 0 ≤ p) (p1 : p < (w.at_.length : Int)) {d : Int} (d0 : 0 ≤ d) (d1 : d < 4) :
  ∃ e, lget w.desc.exits (gi w.at_ p) = some e ∧ exW w (gi w.at_ p) d = jQ [e.e0, e.e1, e.e2, e.e3] d ∧ (exW w (gi w.at_ p) d = -1 ∨ (0 ≤ exW w (gi w.at_ p) d ∧ exW w (gi w.at_ p) d < (w.desc.exits.length : Int))) := by
 have hr := h.at_ok _ (vp p0 p1)
 have hl := jd (l := w.desc.exits) hr.1 hr.2
 have he : exW w (gi w.at_ p) d = jQ [(w.desc.exits[(gi w.at_ p).toNat]'(by omega)).e0, (w.desc.exits[(gi w.at_ p).toNat]'(by omega)).e1, (w.desc.exits[(gi w.at_ p).toNat]'(by omega)).e2, (w.desc.exits[(gi w.at_ p).toNat]'(by omega)).e3] d := by
  unfold exW
  rw [hl]
 refine ⟨_, hl, he, ?_⟩
 rw [he]
 exact h.may.exits _ (List.getElem_mem _) _ (qhl d0 d1)
theorem qey {w : World} (h : RightP w) {p : Int} (p0 : 0 ≤ p) (p1 : p < (w.at_.length : Int)) {d : Int} (d0 : 0 ≤ d) (d1 : d < 4) : ZL w p d = some (zE w p d) := by
 obtain ⟨e, he, hx, hok⟩ := Z3 h p0 p1 d0 d1
 have hs := h.small
 unfold ZL zE Qu
 rw [qm p0 p1, qg, he, qg, qB d0, qk d1, ← hx, qg]
 rw [qv]
 by_cases e1 : exW w (gi w.at_ p) d = -1
 ·rw [if_neg (by omega), if_pos e1]
 ·have e0 : 0 ≤ exW w (gi w.at_ p) d := by omega
  rw [if_pos e0, if_neg e1, zt _ hs.at_, zt _ hs.coins, Jj _ hs.where_]
  simp only [qg, zn]
  rw [qB p0, qk (by rw [ilen_eq]; exact p1), qm p0 p1, qg]
  have em : BK (exW w (gi w.at_ p) d) 0 = exW w (gi w.at_ p) d := by
   unfold BK
   rw [if_neg (by omega)]
  rw [em]
  rfl
theorem DF {w : World} (h : RightP w) {p : Int} (p0 : 0 ≤ p) (p1 : p < (w.at_.length : Int)) {d : Int} (d0 : 0 ≤ d) (d1 : d < 4) : Bo w p d = some (zE w p d) := by
 obtain ⟨e, he, hx, hok⟩ := Z3 h p0 p1 d0 d1
 have hs := h.small
 unfold Bo zE
 rw [qm p0 p1, qg, he, qg, qB d0, qk d1, ← hx]
 by_cases e1 : exW w (gi w.at_ p) d = -1
 ·rw [qM e1, if_pos e1]
 ·rw [qI e1, if_neg e1, BW hs.at_, BW hs.coins, qbk hs.where_, qB p0, qk (by rw [ilen_eq]; exact p1), qg]
  rfl
def vh (w : World) (p q d : Int) : World × Int × Int :=
 if 0 ≤ q ∧ q < (w.at_.length : Int) then (if q = p then (w, (0, 12)) else if gi w.at_ q = gi w.at_ p then zE w q d else (w, (0, 5))) else (w, (0, 3))
theorem qfi {w : World} (h : RightP w) {p : Int} (p0 : 0 ≤ p) (p1 : p < (w.at_.length : Int)) (q : Int) {d : Int} (d0 : 0 ≤ d) (d1 : d < 4) : NM w p q d = some (vh w p q d) := by
 unfold NM vh
 by_cases e : 0 ≤ q ∧ q < (w.at_.length : Int)
 ·rw [qu (by omega), jG (by rw [ilen_eq]; omega), if_pos e]
  by_cases e1 : q = p
  ·rw [qM e1, if_pos e1]
  ·rw [qI e1, if_neg e1, qm p0 p1, qg, qm e.1 e.2, qg, qv, DF h e.1 e.2 d0 d1, qg]
   by_cases e2 : gi w.at_ q = gi w.at_ p
   ·rw [if_pos e2, if_pos e2.symm]
   ·rw [if_neg e2, if_neg (Ne.symm e2)]
 ·rw [if_neg e]
  by_cases e0 : q < 0
  ·rw [qk e0]
  ·rw [qu e0, qB (by rw [ilen_eq]; omega)]
theorem qex {w : World} (h : RightP w) {p : Int} (p0 : 0 ≤ p) (p1 : p < (w.at_.length : Int)) (q : Int) {d : Int} (d0 : 0 ≤ d) (d1 : d < 4) : ZJ w p q d = some (vh w p q d) := by
 have hs := h.small
 unfold ZJ vh
 simp only [zn]
 by_cases e : 0 ≤ q ∧ q < (w.at_.length : Int)
 ·rw [qu (by omega), jG (by rw [ilen_eq]; omega), if_pos e]
  by_cases e1 : q = p
  ·rw [qM e1, if_pos e1]
  ·rw [qI e1, if_neg e1, qm e.1 e.2, qg, qm p0 p1, qg, qv]
   by_cases e2 : gi w.at_ q = gi w.at_ p
   ·rw [if_pos e2, if_pos e2, qg]
    obtain ⟨x, he, hx, hok⟩ := Z3 h e.1 e.2 d0 d1
    unfold zE Qu
    rw [he, qg, qB d0, qk d1, ← hx, qg, qv]
    by_cases e1 : exW w (gi w.at_ q) d = -1
    ·rw [if_neg (by omega), if_pos e1]
    ·have e0 : 0 ≤ exW w (gi w.at_ q) d := by omega
     rw [if_pos e0, if_neg e1, zt _ hs.at_, zt _ hs.coins, Jj _ hs.where_]
     simp only [qg]
     rw [qB e.1, qk (by rw [ilen_eq]; exact e.2), qm e.1 e.2, qg]
     have em : BK (exW w (gi w.at_ q) d) 0 = exW w (gi w.at_ q) d := by
      unfold BK
      rw [if_neg (by omega)]
     rw [em]
     rfl
   ·rw [if_neg e2, if_neg e2]
 ·rw [if_neg e]
  by_cases e0 : q < 0
  ·rw [qk e0]
  ·rw [qu e0, qB (by rw [ilen_eq]; omega)]
end Go.Sx
