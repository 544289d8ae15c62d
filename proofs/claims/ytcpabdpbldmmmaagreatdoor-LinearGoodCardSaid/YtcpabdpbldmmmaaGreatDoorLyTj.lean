/-
  Worlds: get, drop, give, take, and the ways through doors (plain).
-/
import Derived.Test.YtcpabdpbldmmmaaGreatDoorLyTi
set_option linter.unusedVariables false
set_option linter.unusedSimpArgs false
namespace Go.Sx
open Go Go.Proofs
theorem ju {ws : List Place} {i : Int} (h0 : 0 ≤ i) (h1 : i < (ws.length : Int)) : lget ws i = some (upW ws i.toNat) := by
 rw [jf h0 h1, zO]
def kz (w : World) (i : Int) (t : Place) : World × Int := if jo w t < 1 then (w, 9) else (toP w i t, 0)
theorem BZ {w : World} (h : RightP w) {i : Int} (i0 : 0 ≤ i) (i1 : i < (w.where_.length : Int)) {t : Place} (k0 : 0 ≤ t.kind) (k1 : t.kind < 3) :
  obind (zg w t) (fun x_1 => cnd (ilt x_1 1) (some (w, 9)) (obind (KN w i t) fun x_2 => some (x_2, 0))) = some (kz w i t) := by
 rw [GG (Qm h) h.small k0 k1, qg]
 unfold kz
 by_cases e : jo w t < 1
 ·rw [qm e, if_pos e]
 ·rw [qv e, if_neg e, hto_eq h.small i0 i1]
  rfl
theorem BY {w : World} (h : RightP w) {i : Int} (i0 : 0 ≤ i) (i1 : i < (w.where_.length : Int)) {t : Place} (k0 : 0 ≤ t.kind) (k1 : t.kind < 3) :
  obind (jM w t) (fun x_1 => cnd (ieq x_1 0) (some (w, 9)) (obind (JX w i t) fun x_2 => some (x_2, 0))) = some (kz w i t) := by
 rw [Z3 (Qm h) h.small k0 k1, qg]
 have := qdq h t
 unfold kz
 by_cases e : jo w t < 1
 ·rw [qP (by omega), if_pos e]
 ·rw [qO (by omega), if_neg e, qiz h.small i0 i1]
  rfl
def mvP (w : World) (i : Int) (f t : Place) : World × Int :=
 if 0 ≤ i ∧ i < (w.where_.length : Int) then (if upW w.where_ i.toNat = f then kz w i t else (w, 5)) else (w, 3)
theorem NU {w : World} (h : RightP w) (i : Int) {f t : Place} (k0 : 0 ≤ t.kind) (k1 : t.kind < 3) : QP w i f t = some (mvP w i f t) := by
 unfold QP mvP
 by_cases e : 0 ≤ i ∧ i < (w.where_.length : Int)
 ·rw [qv (by omega), jJ (by rw [ilen_eq]; omega), if_pos e, ju e.1 e.2, qg, qV, qx, BZ h e.1 e.2 k0 k1]
  split <;> rfl
 ·rw [if_neg e]
  by_cases e0 : i < 0
  ·rw [qm e0]
  ·rw [qv e0, qC (by rw [ilen_eq]; omega)]
def Ma (w : World) (p i : Int) : World × Int := mvP w i ⟨0, gi w.at_ p⟩ ⟨1, p⟩
def VB (w : World) (p i : Int) : World × Int := mvP w i ⟨1, p⟩ ⟨0, gi w.at_ p⟩
theorem hget_eq {w : World} (h : RightP w) {p : Int} (p0 : 0 ≤ p) (p1 : p < (w.at_.length : Int)) (i : Int) : Bz w p i = some (Ma w p i) := by
 unfold Bz kD Ma
 rw [qn p0 p1, qg, qg, NU h i (by decide : (0:Int) ≤ 1) (by decide : (1:Int) < 3), qg]
theorem qky {w : World} (h : RightP w) {p : Int} (p0 : 0 ≤ p) (p1 : p < (w.at_.length : Int)) (i : Int) : KP w p i = some (VB w p i) := by
 unfold KP kD VB
 rw [qn p0 p1, qg, qg, NU h i (by decide : (0:Int) ≤ 0) (by decide : (0:Int) < 3), qg]
theorem rget_eq {w : World} (h : RightP w) {p : Int} (p0 : 0 ≤ p) (p1 : p < (w.at_.length : Int)) (i : Int) : K8 w p i = some (Ma w p i) := by
 unfold K8 Ma mvP
 by_cases e : 0 ≤ i ∧ i < (w.where_.length : Int)
 ·rw [qv (by omega), jJ (by rw [ilen_eq]; omega), if_pos e, ju e.1 e.2, qg, qn p0 p1, qg, qV (upW w.where_ i.toNat) ⟨0, gi w.at_ p⟩, qx,
   BY h e.1 e.2 (by decide : (0:Int) ≤ 1) (by decide : (1:Int) < 3)]
  split <;> rfl
 ·rw [if_neg e]
  by_cases e0 : i < 0
  ·rw [qm e0]
  ·rw [qv e0, qC (by rw [ilen_eq]; omega)]
theorem qjk {w : World} (h : RightP w) {p : Int} (p0 : 0 ≤ p) (p1 : p < (w.at_.length : Int)) (i : Int) : Jk w p i = some (VB w p i) := by
 unfold Jk VB mvP
 by_cases e : 0 ≤ i ∧ i < (w.where_.length : Int)
 ·rw [qv (by omega), jJ (by rw [ilen_eq]; omega), if_pos e, ju e.1 e.2, qg, qV (upW w.where_ i.toNat) ⟨1, p⟩, qx, qn p0 p1]
  simp only [qg]
  rw [BY h e.1 e.2 (by decide : (0:Int) ≤ 0) (by decide : (0:Int) < 3)]
  split <;> rfl
 ·rw [if_neg e]
  by_cases e0 : i < 0
  ·rw [qm e0]
  ·rw [qv e0, qC (by rw [ilen_eq]; omega)]
def Qx (w : World) (p i q : Int) : World × Int :=
 if 0 ≤ i ∧ i < (w.where_.length : Int) then
  (if 0 ≤ q ∧ q < (w.at_.length : Int) then
   (if q = p then (w, 12) else if gi w.at_ q = gi w.at_ p then (if upW w.where_ i.toNat = ⟨1, p⟩ then kz w i ⟨1, q⟩ else (w, 5)) else (w, 5))
  else (w, 3))
 else (w, 3)
theorem qd5 (w : World) (i : Int) : NZ w i = some (decide (0 ≤ i ∧ i < (w.where_.length : Int))) := by
 unfold NZ
 by_cases h : 0 ≤ i
 ·rw [qC h]
  congr 1
  exact decide_eq_decide.2 ⟨fun h' => ⟨h, by rw [ilen_eq] at h'; exact h'⟩, fun h' => by rw [ilen_eq]; exact h'.2⟩
 ·rw [jJ h, decide_eq_false (fun h' => h h'.1)]
theorem Z4 (w : World) (i : Int) : gY w i = some (decide (0 ≤ i ∧ i < (w.where_.length : Int))) := qd5 w i
theorem qkm (w : World) (q : Int) : kF w q = some (decide (0 ≤ q ∧ q < (w.at_.length : Int))) := by
 unfold kF
 by_cases h : 0 ≤ q
 ·rw [qC h]
  congr 1
  exact decide_eq_decide.2 ⟨fun h' => ⟨h, by rw [ilen_eq] at h'; exact h'⟩, fun h' => by rw [ilen_eq]; exact h'.2⟩
 ·rw [jJ h, decide_eq_false (fun h' => h h'.1)]
theorem Ka (w : World) (i : Int) : ga w i = some (decide (¬ (0 ≤ i ∧ i < (w.where_.length : Int)))) := by
 unfold ga
 by_cases h : i < 0
 ·rw [qm h, decide_eq_true (p := ¬ (0 ≤ i ∧ i < (w.where_.length : Int))) (fun h' => absurd h'.1 (by omega))]
 ·rw [qv h]
  congr 1
  exact decide_eq_decide.2 ⟨fun h' h'' => by rw [ilen_eq] at h'; omega, fun h' => by rw [ilen_eq]; omega⟩
theorem qk2 {w : World} (h : RightP w) {p : Int} (p0 : 0 ≤ p) (p1 : p < (w.at_.length : Int)) (i q : Int) : KQ w p i q = some (Qx w p i q) := by
 unfold KQ Qx j7
 rw [qd5, qg, qx]
 by_cases e : 0 ≤ i ∧ i < (w.where_.length : Int)
 ·rw [if_pos e, if_pos e, qkm, qg, qx]
  by_cases eq : 0 ≤ q ∧ q < (w.at_.length : Int)
  ·rw [if_pos eq, if_pos eq]
   by_cases e1 : q = p
   ·rw [qP e1, if_pos e1]
   ·rw [qO e1, if_neg e1, qn eq.1 eq.2, qg, qn p0 p1, qg, qx, ju e.1 e.2]
    simp only [qg]
    rw [qV (upW w.where_ i.toNat) ⟨1, p⟩, qx, BZ h e.1 e.2 (by decide : (0:Int) ≤ 1) (by decide : (1:Int) < 3)]
    split
    ·split <;> rfl
    ·rfl
  ·rw [if_neg eq, if_neg eq]
 ·rw [if_neg e, if_neg e]
theorem qjg {w : World} (h : RightP w) {p : Int} (p0 : 0 ≤ p) (p1 : p < (w.at_.length : Int)) (i q : Int) : K7 w p i q = some (Qx w p i q) := by
 unfold K7 Qx
 by_cases e : 0 ≤ i ∧ i < (w.where_.length : Int)
 ·rw [qv (by omega), jJ (by rw [ilen_eq]; omega), if_pos e]
  by_cases eq : 0 ≤ q ∧ q < (w.at_.length : Int)
  ·rw [qv (by omega), jJ (by rw [ilen_eq]; omega), if_pos eq]
   by_cases e1 : q = p
   ·rw [qP e1.symm, if_pos e1]
   ·rw [qO (Ne.symm e1), if_neg e1, qn p0 p1, qg, qn eq.1 eq.2, qg, qx, ju e.1 e.2, qg]
    rw [qV (upW w.where_ i.toNat) ⟨1, p⟩, qx, BY h e.1 e.2 (by decide : (0:Int) ≤ 1) (by decide : (1:Int) < 3)]
    by_cases e2 : gi w.at_ q = gi w.at_ p
    ·rw [if_pos e2, if_pos e2.symm]
     split <;> rfl
    ·rw [if_neg e2, if_neg (Ne.symm e2)]
  ·rw [if_neg eq]
   by_cases e0 : q < 0
   ·rw [qm e0]
   ·rw [qv e0, qC (by rw [ilen_eq]; omega)]
 ·rw [if_neg e]
  by_cases e0 : i < 0
  ·rw [qm e0]
  ·rw [qv e0, qC (by rw [ilen_eq]; omega)]
def Mz (w : World) (b : Int) : Bool := w.desc.boxes.getD b.toNat false
theorem QN {w : World} (h : RightP w) {b : Int} (b0 : 0 ≤ b) (b1 : b < (w.where_.length : Int)) : lget w.desc.boxes b = some (Mz w b) := by
 have : b.toNat < w.desc.boxes.length := by
  have := h.may.boxes
  have := h.where_len
  omega
 rw [jf b0 (by omega)]
 unfold Mz
 rw [List.getD_eq_getElem?_getD, List.getElem?_eq_getElem this]
 rfl
open Classical in
noncomputable def Qs (w : World) (p i b : Int) : World × Int :=
 if 0 ≤ i ∧ i < (w.where_.length : Int) then
  (if 0 ≤ b ∧ b < (w.where_.length : Int) then
   (if vO w p b then (if Mz w b = true then (if upW w.where_ i.toNat = ⟨2, b⟩ then kz w i ⟨1, p⟩ else (w, 5)) else (w, 6)) else (w, 5))
  else (w, 3))
 else (w, 3)
theorem Zh {α : Type} {b : Bool} {x y : α} : cnd (bnot b) x y = if b = true then y else x := by cases b <;> rfl
theorem US {α : Type} {p : Prop} [Decidable p] {x y : α} : cnd (decide (¬ p)) x y = if p then y else x := by
 by_cases h : p
 ·rw [if_pos h, q7 (decide_eq_false (fun h' => h' h))]
 ·rw [if_neg h, q6 (decide_eq_true h)]
open Classical in
theorem ql6 {w : World} (h : RightP w) {p : Int} (p0 : 0 ≤ p) (p1 : p < (w.at_.length : Int)) (i b : Int) : Va w p i b = some (Qs w p i b) := by
 unfold Va Qs
 rw [Ka, qg, US]
 by_cases e : 0 ≤ i ∧ i < (w.where_.length : Int)
 ·rw [if_pos e, if_pos e, Ka, qg, US]
  by_cases eb : 0 ≤ b ∧ b < (w.where_.length : Int)
  ·rw [if_pos eb, if_pos eb, M0 h p0 p1 eb.1 eb.2, qg, qx, QN h eb.1 eb.2, qg, Zh, ju e.1 e.2, qg, qV (upW w.where_ i.toNat) ⟨2, b⟩, qx, BZ h e.1 e.2 (by decide : (0:Int) ≤ 1) (by decide : (1:Int) < 3)]
   split
   ·split
    ·split <;> rfl
    ·rfl
   ·rfl
  ·rw [if_neg eb, if_neg eb]
 ·rw [if_neg e, if_neg e]
open Classical in
theorem qi0 {w : World} (h : RightP w) {p : Int} (p0 : 0 ≤ p) (p1 : p < (w.at_.length : Int)) (i b : Int) : gn w p i b = some (Qs w p i b) := by
 unfold gn Qs
 rw [Z4, qg, qx]
 by_cases e : 0 ≤ i ∧ i < (w.where_.length : Int)
 ·rw [if_pos e, if_pos e, Z4, qg, qx]
  by_cases eb : 0 ≤ b ∧ b < (w.where_.length : Int)
  ·rw [if_pos eb, if_pos eb, RM h p0 p1 eb.1 eb.2, qg, qx, QN h eb.1 eb.2, qg, Zh, ju e.1 e.2, qg, qV (upW w.where_ i.toNat) ⟨2, b⟩, qx, BY h e.1 e.2 (by decide : (0:Int) ≤ 1) (by decide : (1:Int) < 3)]
   split
   ·split
    ·split <;> rfl
    ·rfl
   ·rfl
  ·rw [if_neg eb, if_neg eb]
 ·rw [if_neg e, if_neg e]
def exW (w : World) (r d : Int) : Int := match lget w.desc.exits r with
 | some e => jS [e.e0, e.e1, e.e2, e.e3] d
 | none => 0
def atP (w : World) (p r : Int) : World := ⟨w.desc, lset w.at_ p r, w.coins, w.where_⟩
def kP (w : World) (p d : Int) : World × Int × Int := if exW w (gi w.at_ p) d = -1 then (w, (0, 4)) else (atP w p (exW w (gi w.at_ p) d), (exW w (gi w.at_ p) d, 0))
theorem qk5 {a b c e : Int} {d : Int} (d0 : 0 ≤ d) (d1 : d < 4) : jS [a, b, c, e] d ∈ [a, b, c, e] := by
 have : d = 0 ∨ d = 1 ∨ d = 2 ∨ d = 3 := by omega
 rcases this with h | h | h | h <;> subst h <;> simp [jS]
theorem ZU {w : World} (h : RightP w) {p : Int} (p0 : 0 ≤ p) (p1 : p < (w.at_.length : Int)) {d : Int} (d0 : 0 ≤ d) (d1 : d < 4) :
  ∃ e, lget w.desc.exits (gi w.at_ p) = some e ∧ exW w (gi w.at_ p) d = jS [e.e0, e.e1, e.e2, e.e3] d ∧ (exW w (gi w.at_ p) d = -1 ∨ (0 ≤ exW w (gi w.at_ p) d ∧ exW w (gi w.at_ p) d < (w.desc.exits.length : Int))) := by
 have hr := h.at_ok _ (vv p0 p1)
 have hl := jf (l := w.desc.exits) hr.1 hr.2
 have he : exW w (gi w.at_ p) d = jS [(w.desc.exits[(gi w.at_ p).toNat]'(by omega)).e0, (w.desc.exits[(gi w.at_ p).toNat]'(by omega)).e1, (w.desc.exits[(gi w.at_ p).toNat]'(by omega)).e2, (w.desc.exits[(gi w.at_ p).toNat]'(by omega)).e3] d := by
  unfold exW
  rw [hl]
 refine ⟨_, hl, he, ?_⟩
 rw [he]
 exact h.may.exits _ (List.getElem_mem _) _ (qk5 d0 d1)
theorem qik {w : World} (h : RightP w) {p : Int} (p0 : 0 ≤ p) (p1 : p < (w.at_.length : Int)) {d : Int} (d0 : 0 ≤ d) (d1 : d < 4) : Kp w p d = some (kP w p d) := by
 obtain ⟨e, he, hx, hok⟩ := ZU h p0 p1 d0 d1
 have hs := h.small
 unfold Kp kP Q1
 rw [qn p0 p1, qg, he, qg, qC d0, qm d1, ← hx, qg]
 rw [qx]
 by_cases e1 : exW w (gi w.at_ p) d = -1
 ·rw [if_neg (by omega), if_pos e1]
 ·have e0 : 0 ≤ exW w (gi w.at_ p) d := by omega
  rw [if_pos e0, if_neg e1, z6 _ hs.at_, z6 _ hs.coins, J2 _ hs.where_]
  simp only [qg, zt]
  rw [qC p0, qm (by rw [ilen_eq]; exact p1), qn p0 p1, qg]
  have em : DN (exW w (gi w.at_ p) d) 0 = exW w (gi w.at_ p) d := by
   unfold DN
   rw [if_neg (by omega)]
  rw [em]
  rfl
theorem RN {w : World} (h : RightP w) {p : Int} (p0 : 0 ≤ p) (p1 : p < (w.at_.length : Int)) {d : Int} (d0 : 0 ≤ d) (d1 : d < 4) : QB w p d = some (kP w p d) := by
 obtain ⟨e, he, hx, hok⟩ := ZU h p0 p1 d0 d1
 have hs := h.small
 unfold QB kP
 rw [qn p0 p1, qg, he, qg, qC d0, qm d1, ← hx]
 by_cases e1 : exW w (gi w.at_ p) d = -1
 ·rw [qP e1, if_pos e1]
 ·rw [qO e1, if_neg e1, DZ hs.at_, DZ hs.coins, qed hs.where_, qC p0, qm (by rw [ilen_eq]; exact p1), qg]
  rfl
def gy (w : World) (p q d : Int) : World × Int × Int :=
 if 0 ≤ q ∧ q < (w.at_.length : Int) then (if q = p then (w, (0, 12)) else if gi w.at_ q = gi w.at_ p then kP w q d else (w, (0, 5))) else (w, (0, 3))
theorem qi3 {w : World} (h : RightP w) {p : Int} (p0 : 0 ≤ p) (p1 : p < (w.at_.length : Int)) (q : Int) {d : Int} (d0 : 0 ≤ d) (d1 : d < 4) : K2 w p q d = some (gy w p q d) := by
 unfold K2 gy
 by_cases e : 0 ≤ q ∧ q < (w.at_.length : Int)
 ·rw [qv (by omega), jJ (by rw [ilen_eq]; omega), if_pos e]
  by_cases e1 : q = p
  ·rw [qP e1, if_pos e1]
  ·rw [qO e1, if_neg e1, qn p0 p1, qg, qn e.1 e.2, qg, qx, RN h e.1 e.2 d0 d1, qg]
   by_cases e2 : gi w.at_ q = gi w.at_ p
   ·rw [if_pos e2, if_pos e2.symm]
   ·rw [if_neg e2, if_neg (Ne.symm e2)]
 ·rw [if_neg e]
  by_cases e0 : q < 0
  ·rw [qm e0]
  ·rw [qv e0, qC (by rw [ilen_eq]; omega)]
theorem qij {w : World} (h : RightP w) {p : Int} (p0 : 0 ≤ p) (p1 : p < (w.at_.length : Int)) (q : Int) {d : Int} (d0 : 0 ≤ d) (d1 : d < 4) : Kn w p q d = some (gy w p q d) := by
 have hs := h.small
 unfold Kn gy
 simp only [zt]
 by_cases e : 0 ≤ q ∧ q < (w.at_.length : Int)
 ·rw [qv (by omega), jJ (by rw [ilen_eq]; omega), if_pos e]
  by_cases e1 : q = p
  ·rw [qP e1, if_pos e1]
  ·rw [qO e1, if_neg e1, qn e.1 e.2, qg, qn p0 p1, qg, qx]
   by_cases e2 : gi w.at_ q = gi w.at_ p
   ·rw [if_pos e2, if_pos e2, qg]
    obtain ⟨x, he, hx, hok⟩ := ZU h e.1 e.2 d0 d1
    unfold kP Q1
    rw [he, qg, qC d0, qm d1, ← hx, qg, qx]
    by_cases e1 : exW w (gi w.at_ q) d = -1
    ·rw [if_neg (by omega), if_pos e1]
    ·have e0 : 0 ≤ exW w (gi w.at_ q) d := by omega
     rw [if_pos e0, if_neg e1, z6 _ hs.at_, z6 _ hs.coins, J2 _ hs.where_]
     simp only [qg]
     rw [qC e.1, qm (by rw [ilen_eq]; exact e.2), qn e.1 e.2, qg]
     have em : DN (exW w (gi w.at_ q) d) 0 = exW w (gi w.at_ q) d := by
      unfold DN
      rw [if_neg (by omega)]
     rw [em]
     rfl
   ·rw [if_neg e2, if_neg e2]
 ·rw [if_neg e]
  by_cases e0 : q < 0
  ·rw [qm e0]
  ·rw [qv e0, qC (by rw [ilen_eq]; omega)]
end Go.Sx
