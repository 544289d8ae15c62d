/-
  Worlds: get, drop, give, take, and the ways through doors (plain).
-/
import Derived.Test.YtcpabdpbldmmmaaGreatDoorLyTi
set_option linter.unusedVariables false
set_option linter.unusedSimpArgs false
namespace Go.Sx
open Go Go.Proofs
theorem jv {ws : List Place} {i : Int} (h0 : 0 ≤ i) (h1 : i < (ws.length : Int)) : lget ws i = some (upW ws i.toNat) := by
 rw [jh h0 h1, zO]
def kA (w : World) (i : Int) (t : Place) : World × Int := if jp w t < 1 then (w, 9) else (toP w i t, 0)
theorem Db {w : World} (h : RightP w) {i : Int} (i0 : 0 ≤ i) (i1 : i < (w.where_.length : Int)) {t : Place} (k0 : 0 ≤ t.kind) (k1 : t.kind < 3) :
  obind (zi w t) (fun x_1 => cnd (ilt x_1 1) (some (w, 9)) (obind (KP w i t) fun x_2 => some (x_2, 0))) = some (kA w i t) := by
 rw [GI (Qj h) h.small k0 k1, qg]
 unfold kA
 by_cases e : jp w t < 1
 ·rw [qn e, if_pos e]
 ·rw [qw e, if_neg e, hto_eq h.small i0 i1]
  rfl
theorem Da {w : World} (h : RightP w) {i : Int} (i0 : 0 ≤ i) (i1 : i < (w.where_.length : Int)) {t : Place} (k0 : 0 ≤ t.kind) (k1 : t.kind < 3) :
  obind (jO w t) (fun x_1 => cnd (ieq x_1 0) (some (w, 9)) (obind (JV w i t) fun x_2 => some (x_2, 0))) = some (kA w i t) := by
 rw [Z1 (Qj h) h.small k0 k1, qg]
 have := qdr h t
 unfold kA
 by_cases e : jp w t < 1
 ·rw [qQ (by omega), if_pos e]
 ·rw [qL (by omega), if_neg e, qi3 h.small i0 i1]
  rfl
def mvP (w : World) (i : Int) (f t : Place) : World × Int :=
 if 0 ≤ i ∧ i < (w.where_.length : Int) then (if upW w.where_ i.toNat = f then kA w i t else (w, 5)) else (w, 3)
theorem NS {w : World} (h : RightP w) (i : Int) {f t : Place} (k0 : 0 ≤ t.kind) (k1 : t.kind < 3) : QO w i f t = some (mvP w i f t) := by
 unfold QO mvP
 by_cases e : 0 ≤ i ∧ i < (w.where_.length : Int)
 ·rw [qw (by omega), jE (by rw [ilen_eq]; omega), if_pos e, jv e.1 e.2, qg, qX, qy, Db h e.1 e.2 k0 k1]
  split <;> rfl
 ·rw [if_neg e]
  by_cases e0 : i < 0
  ·rw [qn e0]
  ·rw [qw e0, qC (by rw [ilen_eq]; omega)]
def NZ (w : World) (p i : Int) : World × Int := mvP w i ⟨0, gi w.at_ p⟩ ⟨1, p⟩
def VD (w : World) (p i : Int) : World × Int := mvP w i ⟨1, p⟩ ⟨0, gi w.at_ p⟩
theorem hget_eq {w : World} (h : RightP w) {p : Int} (p0 : 0 ≤ p) (p1 : p < (w.at_.length : Int)) (i : Int) : B0 w p i = some (NZ w p i) := by
 unfold B0 kF NZ
 rw [qm p0 p1, qg, qg, NS h i (by decide : (0:Int) ≤ 1) (by decide : (1:Int) < 3), qg]
theorem qk0 {w : World} (h : RightP w) {p : Int} (p0 : 0 ≤ p) (p1 : p < (w.at_.length : Int)) (i : Int) : KR w p i = some (VD w p i) := by
 unfold KR kF VD
 rw [qm p0 p1, qg, qg, NS h i (by decide : (0:Int) ≤ 0) (by decide : (0:Int) < 3), qg]
theorem rget_eq {w : World} (h : RightP w) {p : Int} (p0 : 0 ≤ p) (p1 : p < (w.at_.length : Int)) (i : Int) : K8 w p i = some (NZ w p i) := by
 unfold K8 NZ mvP
 by_cases e : 0 ≤ i ∧ i < (w.where_.length : Int)
 ·rw [qw (by omega), jE (by rw [ilen_eq]; omega), if_pos e, jv e.1 e.2, qg, qm p0 p1, qg, qX (upW w.where_ i.toNat) ⟨0, gi w.at_ p⟩, qy,
   Da h e.1 e.2 (by decide : (0:Int) ≤ 1) (by decide : (1:Int) < 3)]
  split <;> rfl
 ·rw [if_neg e]
  by_cases e0 : i < 0
  ·rw [qn e0]
  ·rw [qw e0, qC (by rw [ilen_eq]; omega)]
theorem qjo {w : World} (h : RightP w) {p : Int} (p0 : 0 ≤ p) (p1 : p < (w.at_.length : Int)) (i : Int) : Jj w p i = some (VD w p i) := by
 unfold Jj VD mvP
 by_cases e : 0 ≤ i ∧ i < (w.where_.length : Int)
 ·rw [qw (by omega), jE (by rw [ilen_eq]; omega), if_pos e, jv e.1 e.2, qg, qX (upW w.where_ i.toNat) ⟨1, p⟩, qy, qm p0 p1]
  simp only [qg]
  rw [Da h e.1 e.2 (by decide : (0:Int) ≤ 0) (by decide : (0:Int) < 3)]
  split <;> rfl
 ·rw [if_neg e]
  by_cases e0 : i < 0
  ·rw [qn e0]
  ·rw [qw e0, qC (by rw [ilen_eq]; omega)]
def Qu (w : World) (p i q : Int) : World × Int :=
 if 0 ≤ i ∧ i < (w.where_.length : Int) then
  (if 0 ≤ q ∧ q < (w.at_.length : Int) then
   (if q = p then (w, 12) else if gi w.at_ q = gi w.at_ p then (if upW w.where_ i.toNat = ⟨1, p⟩ then kA w i ⟨1, q⟩ else (w, 5)) else (w, 5))
  else (w, 3))
 else (w, 3)
theorem qd6 (w : World) (i : Int) : NY w i = some (decide (0 ≤ i ∧ i < (w.where_.length : Int))) := by
 unfold NY
 by_cases h : 0 ≤ i
 ·rw [qC h]
  congr 1
  exact decide_eq_decide.2 ⟨fun h' => ⟨h, by rw [ilen_eq] at h'; exact h'⟩, fun h' => by rw [ilen_eq]; exact h'.2⟩
 ·rw [jE h, decide_eq_false (fun h' => h h'.1)]
theorem Z2 (w : World) (i : Int) : gV w i = some (decide (0 ≤ i ∧ i < (w.where_.length : Int))) := qd6 w i
theorem qko (w : World) (q : Int) : kH w q = some (decide (0 ≤ q ∧ q < (w.at_.length : Int))) := by
 unfold kH
 by_cases h : 0 ≤ q
 ·rw [qC h]
  congr 1
  exact decide_eq_decide.2 ⟨fun h' => ⟨h, by rw [ilen_eq] at h'; exact h'⟩, fun h' => by rw [ilen_eq]; exact h'.2⟩
 ·rw [jE h, decide_eq_false (fun h' => h h'.1)]
theorem Kb (w : World) (i : Int) : vY w i = some (decide (¬ (0 ≤ i ∧ i < (w.where_.length : Int)))) := by
 unfold vY
 by_cases h : i < 0
 ·rw [qn h, decide_eq_true (p := ¬ (0 ≤ i ∧ i < (w.where_.length : Int))) (fun h' => absurd h'.1 (by omega))]
 ·rw [qw h]
  congr 1
  exact decide_eq_decide.2 ⟨fun h' h'' => by rw [ilen_eq] at h'; omega, fun h' => by rw [ilen_eq]; omega⟩
theorem qk3 {w : World} (h : RightP w) {p : Int} (p0 : 0 ≤ p) (p1 : p < (w.at_.length : Int)) (i q : Int) : KS w p i q = some (Qu w p i q) := by
 unfold KS Qu j8
 rw [qd6, qg, qy]
 by_cases e : 0 ≤ i ∧ i < (w.where_.length : Int)
 ·rw [if_pos e, if_pos e, qko, qg, qy]
  by_cases eq : 0 ≤ q ∧ q < (w.at_.length : Int)
  ·rw [if_pos eq, if_pos eq]
   by_cases e1 : q = p
   ·rw [qQ e1, if_pos e1]
   ·rw [qL e1, if_neg e1, qm eq.1 eq.2, qg, qm p0 p1, qg, qy, jv e.1 e.2]
    simp only [qg]
    rw [qX (upW w.where_ i.toNat) ⟨1, p⟩, qy, Db h e.1 e.2 (by decide : (0:Int) ≤ 1) (by decide : (1:Int) < 3)]
    split
    ·split <;> rfl
    ·rfl
  ·rw [if_neg eq, if_neg eq]
 ·rw [if_neg e, if_neg e]
theorem qjk {w : World} (h : RightP w) {p : Int} (p0 : 0 ≤ p) (p1 : p < (w.at_.length : Int)) (i q : Int) : K7 w p i q = some (Qu w p i q) := by
 unfold K7 Qu
 by_cases e : 0 ≤ i ∧ i < (w.where_.length : Int)
 ·rw [qw (by omega), jE (by rw [ilen_eq]; omega), if_pos e]
  by_cases eq : 0 ≤ q ∧ q < (w.at_.length : Int)
  ·rw [qw (by omega), jE (by rw [ilen_eq]; omega), if_pos eq]
   by_cases e1 : q = p
   ·rw [qQ e1.symm, if_pos e1]
   ·rw [qL (Ne.symm e1), if_neg e1, qm p0 p1, qg, qm eq.1 eq.2, qg, qy, jv e.1 e.2, qg]
    rw [qX (upW w.where_ i.toNat) ⟨1, p⟩, qy, Da h e.1 e.2 (by decide : (0:Int) ≤ 1) (by decide : (1:Int) < 3)]
    by_cases e2 : gi w.at_ q = gi w.at_ p
    ·rw [if_pos e2, if_pos e2.symm]
     split <;> rfl
    ·rw [if_neg e2, if_neg (Ne.symm e2)]
  ·rw [if_neg eq]
   by_cases e0 : q < 0
   ·rw [qn e0]
   ·rw [qw e0, qC (by rw [ilen_eq]; omega)]
 ·rw [if_neg e]
  by_cases e0 : i < 0
  ·rw [qn e0]
  ·rw [qw e0, qC (by rw [ilen_eq]; omega)]
def My (w : World) (b : Int) : Bool := w.desc.boxes.getD b.toNat false
theorem QM {w : World} (h : RightP w) {b : Int} (b0 : 0 ≤ b) (b1 : b < (w.where_.length : Int)) : lget w.desc.boxes b = some (My w b) := by
 have : b.toNat < w.desc.boxes.length := by
  have := h.may.boxes
  have := h.where_len
  omega
 rw [jh b0 (by omega)]
 unfold My
 rw [List.getD_eq_getElem?_getD, List.getElem?_eq_getElem this]
 rfl
open Classical in
noncomputable def Qp (w : World) (p i b : Int) : World × Int :=
 if 0 ≤ i ∧ i < (w.where_.length : Int) then
  (if 0 ≤ b ∧ b < (w.where_.length : Int) then
   (if vN w p b then (if My w b = true then (if upW w.where_ i.toNat = ⟨2, b⟩ then kA w i ⟨1, p⟩ else (w, 5)) else (w, 6)) else (w, 5))
  else (w, 3))
 else (w, 3)
theorem Zf {α : Type} {b : Bool} {x y : α} : cnd (bnot b) x y = if b = true then y else x := by cases b <;> rfl
theorem UW {α : Type} {p : Prop} [Decidable p] {x y : α} : cnd (decide (¬ p)) x y = if p then y else x := by
 by_cases h : p
 ·rw [if_pos h, q8 (decide_eq_false (fun h' => h' h))]
 ·rw [if_neg h, q7 (decide_eq_true h)]
open Classical in
theorem ql7 {w : World} (h : RightP w) {p : Int} (p0 : 0 ≤ p) (p1 : p < (w.at_.length : Int)) (i b : Int) : Vc w p i b = some (Qp w p i b) := by
 unfold Vc Qp
 rw [Kb, qg, UW]
 by_cases e : 0 ≤ i ∧ i < (w.where_.length : Int)
 ·rw [if_pos e, if_pos e, Kb, qg, UW]
  by_cases eb : 0 ≤ b ∧ b < (w.where_.length : Int)
  ·rw [if_pos eb, if_pos eb, Mz h p0 p1 eb.1 eb.2, qg, qy, QM h eb.1 eb.2, qg, Zf, jv e.1 e.2, qg, qX (upW w.where_ i.toNat) ⟨2, b⟩, qy, Db h e.1 e.2 (by decide : (0:Int) ≤ 1) (by decide : (1:Int) < 3)]
   split
   ·split
    ·split <;> rfl
    ·rfl
   ·rfl
  ·rw [if_neg eb, if_neg eb]
 ·rw [if_neg e, if_neg e]
open Classical in
theorem qi4 {w : World} (h : RightP w) {p : Int} (p0 : 0 ≤ p) (p1 : p < (w.at_.length : Int)) (i b : Int) : gk w p i b = some (Qp w p i b) := by
 unfold gk Qp
 rw [Z2, qg, qy]
 by_cases e : 0 ≤ i ∧ i < (w.where_.length : Int)
 ·rw [if_pos e, if_pos e, Z2, qg, qy]
  by_cases eb : 0 ≤ b ∧ b < (w.where_.length : Int)
  ·rw [if_pos eb, if_pos eb, RN h p0 p1 eb.1 eb.2, qg, qy, QM h eb.1 eb.2, qg, Zf, jv e.1 e.2, qg, qX (upW w.where_ i.toNat) ⟨2, b⟩, qy, Da h e.1 e.2 (by decide : (0:Int) ≤ 1) (by decide : (1:Int) < 3)]
   split
   ·split
    ·split <;> rfl
    ·rfl
   ·rfl
  ·rw [if_neg eb, if_neg eb]
 ·rw [if_neg e, if_neg e]
def exW (w : World) (r d : Int) : Int := match lget w.desc.exits r with
 | some e => jU [e.e0, e.e1, e.e2, e.e3] d
 | none => 0
def atP (w : World) (p r : Int) : World := ⟨w.desc, lset w.at_ p r, w.coins, w.where_⟩
def kR (w : World) (p d : Int) : World × Int × Int := if exW w (gi w.at_ p) d = -1 then (w, (0, 4)) else (atP w p (exW w (gi w.at_ p) d), (exW w (gi w.at_ p) d, 0))
theorem qk6 {a b c e : Int} {d : Int} (d0 : 0 ≤ d) (d1 : d < 4) : jU [a, b, c, e] d ∈ [a, b, c, e] := by
 have : d = 0 ∨ d = 1 ∨ d = 2 ∨ d = 3 := by omega
 rcases this with h | h | h | h <;> subst h <;> simp [jU]
theorem ZV {w : World} (h : RightP w) {p : Int} (p0 : 0 ≤ p) (p1 : p < (w.at_.length : Int)) {d : Int} (d0 : 0 ≤ d) (d1 : d < 4) :
  ∃ e, lget w.desc.exits (gi w.at_ p) = some e ∧ exW w (gi w.at_ p) d = jU [e.e0, e.e1, e.e2, e.e3] d ∧ (exW w (gi w.at_ p) d = -1 ∨ (0 ≤ exW w (gi w.at_ p) d ∧ exW w (gi w.at_ p) d < (w.desc.exits.length : Int))) := by
 have hr := h.at_ok _ (vv p0 p1)
 have hl := jh (l := w.desc.exits) hr.1 hr.2
 have he : exW w (gi w.at_ p) d = jU [(w.desc.exits[(gi w.at_ p).toNat]'(by omega)).e0, (w.desc.exits[(gi w.at_ p).toNat]'(by omega)).e1, (w.desc.exits[(gi w.at_ p).toNat]'(by omega)).e2, (w.desc.exits[(gi w.at_ p).toNat]'(by omega)).e3] d := by
  unfold exW
  rw [hl]
 refine ⟨_, hl, he, ?_⟩
 rw [he]
 exact h.may.exits _ (List.getElem_mem _) _ (qk6 d0 d1)
theorem qio {w : World} (h : RightP w) {p : Int} (p0 : 0 ≤ p) (p1 : p < (w.at_.length : Int)) {d : Int} (d0 : 0 ≤ d) (d1 : d < 4) : Kq w p d = some (kR w p d) := by
 obtain ⟨e, he, hx, hok⟩ := ZV h p0 p1 d0 d1
 have hs := h.small
 unfold Kq kR Qy
 rw [qm p0 p1, qg, he, qg, qC d0, qn d1, ← hx, qg]
 rw [qy]
 by_cases e1 : exW w (gi w.at_ p) d = -1
 ·rw [if_neg (by omega), if_pos e1]
 ·have e0 : 0 ≤ exW w (gi w.at_ p) d := by omega
  rw [if_pos e0, if_neg e1, z5 _ hs.at_, z5 _ hs.coins, J1 _ hs.where_]
  simp only [qg, jQ]
  rw [qC p0, qn (by rw [ilen_eq]; exact p1), qm p0 p1, qg]
  have em : DO (exW w (gi w.at_ p) d) 0 = exW w (gi w.at_ p) d := by
   unfold DO
   rw [if_neg (by omega)]
  rw [em]
  rfl
theorem RO {w : World} (h : RightP w) {p : Int} (p0 : 0 ≤ p) (p1 : p < (w.at_.length : Int)) {d : Int} (d0 : 0 ≤ d) (d1 : d < 4) : Q8 w p d = some (kR w p d) := by
 obtain ⟨e, he, hx, hok⟩ := ZV h p0 p1 d0 d1
 have hs := h.small
 unfold Q8 kR
 rw [qm p0 p1, qg, he, qg, qC d0, qn d1, ← hx]
 by_cases e1 : exW w (gi w.at_ p) d = -1
 ·rw [qQ e1, if_pos e1]
 ·rw [qL e1, if_neg e1, UK hs.at_, UK hs.coins, qef hs.where_, qC p0, qn (by rw [ilen_eq]; exact p1), qg]
  rfl
def gu (w : World) (p q d : Int) : World × Int × Int :=
 if 0 ≤ q ∧ q < (w.at_.length : Int) then (if q = p then (w, (0, 12)) else if gi w.at_ q = gi w.at_ p then kR w q d else (w, (0, 5))) else (w, (0, 3))
theorem qi7 {w : World} (h : RightP w) {p : Int} (p0 : 0 ≤ p) (p1 : p < (w.at_.length : Int)) (q : Int) {d : Int} (d0 : 0 ≤ d) (d1 : d < 4) : K3 w p q d = some (gu w p q d) := by
 unfold K3 gu
 by_cases e : 0 ≤ q ∧ q < (w.at_.length : Int)
 ·rw [qw (by omega), jE (by rw [ilen_eq]; omega), if_pos e]
  by_cases e1 : q = p
  ·rw [qQ e1, if_pos e1]
  ·rw [qL e1, if_neg e1, qm p0 p1, qg, qm e.1 e.2, qg, qy, RO h e.1 e.2 d0 d1, qg]
   by_cases e2 : gi w.at_ q = gi w.at_ p
   ·rw [if_pos e2, if_pos e2.symm]
   ·rw [if_neg e2, if_neg (Ne.symm e2)]
 ·rw [if_neg e]
  by_cases e0 : q < 0
  ·rw [qn e0]
  ·rw [qw e0, qC (by rw [ilen_eq]; omega)]
theorem qin {w : World} (h : RightP w) {p : Int} (p0 : 0 ≤ p) (p1 : p < (w.at_.length : Int)) (q : Int) {d : Int} (d0 : 0 ≤ d) (d1 : d < 4) : Ko w p q d = some (gu w p q d) := by
 have hs := h.small
 unfold Ko gu
 simp only [jQ]
 by_cases e : 0 ≤ q ∧ q < (w.at_.length : Int)
 ·rw [qw (by omega), jE (by rw [ilen_eq]; omega), if_pos e]
  by_cases e1 : q = p
  ·rw [qQ e1, if_pos e1]
  ·rw [qL e1, if_neg e1, qm e.1 e.2, qg, qm p0 p1, qg, qy]
   by_cases e2 : gi w.at_ q = gi w.at_ p
   ·rw [if_pos e2, if_pos e2, qg]
    obtain ⟨x, he, hx, hok⟩ := ZV h e.1 e.2 d0 d1
    unfold kR Qy
    rw [he, qg, qC d0, qn d1, ← hx, qg, qy]
    by_cases e1 : exW w (gi w.at_ q) d = -1
    ·rw [if_neg (by omega), if_pos e1]
    ·have e0 : 0 ≤ exW w (gi w.at_ q) d := by omega
     rw [if_pos e0, if_neg e1, z5 _ hs.at_, z5 _ hs.coins, J1 _ hs.where_]
     simp only [qg]
     rw [qC e.1, qn (by rw [ilen_eq]; exact e.2), qm e.1 e.2, qg]
     have em : DO (exW w (gi w.at_ q) d) 0 = exW w (gi w.at_ q) d := by
      unfold DO
      rw [if_neg (by omega)]
     rw [em]
     rfl
   ·rw [if_neg e2, if_neg e2]
 ·rw [if_neg e]
  by_cases e0 : q < 0
  ·rw [qn e0]
  ·rw [qw e0, qC (by rw [ilen_eq]; omega)]
end Go.Sx
