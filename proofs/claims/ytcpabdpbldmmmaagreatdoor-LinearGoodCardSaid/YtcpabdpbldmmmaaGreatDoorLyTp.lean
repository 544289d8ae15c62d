/-
  Worlds: what a call does (plain).
-/
import Derived.Test.YtcpabdpbldmmmaaGreatDoorLyTo
import Derived.Test.YtcpabdpbldmmmaaGreatDoorLyTb
set_option linter.unusedVariables false
set_option linter.unusedSimpArgs false
namespace Go.Sx
open Go Go.Proofs
def repE (e : Int) : Reply := ⟨e, 0, 0, [], [], 0⟩
def repK (k r : Int) : Reply := ⟨0, k, r, [], [], 0⟩
def Qr (w : World) (k r : Int) (v : World) (e : Int) : World × Reply := if e = 0 then (v, repK k r) else (w, repE e)
noncomputable def qkd (w : World) (p : Int) : Reply := ⟨0, 9, gi w.at_ p, vp w.at_ (gi w.at_ p) w.at_.length, JE w ⟨0, gi w.at_ p⟩ w.where_.length, 0⟩
noncomputable def ownP (w : World) (p : Int) : Reply := ⟨0, 10, 0, [], JE w ⟨1, p⟩ w.where_.length, gi w.coins p⟩
open Classical in
noncomputable def DoP (w : World) (p : Int) (c : Cmd) : World × Reply :=
 if ¬ Yz c = true then (w, repE 2)
 else if c.kind = 1 then Qr w c.kind (kP w p c.dir).2.1 (kP w p c.dir).1 (kP w p c.dir).2.2
 else if c.kind = 2 then Qr w c.kind (gy w p c.who c.dir).2.1 (gy w p c.who c.dir).1 (gy w p c.who c.dir).2.2
 else if c.kind = 3 then Qr w c.kind 0 (Ma w p c.item).1 (Ma w p c.item).2
 else if c.kind = 4 then Qr w c.kind 0 (VB w p c.item).1 (VB w p c.item).2
 else if c.kind = 5 then Qr w c.kind 0 (VH w p c.item c.box).1 (VH w p c.item c.box).2
 else if c.kind = 6 then Qr w c.kind 0 (Qs w p c.item c.box).1 (Qs w p c.item c.box).2
 else if c.kind = 7 then Qr w c.kind 0 (Qx w p c.item c.who).1 (Qx w p c.item c.who).2
 else if c.kind = 8 then Qr w c.kind 0 (kL w p c).1 (kL w p c).2
 else if c.kind = 9 then (w, qkd w p)
 else (w, ownP w p)
theorem Bk (w : World) (p d : Int) (h : (kP w p d).2.2 ≠ 0) : (kP w p d).1 = w := by
 unfold kP at h ⊢
 split
 ·rfl
 ·rename_i e
  rw [if_neg e] at h
  exact absurd rfl h
theorem qgr (w : World) (p q d : Int) (h : (gy w p q d).2.2 ≠ 0) : (gy w p q d).1 = w := by
 unfold gy at h ⊢
 by_cases h1 : 0 ≤ q ∧ q < (w.at_.length : Int)
 ·rw [if_pos h1] at h ⊢
  by_cases h2 : q = p
  ·rw [if_pos h2]
  ·rw [if_neg h2] at h ⊢
   by_cases h3 : gi w.at_ q = gi w.at_ p
   ·rw [if_pos h3] at h ⊢
    exact Bk w q d h
   ·rw [if_neg h3]
 ·rw [if_neg h1]
theorem Jn (w : World) (i : Int) (t : Place) (h : (kz w i t).2 ≠ 0) : (kz w i t).1 = w := by
 unfold kz at h ⊢
 split
 ·rfl
 ·rename_i e
  rw [if_neg e] at h
  exact absurd rfl h
theorem qd1 (w : World) (i : Int) (f t : Place) (h : (mvP w i f t).2 ≠ 0) : (mvP w i f t).1 = w := by
 unfold mvP at h ⊢
 by_cases h1 : 0 ≤ i ∧ i < (w.where_.length : Int)
 ·rw [if_pos h1] at h ⊢
  by_cases h2 : upW w.where_ i.toNat = f
  ·rw [if_pos h2] at h ⊢
   exact Jn w i t h
  ·rw [if_neg h2]
 ·rw [if_neg h1]
theorem qhl (w : World) (p i q : Int) (h : (Qx w p i q).2 ≠ 0) : (Qx w p i q).1 = w := by
 unfold Qx at h ⊢
 by_cases h1 : 0 ≤ i ∧ i < (w.where_.length : Int)
 ·rw [if_pos h1] at h ⊢
  by_cases h2 : 0 ≤ q ∧ q < (w.at_.length : Int)
  ·rw [if_pos h2] at h ⊢
   by_cases h3 : q = p
   ·rw [if_pos h3]
   ·rw [if_neg h3] at h ⊢
    by_cases h4 : gi w.at_ q = gi w.at_ p
    ·rw [if_pos h4] at h ⊢
     by_cases h5 : upW w.where_ i.toNat = ⟨1, p⟩
     ·rw [if_pos h5] at h ⊢
      exact Jn w i _ h
     ·rw [if_neg h5]
    ·rw [if_neg h4]
  ·rw [if_neg h2]
 ·rw [if_neg h1]
theorem qfb (w : World) (p i b : Int) (h : (Qs w p i b).2 ≠ 0) : (Qs w p i b).1 = w := by
 unfold Qs at h ⊢
 by_cases h1 : 0 ≤ i ∧ i < (w.where_.length : Int)
 ·rw [if_pos h1] at h ⊢
  by_cases h2 : 0 ≤ b ∧ b < (w.where_.length : Int)
  ·rw [if_pos h2] at h ⊢
   by_cases h3 : vO w p b
   ·rw [if_pos h3] at h ⊢
    by_cases h4 : Mz w b = true
    ·rw [if_pos h4] at h ⊢
     by_cases h5 : upW w.where_ i.toNat = ⟨2, b⟩
     ·rw [if_pos h5] at h ⊢
      exact Jn w i _ h
     ·rw [if_neg h5]
    ·rw [if_neg h4]
   ·rw [if_neg h3]
  ·rw [if_neg h2]
 ·rw [if_neg h1]
theorem qjw (w : World) (p i b : Int) (h : (VH w p i b).2 ≠ 0) : (VH w p i b).1 = w := by
 unfold VH at h ⊢
 by_cases h1 : 0 ≤ i ∧ i < (w.where_.length : Int)
 ·rw [if_pos h1] at h ⊢
  by_cases h2 : 0 ≤ b ∧ b < (w.where_.length : Int)
  ·rw [if_pos h2] at h ⊢
   by_cases h3 : upW w.where_ i.toNat = ⟨1, p⟩
   ·rw [if_pos h3] at h ⊢
    by_cases h4 : vO w p b
    ·rw [if_pos h4] at h ⊢
     by_cases h5 : Mz w b = true
     ·rw [if_pos h5] at h ⊢
      by_cases h6 : InW w.where_ i.toNat b.toNat
      ·rw [if_pos h6]
      ·rw [if_neg h6] at h ⊢
       by_cases h7 : 4 < jO w b + 1 + hiN w i w.where_.length
       ·rw [if_pos h7]
       ·rw [if_neg h7] at h ⊢
        exact Jn w i _ h
     ·rw [if_neg h5]
    ·rw [if_neg h4]
   ·rw [if_neg h3]
  ·rw [if_neg h2]
 ·rw [if_neg h1]
theorem ML (w : World) (p : Int) (c : Cmd) (h : (kL w p c).2 ≠ 0) : (kL w p c).1 = w := by
 unfold kL at h ⊢
 by_cases h1 : ¬ (0 ≤ c.who ∧ c.who < (w.at_.length : Int))
 ·rw [if_pos h1]
 rw [if_neg h1] at h ⊢
 by_cases h2 : ¬ ∀ x ∈ c.gives ++ c.wants, vE w x
 ·rw [if_pos h2]
 rw [if_neg h2] at h ⊢
 by_cases h3 : c.who = p
 ·rw [if_pos h3]
 rw [if_neg h3] at h ⊢
 by_cases h4 : ¬ gi w.at_ c.who = gi w.at_ p
 ·rw [if_pos h4]
 rw [if_neg h4] at h ⊢
 by_cases h5 : ¬ (c.gives ++ c.wants).Nodup
 ·rw [if_pos h5]
 rw [if_neg h5] at h ⊢
 by_cases h6 : ¬ ((∀ x ∈ c.gives, upW w.where_ x.toNat = ⟨1, p⟩) ∧ ∀ x ∈ c.wants, upW w.where_ x.toNat = ⟨1, c.who⟩)
 ·rw [if_pos h6]
 rw [if_neg h6] at h ⊢
 by_cases h7 : jo w ⟨1, p⟩ < jt c ∨ jo w ⟨1, c.who⟩ < - jt c
 ·rw [if_pos h7]
 rw [if_neg h7] at h ⊢
 by_cases h8 : ¬ (z9 w p c).2.2 = 0
 ·rw [if_pos h8]
 rw [if_neg h8] at h
 exact absurd rfl h
theorem Jd {w v : World} {k r e : Int} (h : e ≠ 0 → v = w) : (obind (jA k r e) fun x_2 => some (v, x_2)) = some (Qr w k r v e) := by
 unfold jA Qr
 by_cases h0 : e = 0
 ·rw [if_pos h0, h0]
  rfl
 ·rw [if_neg h0, qx, if_neg h0, h h0]
  rfl
theorem QF {w v : World} {k r e : Int} : (cnd (bnot (ieq e 0)) (some (w, (⟨e, 0, 0, ([] : List Int), [], 0⟩ : Reply))) (some (v, (⟨0, k, r, ([] : List Int), [], 0⟩ : Reply)))) = some (Qr w k r v e) := by
 unfold Qr
 rw [qx]
 split <;> rfl
theorem qiu {w : World} (h : RightP w) {p : Int} (p0 : 0 ≤ p) (p1 : p < (w.at_.length : Int)) : Ky w p = some (qkd w p) := by
 unfold Ky
 rw [qn p0 p1, qg, qir _ _ h.small.at_, qg, YI h, qg]
 rfl
theorem qjc {w : World} (h : RightP w) {p : Int} (p0 : 0 ≤ p) (p1 : p < (w.at_.length : Int)) : K4 w p = some (qkd w p) := by
 unfold K4
 rw [qn p0 p1]
 simp only [qg]
 rw [qi4 _ _ h.small.at_, qg, YQ h, qg]
 rfl
theorem sown_eq {w : World} (h : RightP w) {p : Int} (p0 : 0 ≤ p) (p1 : p < (w.at_.length : Int)) : YM w p = some (ownP w p) := by
 have := h.coins_len
 have := h.at_len
 unfold YM
 rw [qn p0 (by omega), qg, YI h, qg]
 rfl
theorem rown_eq {w : World} (h : RightP w) {p : Int} (p0 : 0 ≤ p) (p1 : p < (w.at_.length : Int)) : YU w p = some (ownP w p) := by
 have := h.coins_len
 have := h.at_len
 unfold YU
 rw [qn p0 (by omega), qg, YQ h, qg]
 rfl
theorem qb0 {c : Cmd} (h : Yz c = true) : qdj c := of_decide_eq_true h
theorem Vc {w : World} (h : RightP w) {p : Int} (p0 : 0 ≤ p) (p1 : p < (w.at_.length : Int)) (c : Cmd) (hg : c.gives.length ≤ 40) (hw : c.wants.length ≤ 40) : Q0 w p c = some (DoP w p c) := by
 unfold Q0 DoP
 rw [cmay_eq c (by omega) (by omega), qg, Zh]
 by_cases hm : Yz c = true
 ·rw [if_pos hm, if_neg (fun h => h hm)]
  have hc := qb0 hm
  have d0 := hc.2.1.1
  have d1 : c.dir < 4 := by have := hc.2.1.2; omega
  by_cases k1 : c.kind = 1
  ·rw [qP k1, if_pos k1, qik h p0 p1 d0 d1, qg, Jd (Bk w p c.dir)]
  rw [qO k1, if_neg k1]
  by_cases k2 : c.kind = 2
  ·rw [qP k2, if_pos k2, qij h p0 p1 _ d0 d1, qg, Jd (qgr w p c.who c.dir)]
  rw [qO k2, if_neg k2]
  by_cases k3 : c.kind = 3
  ·rw [qP k3, if_pos k3, hget_eq h p0 p1, qg]
   exact Jd (qd1 w c.item _ _)
  rw [qO k3, if_neg k3]
  by_cases k4 : c.kind = 4
  ·rw [qP k4, if_pos k4, qky h p0 p1, qg]
   exact Jd (qd1 w c.item _ _)
  rw [qO k4, if_neg k4]
  by_cases k5 : c.kind = 5
  ·rw [qP k5, if_pos k5, bput_eq h p0 p1, qg, Jd (qjw w p c.item c.box)]
  rw [qO k5, if_neg k5]
  by_cases k6 : c.kind = 6
  ·rw [qP k6, if_pos k6, ql6 h p0 p1, qg, Jd (qfb w p c.item c.box)]
  rw [qO k6, if_neg k6]
  by_cases k7 : c.kind = 7
  ·rw [qP k7, if_pos k7, qk2 h p0 p1, qg, Jd (qhl w p c.item c.who)]
  rw [qO k7, if_neg k7]
  by_cases k8 : c.kind = 8
  ·rw [qP k8, if_pos k8, qhk h p0 p1 c hg hw, qg, Jd (ML w p c)]
  rw [qO k8, if_neg k8]
  by_cases k9 : c.kind = 9
  ·rw [qP k9, if_pos k9, qiu h p0 p1, qg]
  rw [qO k9, if_neg k9, qP (by have := hc.1; omega), sown_eq h p0 p1, qg]
 ·rw [if_neg hm, if_pos hm]
  rfl
theorem qjm {w : World} (h : RightP w) {p : Int} (p0 : 0 ≤ p) (p1 : p < (w.at_.length : Int)) (c : Cmd) (hg : c.gives.length ≤ 40) (hw : c.wants.length ≤ 40) : rdoF w p c = some (DoP w p c) := by
 unfold rdoF DoP
 rw [qjt c (by omega) (by omega), qg, Zh]
 by_cases hm : Yz c = true
 ·rw [if_pos hm, if_neg (fun h => h hm)]
  have hc := qb0 hm
  have d0 := hc.2.1.1
  have d1 : c.dir < 4 := by have := hc.2.1.2; omega
  by_cases k1 : c.kind = 1
  ·rw [qP k1, if_pos k1, GY, RN h p0 p1 d0 d1, qg, qg]
   exact QF
  rw [qO k1, if_neg k1]
  by_cases k2 : c.kind = 2
  ·rw [qP k2, if_pos k2, qi3 h p0 p1 _ d0 d1, qg]
   exact QF
  rw [qO k2, if_neg k2]
  by_cases k3 : c.kind = 3
  ·rw [qP k3, if_pos k3, rget_eq h p0 p1, qg]
   exact QF
  rw [qO k3, if_neg k3]
  by_cases k4 : c.kind = 4
  ·rw [qP k4, if_pos k4, qjk h p0 p1, qg]
   exact QF
  rw [qO k4, if_neg k4]
  by_cases k5 : c.kind = 5
  ·rw [qP k5, if_pos k5, rput_eq h p0 p1, qg]
   exact QF
  rw [qO k5, if_neg k5]
  by_cases k6 : c.kind = 6
  ·rw [qP k6, if_pos k6, qi0 h p0 p1, qg]
   exact QF
  rw [qO k6, if_neg k6]
  by_cases k7 : c.kind = 7
  ·rw [qP k7, if_pos k7, qjg h p0 p1, qg]
   exact QF
  rw [qO k7, if_neg k7]
  by_cases k8 : c.kind = 8
  ·rw [qP k8, if_pos k8, qfi h p0 p1 c hg hw, qg]
   exact QF
  rw [qO k8, if_neg k8]
  by_cases k9 : c.kind = 9
  ·rw [qP k9, if_pos k9, qjc h p0 p1, qg]
  rw [qO k9, if_neg k9, qP (by have := hc.1; omega), rown_eq h p0 p1, qg]
 ·rw [if_neg hm, if_pos hm]
  rfl
theorem zx {w v : World} (h : RightP w) (hv : RightP v) (k r e : Int) : RightP (Qr w k r v e).1 := by
 unfold Qr
 split
 ·exact hv
 ·exact h
theorem gr {w : World} (h : RightP w) {p : Int} (p0 : 0 ≤ p) (p1 : p < (w.at_.length : Int)) (c : Cmd) : RightP (DoP w p c).1 := by
 unfold DoP
 split
 ·exact h
 rename_i hm
 have hc := qb0 (Classical.not_not.1 hm)
 have d0 := hc.2.1.1
 have d1 : c.dir < 4 := by have := hc.2.1.2; omega
 split
 ·exact zx h (Ub h p0 p1 d0 d1) _ _ _
 split
 ·exact zx h (qar h p _ d0 d1) _ _ _
 split
 ·exact zx h (qf3 h p0 p1 _) _ _ _
 split
 ·exact zx h (qat h p0 p1 _) _ _ _
 split
 ·exact zx h (qf2 h p0 p1 _ _) _ _ _
 split
 ·exact zx h (qaq h p0 p1 _ _) _ _ _
 split
 ·exact zx h (qas h p _ _) _ _ _
 split
 ·exact zx h (RP h p0 p1 c) _ _ _
 split
 ·exact h
 ·exact h
theorem Jz (w : World) (p : Int) (c : Cmd) : (DoP w p c).1.at_.length = w.at_.length := by
 have ha : ∀ (v : World) (k r e : Int), v.at_.length = w.at_.length → (Qr w k r v e).1.at_.length = w.at_.length := fun v k r e hv => by
  unfold Qr
  split
  ·exact hv
  ·rfl
 have hp : ∀ (i : Int) (t : Place), (kz w i t).1.at_.length = w.at_.length := fun i t => by
  unfold kz
  split <;> rfl
 have hm : ∀ (q d : Int), (kP w q d).1.at_.length = w.at_.length := fun q d => by
  unfold kP
  split
  ·rfl
  ·exact List.length_set
 unfold DoP
 split
 ·rfl
 split
 ·exact ha _ _ _ _ (hm _ _)
 split
 ·refine ha _ _ _ _ ?_
  unfold gy
  repeat' split
  all_goals first | rfl | exact hm _ _
 split
 ·refine ha _ _ _ _ ?_
  unfold Ma mvP
  repeat' split
  all_goals first | rfl | exact hp _ _
 split
 ·refine ha _ _ _ _ ?_
  unfold VB mvP
  repeat' split
  all_goals first | rfl | exact hp _ _
 split
 ·refine ha _ _ _ _ ?_
  unfold VH
  repeat' split
  all_goals first | rfl | exact hp _ _
 split
 ·refine ha _ _ _ _ ?_
  unfold Qs
  repeat' split
  all_goals first | rfl | exact hp _ _
 split
 ·refine ha _ _ _ _ ?_
  unfold Qx
  repeat' split
  all_goals first | rfl | exact hp _ _
 split
 ·refine ha _ _ _ _ ?_
  unfold kL
  repeat' split
  all_goals rfl
 split
 ·rfl
 ·rfl
end Go.Sx
