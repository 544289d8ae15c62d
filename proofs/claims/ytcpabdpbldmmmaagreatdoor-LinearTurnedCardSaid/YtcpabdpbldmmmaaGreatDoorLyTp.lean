/-
  Worlds: what a call does (plain).
-/
import Derived.Test.YtcpabdpbldmmmaaGreatDoorLyTo
import Derived.Test.YtcpabdpbldmmmaaGreatDoorLyTb
set_option linter.unusedVariables false
set_option linter.unusedSimpArgs false
namespace Go.Sx
open Go Go.Proofs
def repE (e : Int) : Reply := ⟨e, 0, 0, [], [], 0⟩
def repK (k r : Int) : Reply := ⟨0, k, r, [], [], 0⟩
def Qo (w : World) (k r : Int) (v : World) (e : Int) : World × Reply := if e = 0 then (v, repK k r) else (w, repE e)
noncomputable def qkg (w : World) (p : Int) : Reply := ⟨0, 9, gi w.at_ p, vo w.at_ (gi w.at_ p) w.at_.length, JD w ⟨0, gi w.at_ p⟩ w.where_.length, 0⟩
noncomputable def ownP (w : World) (p : Int) : Reply := ⟨0, 10, 0, [], JD w ⟨1, p⟩ w.where_.length, gi w.coins p⟩
open Classical in
noncomputable def DoP (w : World) (p : Int) (c : Cmd) : World × Reply :=
 if ¬ Y2 c = true then (w, repE 2)
 else if c.kind = 1 then Qo w c.kind (kR w p c.dir).2.1 (kR w p c.dir).1 (kR w p c.dir).2.2
 else if c.kind = 2 then Qo w c.kind (gu w p c.who c.dir).2.1 (gu w p c.who c.dir).1 (gu w p c.who c.dir).2.2
 else if c.kind = 3 then Qo w c.kind 0 (NZ w p c.item).1 (NZ w p c.item).2
 else if c.kind = 4 then Qo w c.kind 0 (VD w p c.item).1 (VD w p c.item).2
 else if c.kind = 5 then Qo w c.kind 0 (VJ w p c.item c.box).1 (VJ w p c.item c.box).2
 else if c.kind = 6 then Qo w c.kind 0 (Qp w p c.item c.box).1 (Qp w p c.item c.box).2
 else if c.kind = 7 then Qo w c.kind 0 (Qu w p c.item c.who).1 (Qu w p c.item c.who).2
 else if c.kind = 8 then Qo w c.kind 0 (kN w p c).1 (kN w p c).2
 else if c.kind = 9 then (w, qkg w p)
 else (w, ownP w p)
theorem Bn (w : World) (p d : Int) (h : (kR w p d).2.2 ≠ 0) : (kR w p d).1 = w := by
 unfold kR at h ⊢
 split
 ·rfl
 ·rename_i e
  rw [if_neg e] at h
  exact absurd rfl h
theorem qgt (w : World) (p q d : Int) (h : (gu w p q d).2.2 ≠ 0) : (gu w p q d).1 = w := by
 unfold gu at h ⊢
 by_cases h1 : 0 ≤ q ∧ q < (w.at_.length : Int)
 ·rw [if_pos h1] at h ⊢
  by_cases h2 : q = p
  ·rw [if_pos h2]
  ·rw [if_neg h2] at h ⊢
   by_cases h3 : gi w.at_ q = gi w.at_ p
   ·rw [if_pos h3] at h ⊢
    exact Bn w q d h
   ·rw [if_neg h3]
 ·rw [if_neg h1]
theorem Jm (w : World) (i : Int) (t : Place) (h : (kA w i t).2 ≠ 0) : (kA w i t).1 = w := by
 unfold kA at h ⊢
 split
 ·rfl
 ·rename_i e
  rw [if_neg e] at h
  exact absurd rfl h
theorem qd1 (w : World) (i : Int) (f t : Place) (h : (mvP w i f t).2 ≠ 0) : (mvP w i f t).1 = w := by
 unfold mvP at h ⊢
 by_cases h1 : 0 ≤ i ∧ i < (w.where_.length : Int)
 ·rw [if_pos h1] at h ⊢
  by_cases h2 : upW w.where_ i.toNat = f
  ·rw [if_pos h2] at h ⊢
   exact Jm w i t h
  ·rw [if_neg h2]
 ·rw [if_neg h1]
theorem qho (w : World) (p i q : Int) (h : (Qu w p i q).2 ≠ 0) : (Qu w p i q).1 = w := by
 unfold Qu at h ⊢
 by_cases h1 : 0 ≤ i ∧ i < (w.where_.length : Int)
 ·rw [if_pos h1] at h ⊢
  by_cases h2 : 0 ≤ q ∧ q < (w.at_.length : Int)
  ·rw [if_pos h2] at h ⊢
   by_cases h3 : q = p
   ·rw [if_pos h3]
   ·rw [if_neg h3] at h ⊢
    by_cases h4 : gi w.at_ q = gi w.at_ p
    ·rw [if_pos h4] at h ⊢
     by_cases h5 : upW w.where_ i.toNat = ⟨1, p⟩
     ·rw [if_pos h5] at h ⊢
      exact Jm w i _ h
     ·rw [if_neg h5]
    ·rw [if_neg h4]
  ·rw [if_neg h2]
 ·rw [if_neg h1]
theorem qfd (w : World) (p i b : Int) (h : (Qp w p i b).2 ≠ 0) : (Qp w p i b).1 = w := by
 unfold Qp at h ⊢
 by_cases h1 : 0 ≤ i ∧ i < (w.where_.length : Int)
 ·rw [if_pos h1] at h ⊢
  by_cases h2 : 0 ≤ b ∧ b < (w.where_.length : Int)
  ·rw [if_pos h2] at h ⊢
   by_cases h3 : vN w p b
   ·rw [if_pos h3] at h ⊢
    by_cases h4 : My w b = true
    ·rw [if_pos h4] at h ⊢
     by_cases h5 : upW w.where_ i.toNat = ⟨2, b⟩
     ·rw [if_pos h5] at h ⊢
      exact Jm w i _ h
     ·rw [if_neg h5]
    ·rw [if_neg h4]
   ·rw [if_neg h3]
  ·rw [if_neg h2]
 ·rw [if_neg h1]
theorem qjz (w : World) (p i b : Int) (h : (VJ w p i b).2 ≠ 0) : (VJ w p i b).1 = w := by
 unfold VJ at h ⊢
 by_cases h1 : 0 ≤ i ∧ i < (w.where_.length : Int)
 ·rw [if_pos h1] at h ⊢
  by_cases h2 : 0 ≤ b ∧ b < (w.where_.length : Int)
  ·rw [if_pos h2] at h ⊢
   by_cases h3 : upW w.where_ i.toNat = ⟨1, p⟩
   ·rw [if_pos h3] at h ⊢
    by_cases h4 : vN w p b
    ·rw [if_pos h4] at h ⊢
     by_cases h5 : My w b = true
     ·rw [if_pos h5] at h ⊢
      by_cases h6 : InW w.where_ i.toNat b.toNat
      ·rw [if_pos h6]
      ·rw [if_neg h6] at h ⊢
       by_cases h7 : 4 < jP w b + 1 + hiN w i w.where_.length
       ·rw [if_pos h7]
       ·rw [if_neg h7] at h ⊢
        exact Jm w i _ h
     ·rw [if_neg h5]
    ·rw [if_neg h4]
   ·rw [if_neg h3]
  ·rw [if_neg h2]
 ·rw [if_neg h1]
theorem MM (w : World) (p : Int) (c : Cmd) (h : (kN w p c).2 ≠ 0) : (kN w p c).1 = w := by
 unfold kN at h ⊢
 by_cases h1 : ¬ (0 ≤ c.who ∧ c.who < (w.at_.length : Int))
 ·rw [if_pos h1]
 rw [if_neg h1] at h ⊢
 by_cases h2 : ¬ ∀ x ∈ c.gives ++ c.wants, vD w x
 ·rw [if_pos h2]
 rw [if_neg h2] at h ⊢
 by_cases h3 : c.who = p
 ·rw [if_pos h3]
 rw [if_neg h3] at h ⊢
 by_cases h4 : ¬ gi w.at_ c.who = gi w.at_ p
 ·rw [if_pos h4]
 rw [if_neg h4] at h ⊢
 by_cases h5 : ¬ (c.gives ++ c.wants).Nodup
 ·rw [if_pos h5]
 rw [if_neg h5] at h ⊢
 by_cases h6 : ¬ ((∀ x ∈ c.gives, upW w.where_ x.toNat = ⟨1, p⟩) ∧ ∀ x ∈ c.wants, upW w.where_ x.toNat = ⟨1, c.who⟩)
 ·rw [if_pos h6]
 rw [if_neg h6] at h ⊢
 by_cases h7 : jp w ⟨1, p⟩ < ju c ∨ jp w ⟨1, c.who⟩ < - ju c
 ·rw [if_pos h7]
 rw [if_neg h7] at h ⊢
 by_cases h8 : ¬ (z8 w p c).2.2 = 0
 ·rw [if_pos h8]
 rw [if_neg h8] at h
 exact absurd rfl h
theorem Jc {w v : World} {k r e : Int} (h : e ≠ 0 → v = w) : (obind (jB k r e) fun x_2 => some (v, x_2)) = some (Qo w k r v e) := by
 unfold jB Qo
 by_cases h0 : e = 0
 ·rw [if_pos h0, h0]
  rfl
 ·rw [if_neg h0, qy, if_neg h0, h h0]
  rfl
theorem QD {w v : World} {k r e : Int} : (cnd (bnot (ieq e 0)) (some (w, (⟨e, 0, 0, ([] : List Int), [], 0⟩ : Reply))) (some (v, (⟨0, k, r, ([] : List Int), [], 0⟩ : Reply)))) = some (Qo w k r v e) := by
 unfold Qo
 rw [qy]
 split <;> rfl
theorem qiy {w : World} (h : RightP w) {p : Int} (p0 : 0 ≤ p) (p1 : p < (w.at_.length : Int)) : Kz w p = some (qkg w p) := by
 unfold Kz
 rw [qm p0 p1, qg, qiv _ _ h.small.at_, qg, YL h, qg]
 rfl
theorem qjg {w : World} (h : RightP w) {p : Int} (p0 : 0 ≤ p) (p1 : p < (w.at_.length : Int)) : K5 w p = some (qkg w p) := by
 unfold K5
 rw [qm p0 p1]
 simp only [qg]
 rw [qi8 _ _ h.small.at_, qg, YT h, qg]
 rfl
theorem sown_eq {w : World} (h : RightP w) {p : Int} (p0 : 0 ≤ p) (p1 : p < (w.at_.length : Int)) : YP w p = some (ownP w p) := by
 have := h.coins_len
 have := h.at_len
 unfold YP
 rw [qm p0 (by omega), qg, YL h, qg]
 rfl
theorem rown_eq {w : World} (h : RightP w) {p : Int} (p0 : 0 ≤ p) (p1 : p < (w.at_.length : Int)) : YX w p = some (ownP w p) := by
 have := h.coins_len
 have := h.at_len
 unfold YX
 rw [qm p0 (by omega), qg, YT h, qg]
 rfl
theorem qbz {c : Cmd} (h : Y2 c = true) : qdj c := of_decide_eq_true h
theorem Ve {w : World} (h : RightP w) {p : Int} (p0 : 0 ≤ p) (p1 : p < (w.at_.length : Int)) (c : Cmd) (hg : c.gives.length ≤ 40) (hw : c.wants.length ≤ 40) : Qx w p c = some (DoP w p c) := by
 unfold Qx DoP
 rw [cmay_eq c (by omega) (by omega), qg, Zf]
 by_cases hm : Y2 c = true
 ·rw [if_pos hm, if_neg (fun h => h hm)]
  have hc := qbz hm
  have d0 := hc.2.1.1
  have d1 : c.dir < 4 := by have := hc.2.1.2; omega
  by_cases k1 : c.kind = 1
  ·rw [qQ k1, if_pos k1, qio h p0 p1 d0 d1, qg, Jc (Bn w p c.dir)]
  rw [qL k1, if_neg k1]
  by_cases k2 : c.kind = 2
  ·rw [qQ k2, if_pos k2, qin h p0 p1 _ d0 d1, qg, Jc (qgt w p c.who c.dir)]
  rw [qL k2, if_neg k2]
  by_cases k3 : c.kind = 3
  ·rw [qQ k3, if_pos k3, hget_eq h p0 p1, qg]
   exact Jc (qd1 w c.item _ _)
  rw [qL k3, if_neg k3]
  by_cases k4 : c.kind = 4
  ·rw [qQ k4, if_pos k4, qk0 h p0 p1, qg]
   exact Jc (qd1 w c.item _ _)
  rw [qL k4, if_neg k4]
  by_cases k5 : c.kind = 5
  ·rw [qQ k5, if_pos k5, bput_eq h p0 p1, qg, Jc (qjz w p c.item c.box)]
  rw [qL k5, if_neg k5]
  by_cases k6 : c.kind = 6
  ·rw [qQ k6, if_pos k6, ql7 h p0 p1, qg, Jc (qfd w p c.item c.box)]
  rw [qL k6, if_neg k6]
  by_cases k7 : c.kind = 7
  ·rw [qQ k7, if_pos k7, qk3 h p0 p1, qg, Jc (qho w p c.item c.who)]
  rw [qL k7, if_neg k7]
  by_cases k8 : c.kind = 8
  ·rw [qQ k8, if_pos k8, qhn h p0 p1 c hg hw, qg, Jc (MM w p c)]
  rw [qL k8, if_neg k8]
  by_cases k9 : c.kind = 9
  ·rw [qQ k9, if_pos k9, qiy h p0 p1, qg]
  rw [qL k9, if_neg k9, qQ (by have := hc.1; omega), sown_eq h p0 p1, qg]
 ·rw [if_neg hm, if_pos hm]
  rfl
theorem qjq {w : World} (h : RightP w) {p : Int} (p0 : 0 ≤ p) (p1 : p < (w.at_.length : Int)) (c : Cmd) (hg : c.gives.length ≤ 40) (hw : c.wants.length ≤ 40) : rdoF w p c = some (DoP w p c) := by
 unfold rdoF DoP
 rw [qjw c (by omega) (by omega), qg, Zf]
 by_cases hm : Y2 c = true
 ·rw [if_pos hm, if_neg (fun h => h hm)]
  have hc := qbz hm
  have d0 := hc.2.1.1
  have d1 : c.dir < 4 := by have := hc.2.1.2; omega
  by_cases k1 : c.kind = 1
  ·rw [qQ k1, if_pos k1, Ua, RO h p0 p1 d0 d1, qg, qg]
   exact QD
  rw [qL k1, if_neg k1]
  by_cases k2 : c.kind = 2
  ·rw [qQ k2, if_pos k2, qi7 h p0 p1 _ d0 d1, qg]
   exact QD
  rw [qL k2, if_neg k2]
  by_cases k3 : c.kind = 3
  ·rw [qQ k3, if_pos k3, rget_eq h p0 p1, qg]
   exact QD
  rw [qL k3, if_neg k3]
  by_cases k4 : c.kind = 4
  ·rw [qQ k4, if_pos k4, qjo h p0 p1, qg]
   exact QD
  rw [qL k4, if_neg k4]
  by_cases k5 : c.kind = 5
  ·rw [qQ k5, if_pos k5, rput_eq h p0 p1, qg]
   exact QD
  rw [qL k5, if_neg k5]
  by_cases k6 : c.kind = 6
  ·rw [qQ k6, if_pos k6, qi4 h p0 p1, qg]
   exact QD
  rw [qL k6, if_neg k6]
  by_cases k7 : c.kind = 7
  ·rw [qQ k7, if_pos k7, qjk h p0 p1, qg]
   exact QD
  rw [qL k7, if_neg k7]
  by_cases k8 : c.kind = 8
  ·rw [qQ k8, if_pos k8, qfk h p0 p1 c hg hw, qg]
   exact QD
  rw [qL k8, if_neg k8]
  by_cases k9 : c.kind = 9
  ·rw [qQ k9, if_pos k9, qjg h p0 p1, qg]
  rw [qL k9, if_neg k9, qQ (by have := hc.1; omega), rown_eq h p0 p1, qg]
 ·rw [if_neg hm, if_pos hm]
  rfl
theorem zy {w v : World} (h : RightP w) (hv : RightP v) (k r e : Int) : RightP (Qo w k r v e).1 := by
 unfold Qo
 split
 ·exact hv
 ·exact h
theorem gn {w : World} (h : RightP w) {p : Int} (p0 : 0 ≤ p) (p1 : p < (w.at_.length : Int)) (c : Cmd) : RightP (DoP w p c).1 := by
 unfold DoP
 split
 ·exact h
 rename_i hm
 have hc := qbz (Classical.not_not.1 hm)
 have d0 := hc.2.1.1
 have d1 : c.dir < 4 := by have := hc.2.1.2; omega
 split
 ·exact zy h (Ud h p0 p1 d0 d1) _ _ _
 split
 ·exact zy h (qas h p _ d0 d1) _ _ _
 split
 ·exact zy h (qf5 h p0 p1 _) _ _ _
 split
 ·exact zy h (qau h p0 p1 _) _ _ _
 split
 ·exact zy h (qf4 h p0 p1 _ _) _ _ _
 split
 ·exact zy h (qar h p0 p1 _ _) _ _ _
 split
 ·exact zy h (qat h p _ _) _ _ _
 split
 ·exact zy h (RQ h p0 p1 c) _ _ _
 split
 ·exact h
 ·exact h
theorem Jy (w : World) (p : Int) (c : Cmd) : (DoP w p c).1.at_.length = w.at_.length := by
 have ha : ∀ (v : World) (k r e : Int), v.at_.length = w.at_.length → (Qo w k r v e).1.at_.length = w.at_.length := fun v k r e hv => by
  unfold Qo
  split
  ·exact hv
  ·rfl
 have hp : ∀ (i : Int) (t : Place), (kA w i t).1.at_.length = w.at_.length := fun i t => by
  unfold kA
  split <;> rfl
 have hm : ∀ (q d : Int), (kR w q d).1.at_.length = w.at_.length := fun q d => by
  unfold kR
  split
  ·rfl
  ·exact List.length_set
 unfold DoP
 split
 ·rfl
 split
 ·exact ha _ _ _ _ (hm _ _)
 split
 ·refine ha _ _ _ _ ?_
  unfold gu
  repeat' split
  all_goals first | rfl | exact hm _ _
 split
 ·refine ha _ _ _ _ ?_
  unfold NZ mvP
  repeat' split
  all_goals first | rfl | exact hp _ _
 split
 ·refine ha _ _ _ _ ?_
  unfold VD mvP
  repeat' split
  all_goals first | rfl | exact hp _ _
 split
 ·refine ha _ _ _ _ ?_
  unfold VJ
  repeat' split
  all_goals first | rfl | exact hp _ _
 split
 ·refine ha _ _ _ _ ?_
  unfold Qp
  repeat' split
  all_goals first | rfl | exact hp _ _
 split
 ·refine ha _ _ _ _ ?_
  unfold Qu
  repeat' split
  all_goals first | rfl | exact hp _ _
 split
 ·refine ha _ _ _ _ ?_
  unfold kN
  repeat' split
  all_goals rfl
 split
 ·rfl
 ·rfl
end Go.Sx
