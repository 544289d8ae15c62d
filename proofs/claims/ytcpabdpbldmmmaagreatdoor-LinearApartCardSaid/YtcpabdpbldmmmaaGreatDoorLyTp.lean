/-
  Worlds: what a call does (plain).
-/
import Derived.Test.YtcpabdpbldmmmaaGreatDoorLyTo
import Derived.Test.YtcpabdpbldmmmaaGreatDoorLyTb
set_option linter.unusedVariables false
set_option linter.unusedSimpArgs false
namespace Go.Sx
open Go Go.Proofs
def repE (e : Int) : Reply := ⟨e, 0, 0, [], [], 0⟩
def repK (k r : Int) : Reply := ⟨0, k, r, [], [], 0⟩
def gf (w : World) (k r : Int) (v : World) (e : Int) : World × Reply := if e = 0 then (v, repK k r) else (w, repE e)
noncomputable def qba (w : World) (p : Int) : Reply := ⟨0, 9, gi w.at_ p, vj w.at_ (gi w.at_ p) w.at_.length, Jr w ⟨0, gi w.at_ p⟩ w.where_.length, 0⟩
noncomputable def ownP (w : World) (p : Int) : Reply := ⟨0, 10, 0, [], Jr w ⟨1, p⟩ w.where_.length, gi w.coins p⟩
open Classical in
noncomputable def DoP (w : World) (p : Int) (c : Cmd) : World × Reply :=
 if ¬ G7 c = true then (w, repE 2)
 else if c.kind = 1 then gf w c.kind (zE w p c.dir).2.1 (zE w p c.dir).1 (zE w p c.dir).2.2
 else if c.kind = 2 then gf w c.kind (vh w p c.who c.dir).2.1 (vh w p c.who c.dir).1 (vh w p c.who c.dir).2.2
 else if c.kind = 3 then gf w c.kind 0 (RL w p c.item).1 (RL w p c.item).2
 else if c.kind = 4 then gf w c.kind 0 (Va w p c.item).1 (Va w p c.item).2
 else if c.kind = 5 then gf w c.kind 0 (Zf w p c.item c.box).1 (Zf w p c.item c.box).2
 else if c.kind = 6 then gf w c.kind 0 (vB w p c.item c.box).1 (vB w p c.item c.box).2
 else if c.kind = 7 then gf w c.kind 0 (vM w p c.item c.who).1 (vM w p c.item c.who).2
 else if c.kind = 8 then gf w c.kind 0 (zy w p c).1 (zy w p c).2
 else if c.kind = 9 then (w, qba w p)
 else (w, ownP w p)
theorem Yq (w : World) (p d : Int) (h : (zE w p d).2.2 ≠ 0) : (zE w p d).1 = w := by
 unfold zE at h ⊢
 split
 ·rfl
 ·rename_i e
  rw [if_neg e] at h
  exact absurd rfl h
theorem qc3 (w : World) (p q d : Int) (h : (vh w p q d).2.2 ≠ 0) : (vh w p q d).1 = w := by
 unfold vh at h ⊢
 by_cases h1 : 0 ≤ q ∧ q < (w.at_.length : Int)
 ·rw [if_pos h1] at h ⊢
  by_cases h2 : q = p
  ·rw [if_pos h2]
  ·rw [if_neg h2] at h ⊢
   by_cases h3 : gi w.at_ q = gi w.at_ p
   ·rw [if_pos h3] at h ⊢
    exact Yq w q d h
   ·rw [if_neg h3]
 ·rw [if_neg h1]
theorem QW (w : World) (i : Int) (t : Place) (h : (z7 w i t).2 ≠ 0) : (z7 w i t).1 = w := by
 unfold z7 at h ⊢
 split
 ·rfl
 ·rename_i e
  rw [if_neg e] at h
  exact absurd rfl h
theorem qa7 (w : World) (i : Int) (f t : Place) (h : (mvP w i f t).2 ≠ 0) : (mvP w i f t).1 = w := by
 unfold mvP at h ⊢
 by_cases h1 : 0 ≤ i ∧ i < (w.where_.length : Int)
 ·rw [if_pos h1] at h ⊢
  by_cases h2 : upW w.where_ i.toNat = f
  ·rw [if_pos h2] at h ⊢
   exact QW w i t h
  ·rw [if_neg h2]
 ·rw [if_neg h1]
theorem qdy (w : World) (p i q : Int) (h : (vM w p i q).2 ≠ 0) : (vM w p i q).1 = w := by
 unfold vM at h ⊢
 by_cases h1 : 0 ≤ i ∧ i < (w.where_.length : Int)
 ·rw [if_pos h1] at h ⊢
  by_cases h2 : 0 ≤ q ∧ q < (w.at_.length : Int)
  ·rw [if_pos h2] at h ⊢
   by_cases h3 : q = p
   ·rw [if_pos h3]
   ·rw [if_neg h3] at h ⊢
    by_cases h4 : gi w.at_ q = gi w.at_ p
    ·rw [if_pos h4] at h ⊢
     by_cases h5 : upW w.where_ i.toNat = ⟨1, p⟩
     ·rw [if_pos h5] at h ⊢
      exact QW w i _ h
     ·rw [if_neg h5]
    ·rw [if_neg h4]
  ·rw [if_neg h2]
 ·rw [if_neg h1]
theorem qcg (w : World) (p i b : Int) (h : (vB w p i b).2 ≠ 0) : (vB w p i b).1 = w := by
 unfold vB at h ⊢
 by_cases h1 : 0 ≤ i ∧ i < (w.where_.length : Int)
 ·rw [if_pos h1] at h ⊢
  by_cases h2 : 0 ≤ b ∧ b < (w.where_.length : Int)
  ·rw [if_pos h2] at h ⊢
   by_cases h3 : vG w p b
   ·rw [if_pos h3] at h ⊢
    by_cases h4 : Nk w b = true
    ·rw [if_pos h4] at h ⊢
     by_cases h5 : upW w.where_ i.toNat = ⟨2, b⟩
     ·rw [if_pos h5] at h ⊢
      exact QW w i _ h
     ·rw [if_neg h5]
    ·rw [if_neg h4]
   ·rw [if_neg h3]
  ·rw [if_neg h2]
 ·rw [if_neg h1]
theorem qgb (w : World) (p i b : Int) (h : (Zf w p i b).2 ≠ 0) : (Zf w p i b).1 = w := by
 unfold Zf at h ⊢
 by_cases h1 : 0 ≤ i ∧ i < (w.where_.length : Int)
 ·rw [if_pos h1] at h ⊢
  by_cases h2 : 0 ≤ b ∧ b < (w.where_.length : Int)
  ·rw [if_pos h2] at h ⊢
   by_cases h3 : upW w.where_ i.toNat = ⟨1, p⟩
   ·rw [if_pos h3] at h ⊢
    by_cases h4 : vG w p b
    ·rw [if_pos h4] at h ⊢
     by_cases h5 : Nk w b = true
     ·rw [if_pos h5] at h ⊢
      by_cases h6 : InW w.where_ i.toNat b.toNat
      ·rw [if_pos h6]
      ·rw [if_neg h6] at h ⊢
       by_cases h7 : 4 < jL w b + 1 + hiN w i w.where_.length
       ·rw [if_pos h7]
       ·rw [if_neg h7] at h ⊢
        exact QW w i _ h
     ·rw [if_neg h5]
    ·rw [if_neg h4]
   ·rw [if_neg h3]
  ·rw [if_neg h2]
 ·rw [if_neg h1]
theorem N6 (w : World) (p : Int) (c : Cmd) (h : (zy w p c).2 ≠ 0) : (zy w p c).1 = w := by
 unfold zy at h ⊢
 by_cases h1 : ¬ (0 ≤ c.who ∧ c.who < (w.at_.length : Int))
 ·rw [if_pos h1]
 rw [if_neg h1] at h ⊢
 by_cases h2 : ¬ ∀ x ∈ c.gives ++ c.wants, vx w x
 ·rw [if_pos h2]
 rw [if_neg h2] at h ⊢
 by_cases h3 : c.who = p
 ·rw [if_pos h3]
 rw [if_neg h3] at h ⊢
 by_cases h4 : ¬ gi w.at_ c.who = gi w.at_ p
 ·rw [if_pos h4]
 rw [if_neg h4] at h ⊢
 by_cases h5 : ¬ (c.gives ++ c.wants).Nodup
 ·rw [if_pos h5]
 rw [if_neg h5] at h ⊢
 by_cases h6 : ¬ ((∀ x ∈ c.gives, upW w.where_ x.toNat = ⟨1, p⟩) ∧ ∀ x ∈ c.wants, upW w.where_ x.toNat = ⟨1, c.who⟩)
 ·rw [if_pos h6]
 rw [if_neg h6] at h ⊢
 by_cases h7 : jl w ⟨1, p⟩ < jt c ∨ jl w ⟨1, c.who⟩ < - jt c
 ·rw [if_pos h7]
 rw [if_neg h7] at h ⊢
 by_cases h8 : ¬ (z0 w p c).2.2 = 0
 ·rw [if_pos h8]
 rw [if_neg h8] at h
 exact absurd rfl h
theorem QQ {w v : World} {k r e : Int} (h : e ≠ 0 → v = w) : (obind (j7 k r e) fun x_2 => some (v, x_2)) = some (gf w k r v e) := by
 unfold j7 gf
 by_cases h0 : e = 0
 ·rw [if_pos h0, h0]
  rfl
 ·rw [if_neg h0, qv, if_neg h0, h h0]
  rfl
theorem Q4 {w v : World} {k r e : Int} : (cnd (bnot (ieq e 0)) (some (w, (⟨e, 0, 0, ([] : List Int), [], 0⟩ : Reply))) (some (v, (⟨0, k, r, ([] : List Int), [], 0⟩ : Reply)))) = some (gf w k r v e) := by
 unfold gf
 rw [qv]
 split <;> rfl
theorem qfa {w : World} (h : RightP w) {p : Int} (p0 : 0 ≤ p) (p1 : p < (w.at_.length : Int)) : ZU w p = some (qba w p) := by
 unfold ZU
 rw [qm p0 p1, qg, qe7 _ _ h.small.at_, qg, UV h, qg]
 rfl
theorem qfr {w : World} (h : RightP w) {p : Int} (p0 : 0 ≤ p) (p1 : p < (w.at_.length : Int)) : NQ w p = some (qba w p) := by
 unfold NQ
 rw [qm p0 p1]
 simp only [qg]
 rw [qfj _ _ h.small.at_, qg, Ye h, qg]
 rfl
theorem sown_eq {w : World} (h : RightP w) {p : Int} (p0 : 0 ≤ p) (p1 : p < (w.at_.length : Int)) : Ya w p = some (ownP w p) := by
 have := h.coins_len
 have := h.at_len
 unfold Ya
 rw [qm p0 (by omega), qg, UV h, qg]
 rfl
theorem rown_eq {w : World} (h : RightP w) {p : Int} (p0 : 0 ≤ p) (p1 : p < (w.at_.length : Int)) : qfk w p = some (ownP w p) := by
 have := h.coins_len
 have := h.at_len
 unfold qfk
 rw [qm p0 (by omega), qg, Ye h, qg]
 rfl
theorem B7 {c : Cmd} (h : G7 c = true) : qan c := of_decide_eq_true h
theorem JO {w : World} (h : RightP w) {p : Int} (p0 : 0 ≤ p) (p1 : p < (w.at_.length : Int)) (c : Cmd) (hg : c.gives.length ≤ 40) (hw : c.wants.length ≤ 40) : Qn w p c = some (DoP w p c) := by
 unfold Qn DoP
 rw [cmay_eq c (by omega) (by omega), qg, JJ]
 by_cases hm : G7 c = true
 ·rw [if_pos hm, if_neg (fun h => h hm)]
  have hc := B7 hm
  have d0 := hc.2.1.1
  have d1 : c.dir < 4 := by have := hc.2.1.2; omega
  by_cases k1 : c.kind = 1
  ·rw [qM k1, if_pos k1, qey h p0 p1 d0 d1, qg, QQ (Yq w p c.dir)]
  rw [qI k1, if_neg k1]
  by_cases k2 : c.kind = 2
  ·rw [qM k2, if_pos k2, qex h p0 p1 _ d0 d1, qg, QQ (qc3 w p c.who c.dir)]
  rw [qI k2, if_neg k2]
  by_cases k3 : c.kind = 3
  ·rw [qM k3, if_pos k3, hget_eq h p0 p1, qg]
   exact QQ (qa7 w c.item _ _)
  rw [qI k3, if_neg k3]
  by_cases k4 : c.kind = 4
  ·rw [qM k4, if_pos k4, qhe h p0 p1, qg]
   exact QQ (qa7 w c.item _ _)
  rw [qI k4, if_neg k4]
  by_cases k5 : c.kind = 5
  ·rw [qM k5, if_pos k5, bput_eq h p0 p1, qg, QQ (qgb w p c.item c.box)]
  rw [qI k5, if_neg k5]
  by_cases k6 : c.kind = 6
  ·rw [qM k6, if_pos k6, qil h p0 p1, qg, QQ (qcg w p c.item c.box)]
  rw [qI k6, if_neg k6]
  by_cases k7 : c.kind = 7
  ·rw [qM k7, if_pos k7, qhi h p0 p1, qg, QQ (qdy w p c.item c.who)]
  rw [qI k7, if_neg k7]
  by_cases k8 : c.kind = 8
  ·rw [qM k8, if_pos k8, qdx h p0 p1 c hg hw, qg, QQ (N6 w p c)]
  rw [qI k8, if_neg k8]
  by_cases k9 : c.kind = 9
  ·rw [qM k9, if_pos k9, qfa h p0 p1, qg]
  rw [qI k9, if_neg k9, qM (by have := hc.1; omega), sown_eq h p0 p1, qg]
 ·rw [if_neg hm, if_pos hm]
  rfl
theorem qf0 {w : World} (h : RightP w) {p : Int} (p0 : 0 ≤ p) (p1 : p < (w.at_.length : Int)) (c : Cmd) (hg : c.gives.length ≤ 40) (hw : c.wants.length ≤ 40) : rdoF w p c = some (DoP w p c) := by
 unfold rdoF DoP
 rw [qf8 c (by omega) (by omega), qg, JJ]
 by_cases hm : G7 c = true
 ·rw [if_pos hm, if_neg (fun h => h hm)]
  have hc := B7 hm
  have d0 := hc.2.1.1
  have d1 : c.dir < 4 := by have := hc.2.1.2; omega
  by_cases k1 : c.kind = 1
  ·rw [qM k1, if_pos k1, qfq, DF h p0 p1 d0 d1, qg, qg]
   exact Q4
  rw [qI k1, if_neg k1]
  by_cases k2 : c.kind = 2
  ·rw [qM k2, if_pos k2, qfi h p0 p1 _ d0 d1, qg]
   exact Q4
  rw [qI k2, if_neg k2]
  by_cases k3 : c.kind = 3
  ·rw [qM k3, if_pos k3, rget_eq h p0 p1, qg]
   exact Q4
  rw [qI k3, if_neg k3]
  by_cases k4 : c.kind = 4
  ·rw [qM k4, if_pos k4, qfz h p0 p1, qg]
   exact Q4
  rw [qI k4, if_neg k4]
  by_cases k5 : c.kind = 5
  ·rw [qM k5, if_pos k5, rput_eq h p0 p1, qg]
   exact Q4
  rw [qI k5, if_neg k5]
  by_cases k6 : c.kind = 6
  ·rw [qM k6, if_pos k6, qff h p0 p1, qg]
   exact Q4
  rw [qI k6, if_neg k6]
  by_cases k7 : c.kind = 7
  ·rw [qM k7, if_pos k7, qfv h p0 p1, qg]
   exact Q4
  rw [qI k7, if_neg k7]
  by_cases k8 : c.kind = 8
  ·rw [qM k8, if_pos k8, qcn h p0 p1 c hg hw, qg]
   exact Q4
  rw [qI k8, if_neg k8]
  by_cases k9 : c.kind = 9
  ·rw [qM k9, if_pos k9, qfr h p0 p1, qg]
  rw [qI k9, if_neg k9, qM (by have := hc.1; omega), rown_eq h p0 p1, qg]
 ·rw [if_neg hm, if_pos hm]
  rfl
theorem zq {w v : World} (h : RightP w) (hv : RightP v) (k r e : Int) : RightP (gf w k r v e).1 := by
 unfold gf
 split
 ·exact hv
 ·exact h
theorem vg {w : World} (h : RightP w) {p : Int} (p0 : 0 ≤ p) (p1 : p < (w.at_.length : Int)) (c : Cmd) : RightP (DoP w p c).1 := by
 unfold DoP
 split
 ·exact h
 rename_i hm
 have hc := B7 (Classical.not_not.1 hm)
 have d0 := hc.2.1.1
 have d1 : c.dir < 4 := by have := hc.2.1.2; omega
 split
 ·exact zq h (Gp h p0 p1 d0 d1) _ _ _
 split
 ·exact zq h (NS h p _ d0 d1) _ _ _
 split
 ·exact zq h (qct h p0 p1 _) _ _ _
 split
 ·exact zq h (NU h p0 p1 _) _ _ _
 split
 ·exact zq h (qcs h p0 p1 _ _) _ _ _
 split
 ·exact zq h (NR h p0 p1 _ _) _ _ _
 split
 ·exact zq h (NT h p _ _) _ _ _
 split
 ·exact zq h (DH h p0 p1 c) _ _ _
 split
 ·exact h
 ·exact h
theorem Qe (w : World) (p : Int) (c : Cmd) : (DoP w p c).1.at_.length = w.at_.length := by
 have ha : ∀ (v : World) (k r e : Int), v.at_.length = w.at_.length → (gf w k r v e).1.at_.length = w.at_.length := fun v k r e hv => by
  unfold gf
  split
  ·exact hv
  ·rfl
 have hp : ∀ (i : Int) (t : Place), (z7 w i t).1.at_.length = w.at_.length := fun i t => by
  unfold z7
  split <;> rfl
 have hm : ∀ (q d : Int), (zE w q d).1.at_.length = w.at_.length := fun q d => by
  unfold zE
  split
  ·rfl
  ·exact List.length_set
 unfold DoP
 split
 ·rfl
 split
 ·exact ha _ _ _ _ (hm _ _)
 split
 ·refine ha _ _ _ _ ?_
  unfold vh
  repeat' split
  all_goals first | rfl | exact hm _ _
 split
 ·refine ha _ _ _ _ ?_
  unfold RL mvP
  repeat' split
  all_goals first | rfl | exact hp _ _
 split
 ·refine ha _ _ _ _ ?_
  unfold Va mvP
  repeat' split
  all_goals first | rfl | exact hp _ _
 split
 ·refine ha _ _ _ _ ?_
  unfold Zf
  repeat' split
  all_goals first | rfl | exact hp _ _
 split
 ·refine ha _ _ _ _ ?_
  unfold vB
  repeat' split
  all_goals first | rfl | exact hp _ _
 split
 ·refine ha _ _ _ _ ?_
  unfold vM
  repeat' split
  all_goals first | rfl | exact hp _ _
 split
 ·refine ha _ _ _ _ ?_
  unfold zy
  repeat' split
  all_goals rfl
 split
 ·rfl
 ·rfl
end Go.Sx
