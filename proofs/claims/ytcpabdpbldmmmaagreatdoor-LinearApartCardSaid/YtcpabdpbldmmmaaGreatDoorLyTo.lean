/-
  Worlds: trades, both ways (plain).
-/
import Derived.Test.YtcpabdpbldmmmaaGreatDoorLyTn
set_option linter.unusedVariables false
set_option linter.unusedSimpArgs false
namespace Go.Sx
open Go Go.Proofs
theorem qa2 {w : World} {p : Int} {c : Cmd} : (∀ i : Nat, i < (c.gives ++ c.wants).length → Mk w (c.gives ++ c.wants) c.gives.length p c.who i) ↔
  ((∀ x ∈ c.gives, upW w.where_ x.toNat = ⟨1, p⟩) ∧ ∀ x ∈ c.wants, upW w.where_ x.toNat = ⟨1, c.who⟩) := by
 rw [← vu, ← vu]
 unfold Mk
 constructor
 ·intro h
  constructor
  ·intro i hi
   have := h i (by rw [List.length_append]; omega)
   rw [if_neg (by omega), vN hi] at this
   exact this
  ·intro i hi
   have := h (c.gives.length + i) (by rw [List.length_append]; omega)
   rw [if_pos (by omega), BT hi] at this
   exact this
 ·rintro ⟨h1, h2⟩ i hi
  by_cases hk : c.gives.length ≤ i
  ·rw [if_pos hk]
   obtain ⟨k, rfl⟩ : ∃ k, i = c.gives.length + k := ⟨i - c.gives.length, by omega⟩
   rw [List.length_append] at hi
   rw [BT (by omega)]
   exact h2 k (by omega)
  ·rw [if_neg hk, vN (by omega)]
   exact h1 i (by omega)
theorem fit8p {α : Type} {a b : List Int} {x y : α} (ha : a.length ≤ 1000) (hb : b.length ≤ 1000) : cnd (ilt (imul (iadd (qh a) (qh b)) 8) 140737488355329) x y = x := qk (by rw [ilen_eq, ilen_eq]; show ((a.length : Int) + (b.length : Int)) * 8 < _; omega)
theorem qcn {w : World} (h : RightP w) {p : Int} (p0 : 0 ≤ p) (p1 : p < (w.at_.length : Int)) (c : Cmd) (hg : c.gives.length ≤ 40) (hw : c.wants.length ≤ 40) : Bg w p c = some (zy w p c) := by
 have hs := h.small
 have hla : (c.gives ++ c.wants).length ≤ 1000 := by rw [List.length_append]; omega
 unfold Bg zy
 simp only [zn]
 rw [BW (by omega), fit8p (by omega) (by omega)]
 by_cases hq : 0 ≤ c.who ∧ c.who < (w.at_.length : Int)
 ·rw [if_neg (fun h => h hq), qu (by omega), qg]
  dsimp only
  rw [jG (by rw [ilen_eq]; omega)]
  obtain ⟨l1, l2⟩ := rtr6 w p c.who c (c.gives ++ c.wants) hla
  simp only [kTo, z3] at l1 l2
  by_cases hin : ∀ x ∈ c.gives ++ c.wants, vx w x
  ·rw [if_neg (fun h => h hin), l1 hin, qg, ji]
   dsimp only
   by_cases hne : c.who = p
   ·rw [if_pos hne, qM hne.symm]
   rw [if_neg hne, qI (Ne.symm hne)]
   simp only [wTo]
   rw [qm p0 p1, qg, qm hq.1 hq.2, qg, qv]
   by_cases hat : gi w.at_ c.who = gi w.at_ p
   ·rw [if_pos hat.symm, if_neg (fun h => h hat)]
    obtain ⟨l3, l4⟩ := rtr15 w p c.who c (c.gives ++ c.wants) hla
    simp only [kTo, z3, wTo] at l3 l4
    by_cases hnd : (c.gives ++ c.wants).Nodup
    ·rw [if_neg (fun h => h hnd), l3 hnd, qg, ji]
     dsimp only
     rw [BW hs.at_, BW hs.coins, qbk hs.where_]
     obtain ⟨l5, l6⟩ := rtr24 w p c.who c (c.gives ++ c.wants) hla hin w.at_ w.coins
     simp only [kTo, z3, wTo, dTo] at l5 l6
     by_cases hown : (∀ x ∈ c.gives, upW w.where_ x.toNat = ⟨1, p⟩) ∧ ∀ x ∈ c.wants, upW w.where_ x.toNat = ⟨1, c.who⟩
     ·rw [if_neg (fun h => h hown), l5 (qa2.2 hown), qg, ji]
      obtain ⟨m1, m2, m3⟩ := J8 hin hne hnd hown.1 hown.2
      have hn : nkW w.where_ (c.gives ++ c.wants) c.gives.length p c.who (c.gives ++ c.wants).length = jk w p c := by
       rw [List.length_append, qgk _ _ _ _ _ _ (Nat.le_refl _)]
       rfl
      rw [hn]
      dsimp only
      have hd : dOf (w.desc.exits, w.desc.players, w.desc.coins, w.desc.items, w.desc.boxes, w.desc.room, w.desc.player, w.desc.box, ()) = w.desc := rfl
      rw [hd]
      have hsn : SmallW ⟨w.desc, w.at_, w.coins, jk w p c⟩ := ⟨hs.at_, hs.coins, by show (jk w p c).length ≤ _; rw [ZP]; exact hs.where_⟩
      have hcn : ∀ k, 0 ≤ capW ⟨w.desc, w.at_, w.coins, jk w p c⟩ k ∧ capW ⟨w.desc, w.at_, w.coins, jk w p c⟩ k < 65 := fun k => Qh h k
      have r1 : jl ⟨w.desc, w.at_, w.coins, jk w p c⟩ ⟨1, p⟩ = jl w ⟨1, p⟩ - jt c := by
       show capW w 1 - (manyW (jk w p c) ⟨1, p⟩ : Int) = capW w 1 - (manyW w.where_ ⟨1, p⟩ : Int) - jt c
       omega
      have r2 : jl ⟨w.desc, w.at_, w.coins, jk w p c⟩ ⟨1, c.who⟩ = jl w ⟨1, c.who⟩ + jt c := by
       show capW w 1 - (manyW (jk w p c) ⟨1, c.who⟩ : Int) = capW w 1 - (manyW w.where_ ⟨1, c.who⟩ : Int) + jt c
       omega
      rw [Zc hcn hsn (by decide : (0:Int) ≤ 1) (by decide : (1:Int) < 3), Zc hcn hsn (by decide : (0:Int) ≤ 1) (by decide : (1:Int) < 3), r1, r2, qg]
      have hcl := h.coins_len
      have hal := h.at_len
      have tail : (obind (some (decide (jl w ⟨1, p⟩ < jt c ∨ jl w ⟨1, c.who⟩ < - jt c))) fun b => cnd b (some (w, 9)) (obind (lget w.coins p) (fun x_10 => obind (lget w.coins c.who) (fun x_11 => obind (Bh x_10 x_11 c.pay c.fee) (fun x_12 =>
        cnd (bnot (ieq x_12.2.2 0)) (some (w, x_12.2.2)) (cnd (ile 0 p) (cnd (ilt p (qh w.coins)) (obind (lget w.coins p) (fun x_13 => cnd (ile 0 c.who) (cnd (ilt c.who (qh (lset w.coins p x_12.1))) (obind (lget (lset w.coins p x_12.1) c.who) (fun x_14 => some ((⟨w.desc, w.at_, lset (lset w.coins p x_12.1) c.who x_12.2.1, jk w p c⟩ : World), (0 : Int)))) none) none)) none) none)))))) =
        some (if jl w ⟨1, p⟩ < jt c ∨ jl w ⟨1, c.who⟩ < - jt c then (w, 9) else if ¬ (z0 w p c).2.2 = 0 then (w, (z0 w p c).2.2) else (qaq w p c, 0)) := by
       rw [qg, kS]
       by_cases hr : jl w ⟨1, p⟩ < jt c ∨ jl w ⟨1, c.who⟩ < - jt c
       ·rw [if_pos hr, if_pos hr]
       ·rw [if_neg hr, if_neg hr, qm p0 (by omega), qg, qm hq.1 (by omega), qg, qfg (h.coins_ok _ (vp p0 (by omega))) (h.coins_ok _ (vp hq.1 (by omega))), qg]
        rw [show kZ (gi w.coins p) (gi w.coins c.who) c.pay c.fee = z0 w p c from rfl, qv]
        by_cases hz : (z0 w p c).2.2 = 0
        ·rw [if_pos hz, if_neg (fun h => h hz), qB p0, qk (by rw [ilen_eq]; omega), qg, qB hq.1, qk (by rw [ilen_eq, List.length_set]; omega), qm hq.1 (by rw [List.length_set]; omega), qg]
         rfl
        ·rw [if_neg hz, if_pos hz]
      by_cases hr1 : jl w ⟨1, p⟩ < jt c
      ·rw [qk (by omega), qg]
       dsimp only
       rw [decide_eq_true (Or.inl hr1)] at tail
       exact tail
      ·rw [qu (by omega)]
       simp only [qg]
       have e : ilt (jl w ⟨1, c.who⟩ + jt c) 0 = decide (jl w ⟨1, p⟩ < jt c ∨ jl w ⟨1, c.who⟩ < - jt c) := decide_eq_decide.2 ⟨fun h => .inr (by omega), fun h => by have := h.resolve_left hr1; omega⟩
       rw [e]
       exact tail
     ·rw [if_pos hown, l6 (fun h => hown (qa2.1 h)), qg, ve]
    ·rw [if_pos hnd, l4 hnd, qg, ve]
   ·rw [if_neg (Ne.symm hat), if_pos hat]
  ·rw [if_pos hin, l2 hin, qg, ve]
 ·rw [if_pos hq]
  by_cases h0 : c.who < 0
  ·rw [qk h0, qg]
   rfl
  ·rw [qu h0, qg]
   dsimp only
   rw [qB (by rw [ilen_eq]; omega)]
theorem with_eq (p : Int) : j5 p = some ⟨1, p⟩ := rfl
theorem qdx {w : World} (h : RightP w) {p : Int} (p0 : 0 ≤ p) (p1 : p < (w.at_.length : Int)) (c : Cmd) (hg : c.gives.length ≤ 40) (hw : c.wants.length ≤ 40) : Jd w p c = some (zy w p c) := by
 have hs := h.small
 have hla : (c.gives ++ c.wants).length ≤ 1000 := by rw [List.length_append]; omega
 unfold Jd zy
 simp only [zn, with_eq, qg]
 rw [jw _ _ (by omega) (by omega), qg, qg2, qg, qv]
 by_cases hq : 0 ≤ c.who ∧ c.who < (w.at_.length : Int)
 ·rw [if_pos hq, if_neg (fun h => h hq)]
  obtain ⟨l1, l2⟩ := gtr2 w c (c.gives ++ c.wants) hla [c.gives, c.wants]
  simp only [kTo, z3] at l1 l2
  by_cases hin : ∀ x ∈ c.gives ++ c.wants, vx w x
  ·rw [if_neg (fun h => h hin), l1 hin, qg, ji, qg]
   dsimp only
   rw [qz rfl]
   by_cases hne : c.who = p
   ·rw [if_pos hne, qM hne]
   rw [if_neg hne, qI hne]
   simp only [wTo]
   rw [qm hq.1 hq.2, qg, qm p0 p1, qg, qv]
   by_cases hat : gi w.at_ c.who = gi w.at_ p
   ·rw [if_pos hat, if_neg (fun h => h hat), qdw _ hla, qg, Uj]
    by_cases hnd : (c.gives ++ c.wants).Nodup
    ·rw [if_pos hnd, if_neg (fun h => h hnd)]
     have hin1 : ∀ x ∈ c.gives, vx w x := fun x hx => hin x (List.mem_append_left _ hx)
     have hin2 : ∀ x ∈ c.wants, vx w x := fun x hx => hin x (List.mem_append_right _ hx)
     obtain ⟨l3, l4⟩ := gtr2n1 w c c.gives (by omega) hin1 p
     obtain ⟨l5, l6⟩ := gtr2n2 w c c.wants (by omega) hin2 p c.who
     simp only [kTo, z3, wTo] at l3 l4 l5 l6
     by_cases hg1 : ∀ x ∈ c.gives, upW w.where_ x.toNat = ⟨1, p⟩
     ·rw [l3 hg1, qg, ji]
      dsimp only
      by_cases hw1 : ∀ x ∈ c.wants, upW w.where_ x.toNat = ⟨1, c.who⟩
      ·rw [if_neg (fun h => h ⟨hg1, hw1⟩), l5 hw1, qg, ji, qg]
       dsimp only
       rw [qz rfl]
       obtain ⟨m1, m2, m3⟩ := J8 hin hne hnd hg1 hw1
       rw [JQ, VV (Qh h) hs (by decide : (0:Int) ≤ 1) (by decide : (1:Int) < 3), qg, VV (Qh h) hs (by decide : (0:Int) ≤ 1) (by decide : (1:Int) < 3), qg]
       have e1 : wrap .i64 (isub (qh c.wants) (qh c.gives)) = jt c := by
        show wrap .i64 (qh c.wants - qh c.gives) = _
        rw [ilen_eq, ilen_eq, qO (by omega) (by omega)]
        rfl
       have hm : -40 ≤ jt c ∧ jt c ≤ 40 := by unfold jt; omega
       have e2 : wrap .i64 (isub 0 (jt c)) = - jt c := by
        show wrap .i64 (0 - jt c) = _
        rw [qO (by omega) (by omega)]
        omega
       rw [e1, e2]
       have hcl := h.coins_len
       have hal := h.at_len
       by_cases hr : jl w ⟨1, p⟩ < jt c ∨ jl w ⟨1, c.who⟩ < - jt c
       ·rw [if_pos hr]
        by_cases hr1 : jl w ⟨1, p⟩ < jt c
        ·rw [qk hr1, qg]
         rfl
        ·rw [qu hr1, qg]
         dsimp only
         rw [qk (hr.resolve_left hr1)]
       ·rw [if_neg hr]
        have hr1 := not_or.1 hr
        rw [qu hr1.1, qg]
        dsimp only
        rw [qu hr1.2, qm p0 (by omega), qg, qm hq.1 (by omega), qg, qh5 (h.coins_ok _ (vp p0 (by omega))) (h.coins_ok _ (vp hq.1 (by omega))), qg]
        rw [show kZ (gi w.coins p) (gi w.coins c.who) c.pay c.fee = z0 w p c from rfl, qv]
        by_cases hz : (z0 w p c).2.2 = 0
        ·rw [if_pos hz, if_neg (fun h => h hz), zt _ hs.at_, zt _ hs.coins, Jj _ hs.where_]
         simp only [qg]
         rw [qB p0, qk (by rw [ilen_eq]; omega), qm p0 (by omega), qg, qB hq.1, qk (by rw [ilen_eq, List.length_set]; omega), qm hq.1 (by rw [List.length_set]; omega), qg]
         have q1 := gtr22 w c c.gives (by omega) p c.who w.at_ (lset (lset w.coins p (z0 w p c).1) c.who (z0 w p c).2.1) w.where_ hin1
         have q2 := gtr27 w c.wants (by omega) p w.at_ (lset (lset w.coins p (z0 w p c).1) c.who (z0 w p c).2.1) (pkW w.where_ c.gives ⟨1, c.who⟩ c.gives.length) (fun x hx => by rw [Q6]; exact hin2 x hx)
         simp only [kTo, z3, dTo] at q1 q2
         rw [q1, qg]
         dsimp only
         rw [q2, qg]
         rfl
        ·rw [if_neg hz, if_pos hz]
      ·obtain ⟨i, hi, e⟩ := l6 hw1
       rw [if_pos (fun h => hw1 h.2), e, qg, ve, qg]
       dsimp only
       rw [qB (by omega)]
     ·obtain ⟨i, hi, e⟩ := l4 hg1
      rw [if_pos (fun h => hg1 h.1), e, qg, ve]
      dsimp only
      rw [qB (by omega), qg]
      rfl
    ·rw [if_neg hnd, if_pos hnd]
   ·rw [if_neg hat, if_pos hat]
  ·obtain ⟨i, hi, e⟩ := l2 hin
   rw [if_pos hin, e, qg, ve, qg]
   dsimp only
   rw [qB (by omega)]
 ·rw [if_neg hq, if_pos hq, qg]
  rfl
end Go.Sx
