/-
  The laws' own words: awake, fits (plain).
-/
import Derived.Test.YtcpabdpbldmmmaaGreatDoorLyTu
import Derived.Test.YtcpabdpbldmmmaaGreatDoorLyU
import Derived.KernelRfl
set_option linter.unusedVariables false
set_option linter.unusedSimpArgs false
namespace Go.Sx
open Go Go.Proofs
theorem B7 {w : World} (h : RightP w) {l : List Call} (hl : l.length ≤ 5) (hf : jY w.at_.length l) :
  ∃ r : Option (List Nat), vq w l = some (match r with | some p => (qH p, true) | none => ([], false)) ∧ Bf w l [] = some r.isSome ∧ ∀ p, r = some p → Jd l.length (qF l) (kZ l) (zL l) w p := by
 refine ⟨gB l.length (qF l) (kZ l) (zL l) 5 w [], ?_, ?_, ?_⟩
 ·rw [qkh h hl hf, show ([] : List Int) = qH [] from rfl, Me]
  cases gB l.length (qF l) (kZ l) (zL l) 5 w [] <;> rfl
 ·have := qdt h (l := l) (by omega) hf 99 [] (by simp) (by simp) (by simp; omega)
  rw [show Bf w l [] = kz (99 + 1) w l (qH []) from rfl, this]
  congr 1
  exact (qlb l.length (qF l) (kZ l) (zL l) (fun m x h => h.1) w 5 99 hl (by omega)).symm
 ·intro p hp
  exact Zc l.length (qF l) (kZ l) (zL l) w 5 w [] p rfl hp
open Classical in
theorem kC {w : World} (h : RightP w) {l : List Call} (hf : jY w.at_.length l) (hl : l.length ≤ 1000) (o : List Int) (ho : o.length ≤ 1000) : qA w l o = zB w l o := by
 rw [ZE h hf hl o ho, QB h hf hl o ho]
def d0 : Desc := ⟨[⟨0, 0, 0, 0⟩], [0, 0], [5, 2], [0], [false], 4, 2, 1⟩
def w0 : World := ⟨d0, [0, 0], [5, 2], [⟨0, 0⟩]⟩
def cA : Call := ⟨0, ⟨3, 0, 0, 0, 0, ([] : List Int), 0, ([] : List Int), 0⟩, 0, 5, ⟨0, 3, 0, ([] : List Int), [], 0⟩⟩
def cB : Call := ⟨1, ⟨3, 0, 0, 0, 0, ([] : List Int), 0, ([] : List Int), 0⟩, 1, 4, ⟨0, 3, 0, ([] : List Int), [], 0⟩⟩
def cC : Call := ⟨0, ⟨3, 0, 0, 0, 0, ([] : List Int), 0, ([] : List Int), 0⟩, 0, 5, ⟨5, 0, 0, ([] : List Int), [], 0⟩⟩
def cD : Call := ⟨0, ⟨3, 0, 0, 0, 0, ([] : List Int), 0, ([] : List Int), 0⟩, 0, 1, ⟨5, 0, 0, ([] : List Int), [], 0⟩⟩
def cE : Call := ⟨1, ⟨3, 0, 0, 0, 0, ([] : List Int), 0, ([] : List Int), 0⟩, 2, 4, ⟨0, 3, 0, ([] : List Int), [], 0⟩⟩
theorem new0 : RM d0 = some w0 := by kernel_rfl
theorem gW : RightP w0 := by
 obtain ⟨b, h1, h2⟩ := RS w0
 have : gU w0 = some true := by kernel_rfl
 rw [this] at h1
 exact h2 (Option.some.inj h1).symm
theorem B4 (a b : Call) (ha : a = cA ∨ a = cC ∨ a = cD) (hb : b = cB ∨ b = cE) : jY w0.at_.length [a, b] := by
 intro c hc
 rcases List.mem_cons.1 hc with e | e
 ·rcases ha with h | h | h <;> rw [e, h] <;> exact ⟨⟨by decide, by decide⟩, by decide, by decide⟩
 ·rw [List.mem_singleton.1 e]
  rcases hb with h | h <;> rw [h] <;> exact ⟨⟨by decide, by decide⟩, by decide, by decide⟩
theorem fits00 : jY w0.at_.length [] := fun c hc => by simp at hc
theorem any1 : Bf w0 [cA, cB] [] = some false := by kernel_rfl
theorem any2 : Bf w0 [cC, cB] [] = some true := by kernel_rfl
theorem any3 : Bf w0 [cD, cE] [] = some false := by kernel_rfl
theorem qk1 : zB w0 [cC, cB] [0, 1] = some false := by kernel_rfl
theorem good10 : zB w0 [cC, cB] [1, 0] = some true := by kernel_rfl
theorem good3 : zB w0 [cD, cE] [1, 0] = some false := by kernel_rfl
theorem good0 : zB w0 [] [] = some true := by kernel_rfl
theorem good1 : zB w0 [cC, cB] [1] = some false := by kernel_rfl
theorem MG {p : List Nat} (h1 : p.Nodup) (h2 : ∀ x ∈ p, x < 2) (h3 : 0 ∈ p) (h4 : 1 ∈ p) : p = [0, 1] ∨ p = [1, 0] := by
 have hl := gv 2 p h1 h2
 match p, h1, h2, h3, h4, hl with
 | [], _, _, h3, _, _ => simp at h3
 | [a], _, _, h3, h4, _ =>
   rw [List.mem_singleton] at h3 h4
   omega
 | [a, b], h1, h2, h3, h4, _ =>
   have ha := h2 a (by simp)
   have hb := h2 b (by simp)
   have : a ≠ b := by
    intro e
    subst e
    simp at h1
   have : (a = 0 ∧ b = 1) ∨ (a = 1 ∧ b = 0) := by omega
   rcases this with ⟨rfl, rfl⟩ | ⟨rfl, rfl⟩
   ·exact .inl rfl
   ·exact .inr rfl
 | a :: b :: c :: r, _, _, _, _, hl => simp at hl
theorem qeg {w : World} (h : RightP w) {l : List Call} (hl : l.length ≤ 5) (hf : jY w.at_.length l) (ha : Bf w l [] = some false) : vq w l = some ([], false) := by
 obtain ⟨r, h1, h2, _⟩ := B7 h hl hf
 rw [ha] at h2
 cases r with
 | none => exact h1
 | some p => exact absurd (Option.some.inj h2) (by simp)
open Classical in
theorem find2 : vq w0 [cC, cB] = some ([1, 0], true) := by
 obtain ⟨r, h1, h2, h3⟩ := B7 gW (l := [cC, cB]) (by decide) (B4 _ _ (.inr (.inl rfl)) (.inl rfl))
 rw [any2] at h2
 cases r with
 | none => exact absurd (Option.some.inj h2) (by simp)
 | some p =>
   have hg := h3 p rfl
   have hp := MG hg.1.1 (fun x hx => hg.1.2.1 x hx) (hg.1.2.2.2 0 (by decide) (by show (0 : Int) ≤ 5; decide)) (hg.1.2.2.2 1 (by decide) (by show (0 : Int) ≤ 4; decide))
   rcases hp with rfl | rfl
   ·have := QB gW (l := [cC, cB]) (B4 _ _ (.inr (.inl rfl)) (.inl rfl)) (by decide) (qH [0, 1]) (by decide)
    rw [show qH [0, 1] = [0, 1] from rfl, qk1] at this
    have := Option.some.inj this
    exact absurd (NX.2 hg) (of_decide_eq_false this.symm)
   ·exact h1
theorem ob {α β : Type} {o : Option α} {a : α} {f : α → Option β} {r : Option β} (h : o = some a) (h' : f a = r) : obind o f = r := by rw [h]; exact h'
theorem ct {α : Type} {b : Bool} {x y r : α} (h : b = true) (h' : x = r) : cnd b x y = r := by rw [q7 h]; exact h'
theorem qg1 : zC = some true := by
 unfold zC
 have e1 := qeg gW (l := [cA, cB]) (by decide) (B4 _ _ (.inl rfl) (.inl rfl)) any1
 have e3 := qeg gW (l := [cD, cE]) (by decide) (B4 _ _ (.inr (.inr rfl)) (.inr rfl)) any3
 have f2 := B4 cC cB (.inr (.inl rfl)) (.inl rfl)
 have f3 := B4 cD cE (.inr (.inr rfl)) (.inr rfl)
 have g1 := (kC gW f2 (by decide) [1, 0] (by decide)).trans good10
 have g2 := (kC gW f2 (by decide) [0, 1] (by decide)).trans qk1
 have g3 := (kC gW f3 (by decide) [1, 0] (by decide)).trans good3
 have g4 := (kC gW fits00 (by decide) [] (by decide)).trans good0
 have g5 := (kC gW f2 (by decide) [1] (by decide)).trans good1
 have r10 : kU ([1, 0] : List Int) ([1, 0] : List Int) = some true := by kernel_rfl
 exact ob new0 (ob e1 (ob find2 (ob e3 (ct rfl (ct rfl (ob r10 (ct rfl (ct rfl (ob g1 (ct rfl (ob g2 (ct rfl (ob g3 (ct rfl (ob g4 (ct rfl (ob g5 rfl)))))))))))))))))
theorem qjl (w : World) : ∃ b, K9 w = some b := by
 unfold K9
 simp only [cnd_if]
 repeat' split
 all_goals exact ⟨_, rfl⟩
theorem qlc (c : Cmd) : KC c = some (decide (c.gives.length ≤ 40 ∧ c.wants.length ≤ 40)) := by
 unfold KC
 by_cases h : c.gives.length ≤ 40
 ·rw [qC (by rw [ilen_eq]; omega)]
  congr 1
  exact decide_eq_decide.2 ⟨fun h' => ⟨h, by rw [ilen_eq] at h'; omega⟩, fun h' => by rw [ilen_eq]; have := h'.2; omega⟩
 ·rw [jE (by rw [ilen_eq]; omega), decide_eq_false (fun h' => h h'.1)]
def fitC (w : World) (c : Call) : Prop := (0 ≤ c.player ∧ c.player < (w.at_.length : Int)) ∧ c.cmd.gives.length ≤ 40 ∧ c.cmd.wants.length ≤ 40
theorem nf4 (w : World) (l : List Call) (hl : l.length ≤ 1000) :
  ((∀ i : Nat, i < l.length → fitC w (qk l i)) → qt nfits.lr4.T ql (((l, ((0 : Int), ())), (wTo w, ()))) = some (.inr ((), ()))) ∧
  ((¬ ∀ i : Nat, i < l.length → fitC w (qk l i)) → qt nfits.lr4.T ql (((l, ((0 : Int), ())), (wTo w, ()))) = some (.inl ((false, ()), ()))) := by
 refine qO (T := nfits.lr4.T) (fun i => ((l, ((i : Int), ())), (wTo w, ()))) (fun i => fitC w (qk l i)) (.inl ((false, ()), ())) (.inr ((), ())) l.length (by omega) ?_ ?_ ?_
 ·intro i hi hg rec
  unfold nfits.lr4.T
  simp only [wTo]
  rw [qn (qp.2 hi), q9 (by omega) (by omega), qg, Int.toNat_natCast, qw (by have := hg.1.1; omega), qg, jE (by rw [ilen_eq]; have := hg.1.2; omega), qg, qlc, qg, decide_eq_true hg.2, q8 (b := bnot true) rfl, qK (by omega)]
 ·intro i hi hg rec
  unfold nfits.lr4.T
  simp only [wTo]
  rw [qn (qp.2 hi), q9 (by omega) (by omega), qg, Int.toNat_natCast]
  by_cases h1 : (qk l i).player < 0
  ·rw [qn h1]
  rw [qw h1, qg]
  by_cases h2 : (w.at_.length : Int) ≤ (qk l i).player
  ·rw [qC (by rw [ilen_eq]; exact h2)]
  rw [jE (by rw [ilen_eq]; exact h2), qg, qlc, qg, decide_eq_false (fun h3 => hg ⟨⟨by omega, by omega⟩, h3⟩), q7 (b := bnot false) rfl]
 ·intro rec
  unfold nfits.lr4.T
  simp only [wTo]
  rw [qw (by rw [qp]; omega)]
theorem qj9 (w : World) (l : List Call) (m : Int) (hm : m ≤ 20) : ∃ b, KI w l m = some b ∧ (b = true → RightP w ∧ jY w.at_.length l ∧ (l.length : Int) ≤ m) := by
 unfold KI
 obtain ⟨b1, e1⟩ := qjl w
 obtain ⟨b2, e2, hr⟩ := RS w
 rw [e1, qg]
 cases b1 with
 | false => exact ⟨false, rfl, fun h => absurd h (by decide)⟩
 | true =>
   rw [q8 (b := bnot true) rfl, e2, qg]
   cases b2 with
   | false => exact ⟨false, rfl, fun h => absurd h (by decide)⟩
   | true =>
     rw [q8 (b := bnot true) rfl]
     by_cases hl : m < (l.length : Int)
     ·rw [qn (by rw [ilen_eq]; exact hl)]
      exact ⟨false, rfl, fun h => absurd h (by decide)⟩
     ·rw [qw (by rw [ilen_eq]; exact hl)]
      obtain ⟨n1, n2⟩ := nf4 w l (by omega)
      by_cases ha : ∀ i : Nat, i < l.length → fitC w (qk l i)
      ·rw [n1 ha]
       refine ⟨true, rfl, fun _ => ⟨hr rfl, fun c hc => ?_, by omega⟩⟩
       obtain ⟨i, hi, e⟩ := List.mem_iff_getElem.1 hc
       have := ha i hi
       have e' : qk l i = c := by
        unfold qk
        rw [List.getD_eq_getElem?_getD, List.getElem?_eq_getElem hi, ← e]
        rfl
       rw [e'] at this
       exact this
      ·rw [n2 ha]
       exact ⟨false, rfl, fun h => absurd h (by decide)⟩
end Go.Sx
