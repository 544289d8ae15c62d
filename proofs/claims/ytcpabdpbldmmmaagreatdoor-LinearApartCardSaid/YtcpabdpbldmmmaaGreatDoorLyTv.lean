/-
  The laws' own words: awake, fits (plain).
-/
import Derived.Test.YtcpabdpbldmmmaaGreatDoorLyTu
import Derived.Test.YtcpabdpbldmmmaaGreatDoorLyU
import Derived.KernelRfl
set_option linter.unusedVariables false
set_option linter.unusedSimpArgs false
namespace Go.Sx
open Go Go.Proofs
theorem Y8 {w : World} (h : RightP w) {l : List Call} (hl : l.length ≤ 5) (hf : j8 w.at_.length l) :
  ∃ r : Option (List Nat), ze w l = some (match r with | some p => (qF p, true) | none => ([], false)) ∧ Yk w l [] = some r.isSome ∧ ∀ p, r = some p → QR l.length (qD l) (kE l) (zd l) w p := by
 refine ⟨kK l.length (qD l) (kE l) (zd l) 5 w [], ?_, ?_, ?_⟩
 ·rw [Rz h hl hf, show ([] : List Int) = qF [] from rfl, GY]
  cases kK l.length (qD l) (kE l) (zd l) 5 w [] <;> rfl
 ·have := qaz h (l := l) (by omega) hf 99 [] (by simp) (by simp) (by simp; omega)
  rw [show Yk w l [] = km (99 + 1) w l (qF []) from rfl, this]
  congr 1
  exact (qhq l.length (qD l) (kE l) (zd l) (fun m x h => h.1) w 5 99 hl (by omega)).symm
 ·intro p hp
  exact JG l.length (qD l) (kE l) (zd l) w 5 w [] p rfl hp
open Classical in
theorem ko {w : World} (h : RightP w) {l : List Call} (hf : j8 w.at_.length l) (hl : l.length ≤ 1000) (o : List Int) (ho : o.length ≤ 1000) : kI w l o = vU w l o := by
 rw [qgv h hf hl o ho, Ze h hf hl o ho]
def d0 : Desc := ⟨[⟨0, 0, 0, 0⟩], [0, 0], [5, 2], [0], [false], 4, 2, 1⟩
def w0 : World := ⟨d0, [0, 0], [5, 2], [⟨0, 0⟩]⟩
def cA : Call := ⟨0, ⟨3, 0, 0, 0, 0, ([] : List Int), 0, ([] : List Int), 0⟩, 0, 5, ⟨0, 3, 0, ([] : List Int), [], 0⟩⟩
def cB : Call := ⟨1, ⟨3, 0, 0, 0, 0, ([] : List Int), 0, ([] : List Int), 0⟩, 1, 4, ⟨0, 3, 0, ([] : List Int), [], 0⟩⟩
def cC : Call := ⟨0, ⟨3, 0, 0, 0, 0, ([] : List Int), 0, ([] : List Int), 0⟩, 0, 5, ⟨5, 0, 0, ([] : List Int), [], 0⟩⟩
def cD : Call := ⟨0, ⟨3, 0, 0, 0, 0, ([] : List Int), 0, ([] : List Int), 0⟩, 0, 1, ⟨5, 0, 0, ([] : List Int), [], 0⟩⟩
def cE : Call := ⟨1, ⟨3, 0, 0, 0, 0, ([] : List Int), 0, ([] : List Int), 0⟩, 2, 4, ⟨0, 3, 0, ([] : List Int), [], 0⟩⟩
theorem new0 : DD d0 = some w0 := by kernel_rfl
theorem gR : RightP w0 := by
 obtain ⟨b, h1, h2⟩ := DJ w0
 have : gQ w0 = some true := by kernel_rfl
 rw [this] at h1
 exact h2 (Option.some.inj h1).symm
theorem Y6 (a b : Call) (ha : a = cA ∨ a = cC ∨ a = cD) (hb : b = cB ∨ b = cE) : j8 w0.at_.length [a, b] := by
 intro c hc
 rcases List.mem_cons.1 hc with e | e
 ·rcases ha with h | h | h <;> rw [e, h] <;> exact ⟨⟨by decide, by decide⟩, by decide, by decide⟩
 ·rw [List.mem_singleton.1 e]
  rcases hb with h | h <;> rw [h] <;> exact ⟨⟨by decide, by decide⟩, by decide, by decide⟩
theorem fits00 : j8 w0.at_.length [] := fun c hc => by simp at hc
theorem any1 : Yk w0 [cA, cB] [] = some false := by kernel_rfl
theorem any2 : Yk w0 [cC, cB] [] = some true := by kernel_rfl
theorem any3 : Yk w0 [cD, cE] [] = some false := by kernel_rfl
theorem qhf : vU w0 [cC, cB] [0, 1] = some false := by kernel_rfl
theorem good10 : vU w0 [cC, cB] [1, 0] = some true := by kernel_rfl
theorem good3 : vU w0 [cD, cE] [1, 0] = some false := by kernel_rfl
theorem good0 : vU w0 [] [] = some true := by kernel_rfl
theorem good1 : vU w0 [cC, cB] [1] = some false := by kernel_rfl
theorem N2 {p : List Nat} (h1 : p.Nodup) (h2 : ∀ x ∈ p, x < 2) (h3 : 0 ∈ p) (h4 : 1 ∈ p) : p = [0, 1] ∨ p = [1, 0] := by
 have hl := gx 2 p h1 h2
 match p, h1, h2, h3, h4, hl with
 | [], _, _, h3, _, _ => simp at h3
 | [a], _, _, h3, h4, _ =>
   rw [List.mem_singleton] at h3 h4
   omega
 | [a, b], h1, h2, h3, h4, _ =>
   have ha := h2 a (by simp)
   have hb := h2 b (by simp)
   have : a ≠ b := by
    intro e
    subst e
    simp at h1
   have : (a = 0 ∧ b = 1) ∨ (a = 1 ∧ b = 0) := by omega
   rcases this with ⟨rfl, rfl⟩ | ⟨rfl, rfl⟩
   ·exact .inl rfl
   ·exact .inr rfl
 | a :: b :: c :: r, _, _, _, _, hl => simp at hl
theorem qbl {w : World} (h : RightP w) {l : List Call} (hl : l.length ≤ 5) (hf : j8 w.at_.length l) (ha : Yk w l [] = some false) : ze w l = some ([], false) := by
 obtain ⟨r, h1, h2, _⟩ := Y8 h hl hf
 rw [ha] at h2
 cases r with
 | none => exact h1
 | some p => exact absurd (Option.some.inj h2) (by simp)
open Classical in
theorem find2 : ze w0 [cC, cB] = some ([1, 0], true) := by
 obtain ⟨r, h1, h2, h3⟩ := Y8 gR (l := [cC, cB]) (by decide) (Y6 _ _ (.inr (.inl rfl)) (.inl rfl))
 rw [any2] at h2
 cases r with
 | none => exact absurd (Option.some.inj h2) (by simp)
 | some p =>
   have hg := h3 p rfl
   have hp := N2 hg.1.1 (fun x hx => hg.1.2.1 x hx) (hg.1.2.2.2 0 (by decide) (by show (0 : Int) ≤ 5; decide)) (hg.1.2.2.2 1 (by decide) (by show (0 : Int) ≤ 4; decide))
   rcases hp with rfl | rfl
   ·have := Ze gR (l := [cC, cB]) (Y6 _ _ (.inr (.inl rfl)) (.inl rfl)) (by decide) (qF [0, 1]) (by decide)
    rw [show qF [0, 1] = [0, 1] from rfl, qhf] at this
    have := Option.some.inj this
    exact absurd (RJ.2 hg) (of_decide_eq_false this.symm)
   ·exact h1
theorem ob {α β : Type} {o : Option α} {a : α} {f : α → Option β} {r : Option β} (h : o = some a) (h' : f a = r) : obind o f = r := by rw [h]; exact h'
theorem ct {α : Type} {b : Bool} {x y r : α} (h : b = true) (h' : x = r) : cnd b x y = r := by rw [qy h]; exact h'
theorem qdb : vH = some true := by
 unfold vH
 have e1 := qbl gR (l := [cA, cB]) (by decide) (Y6 _ _ (.inl rfl) (.inl rfl)) any1
 have e3 := qbl gR (l := [cD, cE]) (by decide) (Y6 _ _ (.inr (.inr rfl)) (.inr rfl)) any3
 have f2 := Y6 cC cB (.inr (.inl rfl)) (.inl rfl)
 have f3 := Y6 cD cE (.inr (.inr rfl)) (.inr rfl)
 have g1 := (ko gR f2 (by decide) [1, 0] (by decide)).trans good10
 have g2 := (ko gR f2 (by decide) [0, 1] (by decide)).trans qhf
 have g3 := (ko gR f3 (by decide) [1, 0] (by decide)).trans good3
 have g4 := (ko gR fits00 (by decide) [] (by decide)).trans good0
 have g5 := (ko gR f2 (by decide) [1] (by decide)).trans good1
 have r10 : zU ([1, 0] : List Int) ([1, 0] : List Int) = some true := by kernel_rfl
 exact ob new0 (ob e1 (ob find2 (ob e3 (ct rfl (ct rfl (ob r10 (ct rfl (ct rfl (ob g1 (ct rfl (ob g2 (ct rfl (ob g3 (ct rfl (ob g4 (ct rfl (ob g5 rfl)))))))))))))))))
theorem qfw (w : World) : ∃ b, ZY w = some b := by
 unfold ZY
 simp only [cnd_if]
 repeat' split
 all_goals exact ⟨_, rfl⟩
theorem qhr (c : Cmd) : Kb c = some (decide (c.gives.length ≤ 40 ∧ c.wants.length ≤ 40)) := by
 unfold Kb
 by_cases h : c.gives.length ≤ 40
 ·rw [qB (by rw [ilen_eq]; omega)]
  congr 1
  exact decide_eq_decide.2 ⟨fun h' => ⟨h, by rw [ilen_eq] at h'; omega⟩, fun h' => by rw [ilen_eq]; have := h'.2; omega⟩
 ·rw [jG (by rw [ilen_eq]; omega), decide_eq_false (fun h' => h h'.1)]
def fitC (w : World) (c : Call) : Prop := (0 ≤ c.player ∧ c.player < (w.at_.length : Int)) ∧ c.cmd.gives.length ≤ 40 ∧ c.cmd.wants.length ≤ 40
theorem nf4 (w : World) (l : List Call) (hl : l.length ≤ 1000) :
  ((∀ i : Nat, i < l.length → fitC w (qj l i)) → qr nfits.lr4.T qn (((l, ((0 : Int), ())), (wTo w, ()))) = some (.inr ((), ()))) ∧
  ((¬ ∀ i : Nat, i < l.length → fitC w (qj l i)) → qr nfits.lr4.T qn (((l, ((0 : Int), ())), (wTo w, ()))) = some (.inl ((false, ()), ()))) := by
 refine qK (T := nfits.lr4.T) (fun i => ((l, ((i : Int), ())), (wTo w, ()))) (fun i => fitC w (qj l i)) (.inl ((false, ()), ())) (.inr ((), ())) l.length (by omega) ?_ ?_ ?_
 ·intro i hi hg rec
  unfold nfits.lr4.T
  simp only [wTo]
  rw [qk (qp.2 hi), q8 (by omega) (by omega), qg, Int.toNat_natCast, qu (by have := hg.1.1; omega), qg, jG (by rw [ilen_eq]; have := hg.1.2; omega), qg, qhr, qg, decide_eq_true hg.2, qz (b := bnot true) rfl, qH (by omega)]
 ·intro i hi hg rec
  unfold nfits.lr4.T
  simp only [wTo]
  rw [qk (qp.2 hi), q8 (by omega) (by omega), qg, Int.toNat_natCast]
  by_cases h1 : (qj l i).player < 0
  ·rw [qk h1]
  rw [qu h1, qg]
  by_cases h2 : (w.at_.length : Int) ≤ (qj l i).player
  ·rw [qB (by rw [ilen_eq]; exact h2)]
  rw [jG (by rw [ilen_eq]; exact h2), qg, qhr, qg, decide_eq_false (fun h3 => hg ⟨⟨by omega, by omega⟩, h3⟩), qy (b := bnot false) rfl]
 ·intro rec
  unfold nfits.lr4.T
  simp only [wTo]
  rw [qu (by rw [qp]; omega)]
theorem qgm (w : World) (l : List Call) (m : Int) (hm : m ≤ 20) : ∃ b, Kj w l m = some b ∧ (b = true → RightP w ∧ j8 w.at_.length l ∧ (l.length : Int) ≤ m) := by
 unfold Kj
 obtain ⟨b1, e1⟩ := qfw w
 obtain ⟨b2, e2, hr⟩ := DJ w
 rw [e1, qg]
 cases b1 with
 | false => exact ⟨false, rfl, fun h => absurd h (by decide)⟩
 | true =>
   rw [qz (b := bnot true) rfl, e2, qg]
   cases b2 with
   | false => exact ⟨false, rfl, fun h => absurd h (by decide)⟩
   | true =>
     rw [qz (b := bnot true) rfl]
     by_cases hl : m < (l.length : Int)
     ·rw [qk (by rw [ilen_eq]; exact hl)]
      exact ⟨false, rfl, fun h => absurd h (by decide)⟩
     ·rw [qu (by rw [ilen_eq]; exact hl)]
      obtain ⟨n1, n2⟩ := nf4 w l (by omega)
      by_cases ha : ∀ i : Nat, i < l.length → fitC w (qj l i)
      ·rw [n1 ha]
       refine ⟨true, rfl, fun _ => ⟨hr rfl, fun c hc => ?_, by omega⟩⟩
       obtain ⟨i, hi, e⟩ := List.mem_iff_getElem.1 hc
       have := ha i hi
       have e' : qj l i = c := by
        unfold qj
        rw [List.getD_eq_getElem?_getD, List.getElem?_eq_getElem hi, ← e]
        rfl
       rw [e'] at this
       exact this
      ·rw [n2 ha]
       exact ⟨false, rfl, fun h => absurd h (by decide)⟩
end Go.Sx
