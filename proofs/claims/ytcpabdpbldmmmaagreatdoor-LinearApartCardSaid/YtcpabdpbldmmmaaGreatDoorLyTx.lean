/-
  Layer 24: the law LinearApart (plain).
-/
import Derived.Test.YtcpabdpbldmmmaaGreatDoorLyTw
import Derived.Test.YtcpabdpbldmmmaaGreatDoorLyV
set_option linter.unusedVariables false
set_option linter.unusedSimpArgs false
namespace Go.Sx
open Go Go.Proofs
theorem Zj (w : World) (i : Int) (t : Place) : (z7 w i t).2 ≠ 1 := by
 unfold z7
 split <;> simp
theorem qgo (w : World) (i : Int) (f t : Place) : (mvP w i f t).2 ≠ 1 := by
 unfold mvP
 repeat' split
 all_goals first | exact Zj _ _ _ | simp
theorem Ri (w : World) (p d : Int) : (zE w p d).2.2 ≠ 1 := by
 unfold zE
 split <;> simp
theorem qgf (w : World) (p q d : Int) : (vh w p q d).2.2 ≠ 1 := by
 unfold vh
 repeat' split
 all_goals first | exact Ri _ _ _ | simp
theorem qhg (w : World) (p i q : Int) : (vM w p i q).2 ≠ 1 := by
 unfold vM
 repeat' split
 all_goals first | exact Zj _ _ _ | simp
theorem qe5 (w : World) (p i b : Int) : (vB w p i b).2 ≠ 1 := by
 unfold vB
 repeat' split
 all_goals first | exact Zj _ _ _ | simp
theorem put_err (w : World) (p i b : Int) : (Zf w p i b).2 ≠ 1 := by
 unfold Zf
 repeat' split
 all_goals first | exact Zj _ _ _ | simp
theorem qe6 {a b p f : Int} (hp : 0 ≤ p) (hf : 0 ≤ f) : (kZ a b p f).2.2 ≠ 1 := by
 unfold kZ
 rw [if_neg (by omega), if_neg (by omega)]
 repeat' split
 all_goals simp
theorem qcd (w : World) (p : Int) (c : Cmd) (hp : 0 ≤ c.pay) (hf : 0 ≤ c.fee) : (zy w p c).2 ≠ 1 := by
 unfold zy
 repeat' split
 all_goals first | exact qe6 hp hf | simp
theorem vP {w v : World} {k r e : Int} (h : e ≠ 1) : (gf w k r v e).2.err ≠ 1 := by
 unfold gf
 split
 ·simp [repK]
 ·exact h
theorem do_err (w : World) (p : Int) (c : Cmd) : (DoP w p c).2.err ≠ 1 := by
 unfold DoP
 by_cases hm : ¬ G7 c = true
 ·rw [if_pos hm]
  simp [repE]
 rw [if_neg hm]
 have hc := B7 (Classical.not_not.1 hm)
 by_cases h1 : c.kind = 1
 ·rw [if_pos h1]
  exact vP (Ri _ _ _)
 rw [if_neg h1]
 by_cases h2 : c.kind = 2
 ·rw [if_pos h2]
  exact vP (qgf _ _ _ _)
 rw [if_neg h2]
 by_cases h3 : c.kind = 3
 ·rw [if_pos h3]
  exact vP (qgo _ _ _ _)
 rw [if_neg h3]
 by_cases h4 : c.kind = 4
 ·rw [if_pos h4]
  exact vP (qgo _ _ _ _)
 rw [if_neg h4]
 by_cases h5 : c.kind = 5
 ·rw [if_pos h5]
  exact vP (put_err _ _ _ _)
 rw [if_neg h5]
 by_cases h6 : c.kind = 6
 ·rw [if_pos h6]
  exact vP (qe5 _ _ _ _)
 rw [if_neg h6]
 by_cases h7 : c.kind = 7
 ·rw [if_pos h7]
  exact vP (qhg _ _ _ _)
 rw [if_neg h7]
 by_cases h8 : c.kind = 8
 ·rw [if_pos h8]
  obtain ⟨_, _, _, _, _, _, g1, g2, _, _⟩ := hc
  exact vP (qcd _ _ _ (g1.1 h8).1 (g2.1 h8).1)
 rw [if_neg h8]
 by_cases h9 : c.kind = 9
 ·rw [if_pos h9]
  simp [qba]
 rw [if_neg h9]
 simp [ownP]
noncomputable def vJ (w : World) (l : List Call) : Nat → World
 | 0 => w
 | k + 1 => (DoP (vJ w l k) (qj l k).player (qj l k).cmd).1
noncomputable def zF (w : World) (l : List Call) (k : Nat) : Reply := (DoP (vJ w l k) (qj l k).player (qj l k).cmd).2
def vK (l : List Call) (rep : Nat → Reply) (k : Nat) : Call := ⟨(qj l k).player, (qj l k).cmd, 2 * (k : Int), 2 * (k : Int) + 1, rep k⟩
def ju (l : List Call) (rep : Nat → Reply) (n : Nat) : List Call := (List.range n).map (vK l rep)
theorem jJ (l : List Call) (rep : Nat → Reply) (n : Nat) : (ju l rep n).length = n := by simp [ju]
theorem vl {l : List Call} {rep : Nat → Reply} {n k : Nat} (h : k < n) : qj (ju l rep n) k = vK l rep k := by
 unfold qj ju
 rw [List.getD_eq_getElem?_getD, List.getElem?_map, List.getElem?_range h]
 rfl
theorem Mv (l : List Call) (rep : Nat → Reply) (n : Nat) : ju l rep (n + 1) = ju l rep n ++ [vK l rep n] := by
 unfold ju
 rw [List.range_succ, List.map_append]
 rfl
theorem KL {w : World} (h : RightP w) {l : List Call} (hf : j8 w.at_.length l) : ∀ k, k ≤ l.length → RightP (vJ w l k) ∧ (vJ w l k).at_.length = w.at_.length
 | 0, _ => ⟨h, rfl⟩
 | k + 1, hk => by
   obtain ⟨h1, h2⟩ := KL h hf k (by omega)
   have hp := (hf _ (z9 (show k < l.length by omega))).1
   exact ⟨vg h1 hp.1 (by rw [h2]; exact hp.2) _, by show (DoP _ _ _).1.at_.length = _; rw [Qe, h2]⟩
theorem Mw {N : Nat} {l : List Call} (hf : j8 N l) (rep : Nat → Reply) {n : Nat} (hn : n ≤ l.length) : j8 N (ju l rep n) := by
 intro c hc
 unfold ju at hc
 obtain ⟨k, hk, rfl⟩ := List.mem_map.1 hc
 have hm := List.mem_range.1 hk
 exact hf (qj l k) (z9 (by omega))
open Classical in
theorem D9 (w : World) (l : List Call) (rep : Nat → Reply) (n : Nat) : ∀ d k, k + d = n →
  gr (zd (ju l rep n)) (vJ w l k) (List.range' k d) = if ∀ i, k ≤ i → i < n → rep i = zF w l i then some (vJ w l n) else none
 | 0, k, hk => by
   have hk : k = n := by omega
   subst hk
   rw [if_pos (fun i h1 h2 => absurd h2 (by omega))]
   rfl
 | d + 1, k, hk => by
   rw [List.range'_succ, gr]
   have hc := vl (l := l) (rep := rep) (show k < n by omega)
   have h1 : (zd (ju l rep n) (vJ w l k) k).1 = vJ w l (k + 1) := by
    show jm _ _ _ = _
    unfold jm
    rw [hc]
    rfl
   have hok : okI (ju l rep n) (vJ w l k) k ↔ rep k = zF w l k := by
    unfold okI
    rw [hc]
    exact ⟨fun h => (h (show (0 : Int) ≤ 2 * (k : Int) + 1 by omega)).symm, fun e _ => e.symm⟩
   have h2 : (zd (ju l rep n) (vJ w l k) k).2 = true ↔ rep k = zF w l k := by
    rw [← hok]
    exact ⟨fun h => of_decide_eq_true h, fun h => decide_eq_true h⟩
   by_cases e : rep k = zF w l k
   ·rw [if_pos (h2.2 e), h1, D9 w l rep n d (k + 1) (by omega)]
    by_cases ha : ∀ i, k + 1 ≤ i → i < n → rep i = zF w l i
    ·rw [if_pos ha, if_pos]
     intro i hi hi'
     by_cases ei : i = k
     ·rw [ei]; exact e
     ·exact ha i (by omega) hi'
    ·rw [if_neg ha, if_neg (fun h => ha fun i hi hi' => h i (by omega) hi')]
   ·rw [if_neg (fun h => e (h2.1 h)), if_neg (fun h => e (h k (Nat.le_refl _) (by omega)))]
open Classical in
theorem MM (w : World) (l : List Call) (rep : Nat → Reply) {n : Nat} (hn : n ≤ 5) :
  J2 (ju l rep n) 5 w [] = if ∀ i, i < n → rep i = zF w l i then some (qF (List.range n)) else none := by
 have hl := jJ l rep n
 have h2 := Y7 (ju l rep n).length (qD (ju l rep n)) (kE (ju l rep n)) (zd (ju l rep n)) (fun m x hm hx => by
  rw [hl] at hm hx
  unfold qD
  rw [vl hm, vl hx]
  unfold vK
  dsimp only
  omega) (fun c hc => by
  rw [hl] at hc
  unfold kE
  rw [vl hc]
  unfold vK
  dsimp only
  omega) n 5 0 w (by omega) hn
 have h3 : gr (zd (ju l rep n)) w (List.range' 0 n) = if ∀ i, 0 ≤ i → i < n → rep i = zF w l i then some (vJ w l n) else none := D9 w l rep n n 0 (by omega)
 rw [h3, hl] at h2
 rw [show ([] : List Int) = qF [] from rfl, GY, hl, show ([] : List Nat) = List.range 0 from rfl, h2]
 by_cases ha : ∀ i, i < n → rep i = zF w l i
 ·rw [if_pos ha, if_pos (fun i _ => ha i)]
  rfl
 ·rw [if_neg ha, if_neg (fun h => ha fun i => h i (Nat.zero_le _))]
  rfl
theorem GC {w : World} (h : RightP w) {l : List Call} (hf : j8 w.at_.length l) (hl : l.length ≤ 5) (rep : Nat → Reply) :
  (∀ (_ : ∀ i, i < l.length → rep i = zF w l i), ze w (ju l rep l.length) = some (qF (List.range l.length), true)) ∧ (∀ (_ : ¬ ∀ i, i < l.length → rep i = zF w l i), ze w (ju l rep l.length) = some ([], false)) := by
 have e := Rz h (l := ju l rep l.length) (by rw [jJ]; exact hl) (Mw hf rep (Nat.le_refl _))
 rw [MM w l rep hl] at e
 exact ⟨fun ha => by rw [if_pos ha] at e; exact e, fun ha => by rw [if_neg ha] at e; exact e⟩
theorem w2 {i : Nat} (h : i < 1000) : wrap .i64 (imul 2 (i : Int)) = 2 * (i : Int) := by
 show wrap .i64 (2 * (i : Int)) = _
 exact qO (by omega) (by omega)
theorem w21 {i : Nat} (h : i < 1000) : wrap .i64 (iadd (2 * (i : Int)) 1) = 2 * (i : Int) + 1 := by
 show wrap .i64 (2 * (i : Int) + 1) = _
 exact qO (by omega) (by omega)
theorem la7 {w : World} (h : RightP w) {l : List Call} (hf : j8 w.at_.length l) (hl : l.length ≤ 5) (k : Int) :
  qr linearApart.lr7.T qn (((l, (k, ((0 : Int), ()))), (wTo w, (wTo w, (([] : List Int), (([] : List Call), ())))))) = some ((k, ()), (wTo w, (qF (List.range l.length), (ju l (zF w l) l.length, ())))) := by
 refine qG (T := linearApart.lr7.T) (fun i => ((l, (k, ((i : Int), ()))), (wTo w, (wTo (vJ w l i), (qF (List.range i), (ju l (zF w l) i, ())))))) ((k, ()), (wTo w, (qF (List.range l.length), (ju l (zF w l) l.length, ())))) l.length (by omega) ?_ ?_
 ·intro i hi rec
  obtain ⟨r1, r2⟩ := KL h hf i (by omega)
  have hc := hf _ (z9 hi)
  have hdo := JO r1 hc.1.1 (by rw [r2]; exact hc.1.2) (qj l i).cmd hc.2.1 hc.2.2
  unfold linearApart.lr7.T
  dsimp only
  rw [qk (qp.2 hi), q8 (by omega) (by omega), qg, Int.toNat_natCast, show wOf (wTo (vJ w l i)) = vJ w l i from rfl, hdo, qg,
   qk (by rw [ilen_eq, jJ]; show ((i : Int) + 1) * 208 < _; omega), qk (by rw [ilen_eq, jj, List.length_range]; show ((i : Int) + 1) * 8 < _; omega), qH (by omega), w2 (by omega), w21 (by omega), Mv, List.range_succ, Zt]
  rfl
 ·intro rec
  unfold linearApart.lr7.T
  dsimp only
  rw [qu (by rw [qp]; omega)]
theorem qgu (l : List Call) (rep : Nat → Reply) (n j : Nat) (hj : j < n) (r : Reply) : lset (ju l rep n) (j : Int) ⟨(vK l rep j).player, (vK l rep j).cmd, (vK l rep j).frm, (vK l rep j).to, r⟩ = ju l (fun i => if i = j then r else rep i) n := by
 show (ju l rep n).set (j : Int).toNat _ = _
 rw [Int.toNat_natCast]
 apply List.ext_getElem?
 intro i
 rw [List.getElem?_set, jJ]
 unfold ju
 rw [List.getElem?_map, List.getElem?_map]
 by_cases e : j = i
 ·subst e
  rw [if_pos rfl, if_pos hj, List.getElem?_range hj]
  show some _ = some (vK l _ j)
  unfold vK
  dsimp only
  rw [if_pos rfl]
 ·rw [if_neg e]
  by_cases hi : i < n
  ·rw [List.getElem?_range hi]
   show some (vK l _ i) = some (vK l _ i)
   unfold vK
   dsimp only
   rw [if_neg (show ¬ i = j from fun h => e h.symm)]
  ·rw [List.getElem?_eq_none (by simp; omega)]
   rfl
theorem qeu (w : World) (l : List Call) (k : Int) (k0 : 0 ≤ k) (k1 : k ≤ 255) : jY w l k = some true := by
 unfold jY
 rw [qdb, qg, qz (b := bnot true) rfl]
 obtain ⟨b, e, hb⟩ := qgm w l 5 (by omega)
 rw [e, qg]
 cases b with
 | false => exact ct rfl rfl
 | true =>
   obtain ⟨h, hf, hl⟩ := hb rfl
   have hl : l.length ≤ 5 := by omega
   rw [qz (b := bnot true) rfl, la7 h hf hl k, qg]
   dsimp only
   obtain ⟨a1, _⟩ := GC h hf hl (zF w l)
   rw [show wOf (wTo w) = w from rfl, a1 (fun _ _ => rfl), qg, qz (b := bnot true) rfl, Ym _ _ (by rw [jj, List.length_range]; omega), qg, decide_eq_true rfl, qz (b := bnot true) rfl]
   by_cases hn : l.length = 0
   ·rw [qM (by rw [ilen_eq, jJ]; omega)]
   rw [qI (by rw [ilen_eq, jJ]; omega), qI (by rw [ilen_eq, jJ]; omega)]
   obtain ⟨j, hj, hjn⟩ : ∃ j : Nat, irem (wrap .i64 k) (qh (ju l (zF w l) l.length)) = (j : Int) ∧ j < l.length := by
    rw [ilen_eq, jJ, qO (by omega) (by omega)]
    have h1 : 0 ≤ k.tmod (l.length : Int) := Int.tmod_nonneg _ k0
    have h2 : k.tmod (l.length : Int) < (l.length : Int) := Int.tmod_lt_of_pos _ (by omega)
    exact ⟨(k.tmod (l.length : Int)).toNat, by rw [Int.toNat_of_nonneg h1], by omega⟩
   rw [hj, qB (by omega), qk (by rw [ilen_eq, jJ]; omega), q8 (by omega) (by rw [jJ]; omega), qg, Int.toNat_natCast, vl hjn]
   rw [show lset (ju l (zF w l) l.length) (j : Int) _ = _ from qgu l (zF w l) l.length j hjn ⟨1, 0, 0, ([] : List Int), [], 0⟩]
   obtain ⟨_, a2⟩ := GC h hf hl (fun i => if i = j then ⟨1, 0, 0, ([] : List Int), [], 0⟩ else zF w l i)
   rw [a2 (fun hall => by
    have := hall j hjn
    rw [if_pos rfl] at this
    exact do_err _ _ _ (congrArg Reply.err this).symm), qg]
   rfl
theorem linearApart_ok : ∀ xs : Lf [.st .world, .sl (.st .call), .int .u8], (∀ m, wfA m _ xs) → jY xs.1 xs.2.1 xs.2.2.1 = some true := fun xs hx => by
 obtain ⟨h0, h1⟩ := wf_u8 (VM (VM (VM hx).2).2).1
 exact qeu _ _ _ h0 h1
end Go.Sx
