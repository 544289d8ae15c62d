/-
  Orders: the searches of both (plain).
-/
import Derived.Test.YtcpabdpbldmmmaaGreatDoorLyTt
import Derived.Test.YtcpabdpbldmmmaaGreatDoorSxBaseD
set_option linter.unusedVariables false
set_option linter.unusedSimpArgs false
namespace Go.Sx
open Go Go.Proofs
def qF (on : List Nat) : List Int := on.map fun (k : Nat) => (k : Int)
theorem jj (on : List Nat) : (qF on).length = on.length := by simp [qF]
theorem zW {on : List Nat} {k : Nat} (h : k < on.length) : gi (qF on) (k : Int) = (on[k] : Int) := by
 rw [zN (by rw [jj]; exact h)]
 simp [qF]
theorem vo {on : List Nat} {k : Nat} (h : k < on.length) : (gi (qF on) (k : Int)).toNat = on[k] := by
 rw [zW h, Int.toNat_natCast]
theorem Zs {on : List Nat} {x : Nat} : (x : Int) ∈ qF on ↔ x ∈ on := by
 unfold qF
 rw [List.mem_map]
 exact ⟨fun ⟨y, h, e⟩ => by rw [show x = y by omega]; exact h, fun h => ⟨x, h, rfl⟩⟩
theorem Zt (on : List Nat) (x : Nat) : qF (on ++ [x]) = qF on ++ [(x : Int)] := by simp [qF]
open Classical in
noncomputable def zd (l : List Call) (v : World) (x : Nat) : World × Bool := (jm l v x, decide (okI l v x))
theorem gg {l : List Call} {on : List Nat} : je l (qF on) ↔ K4 l.length (qD l) (kE l) on := by
 unfold je K4 gA
 rw [jj]
 constructor
 ·rintro ⟨h1, h2⟩
  refine ⟨?_, ?_, ?_, ?_⟩
  ·unfold List.Nodup
   rw [List.pairwise_iff_getElem]
   intro i j hi hj hij e
   have := ((h1 j hj).2 i hij).1
   rw [zW hi, zW hj] at this
   exact this (by rw [e])
  ·intro x hx
   obtain ⟨j, hj, e⟩ := List.mem_iff_getElem.1 hx
   have := (h1 j hj).1
   rw [zW hj, e] at this
   omega
  ·rw [List.pairwise_iff_getElem]
   intro i j hi hj hij
   have := ((h1 j hj).2 i hij).2
   rw [vo hi, vo hj] at this
   exact this
  ·intro c hc ha
   obtain ⟨j, hj, e⟩ := h2 c hc ha
   rw [zW hj] at e
   have : on[j] = c := by omega
   rw [← this]
   exact List.getElem_mem _
 ·rintro ⟨g1, g2, g3, g4⟩
  constructor
  ·intro k hk
   rw [zW hk, Int.toNat_natCast]
   refine ⟨⟨by omega, by have := g2 _ (List.getElem_mem hk); omega⟩, fun j hj => ?_⟩
   rw [zW (by omega), Int.toNat_natCast]
   constructor
   ·intro e
    have := List.pairwise_iff_getElem.1 g1 j k (by omega) hk hj
    exact this (by omega)
   ·exact List.pairwise_iff_getElem.1 g3 j k (by omega) hk hj
  ·intro c hc ha
   obtain ⟨j, hj, e⟩ := List.mem_iff_getElem.1 (g4 c hc ha)
   exact ⟨j, hj, by rw [zW hj, e]⟩
theorem R1 {l : List Call} {on : List Nat} {x : Nat} : gy l (qF on) x l.length ↔ qbw l.length (qD l) on x := by
 unfold gy qbw
 rw [Zs]
 constructor
 ·rintro (h | ⟨k, h1, h2, h3, h4⟩)
  ·exact .inl h
  ·exact .inr ⟨k, h1, h2, h3, fun h => h4 (Zs.2 h)⟩
 ·rintro (h | ⟨k, h1, h2, h3, h4⟩)
  ·exact .inl h
  ·exact .inr ⟨k, h1, h2, h3, fun h => h4 (Zs.1 h)⟩
open Classical in
theorem GY (l : List Call) : ∀ (f : Nat) (v : World) (on : List Nat), J2 l f v (qF on) = (kK l.length (qD l) (kE l) (zd l) f v on).map qF
 | 0, v, on => by
   unfold J2 kK
   by_cases h : je l (qF on)
   ·rw [if_pos h, if_pos (gg.1 h)]
    rfl
   ·rw [if_neg h, if_neg (fun h' => h (gg.2 h'))]
    rfl
 | f + 1, v, on => by
   unfold J2 kK
   by_cases h : je l (qF on)
   ·rw [if_pos h, if_pos (gg.1 h)]
    rfl
   ·rw [if_neg h, if_neg (fun h' => h (gg.2 h')), ← jA]
    congr 1
    funext x
    by_cases hl : gy l (qF on) x l.length
    ·rw [if_pos hl, if_pos (R1.1 hl)]
     rfl
    ·rw [if_neg hl, if_neg (fun h' => hl (R1.2 h'))]
     by_cases ho : okI l v x
     ·rw [if_pos ho, if_pos (show (zd l v x).2 = true from decide_eq_true ho), ← Zt, GY l f]
      rfl
     ·rw [if_neg ho, if_neg (show ¬ (zd l v x).2 = true from fun h' => ho (of_decide_eq_true h'))]
      rfl
theorem qik {l : List Call} {on : List Nat} {k : Nat} (h : k < on.length) : cK l (qF on) k = qj l on[k] := by
 unfold cK
 rw [vo h]
def VX (w : World) (l : List Call) (o : List Int) (n : Nat) : Prop := ∀ k : Nat, k < n → (0 ≤ (cK l o k).to → rK w l o k = (cK l o k).reply)
open Classical in
theorem D8 (w : World) (l : List Call) (on : List Nat) : ∀ k, k ≤ on.length → gr (zd l) w (on.take k) = if VX w l (qF on) k then some (wK w l (qF on) k) else none
 | 0, _ => by
   rw [if_pos (show VX w l (qF on) 0 from fun k h => absurd h (by omega))]
   rfl
 | k + 1, h => by
   have hk : k < on.length := by omega
   rw [List.take_add_one, List.getElem?_eq_getElem hk, Option.toList_some, Zb, D8 w l on k (by omega)]
   have hw : wK w l (qF on) (k + 1) = jm l (wK w l (qF on) k) on[k] := by
    show (DoP (wK w l (qF on) k) (cK l (qF on) k).player (cK l (qF on) k).cmd).1 = _
    rw [qik hk]
    rfl
   have hok : okI l (wK w l (qF on) k) on[k] ↔ (0 ≤ (cK l (qF on) k).to → rK w l (qF on) k = (cK l (qF on) k).reply) := by
    unfold rK okI
    rw [qik hk]
   by_cases ht : VX w l (qF on) k
   ·rw [if_pos ht, Option.bind_some]
    show (if (zd l (wK w l (qF on) k) on[k]).2 = true then some (zd l (wK w l (qF on) k) on[k]).1 else none) = _
    by_cases ho : okI l (wK w l (qF on) k) on[k]
    ·rw [if_pos (show (zd l (wK w l (qF on) k) on[k]).2 = true from decide_eq_true ho), if_pos (show VX w l (qF on) (k + 1) from fun j hj => by
      by_cases e : j = k
      ·rw [e]; exact hok.1 ho
      ·exact ht j (by omega)), hw]
     rfl
    ·rw [if_neg (show ¬ (zd l (wK w l (qF on) k) on[k]).2 = true from fun h' => ho (of_decide_eq_true h')), if_neg (show ¬ VX w l (qF on) (k + 1) from fun h' => ho (hok.2 (h' k (by omega))))]
   ·rw [if_neg ht, if_neg (show ¬ VX w l (qF on) (k + 1) from fun h' => ht fun j hj => h' j (by omega))]
    rfl
theorem D7 (w : World) (l : List Call) (on : List Nat) : (gr (zd l) w on).isSome = true ↔ VX w l (qF on) on.length := by
 have := D8 w l on on.length (Nat.le_refl _)
 rw [List.take_of_length_le (Nat.le_refl _)] at this
 rw [this]
 split
 ·rename_i h
  exact ⟨fun _ => h, fun _ => rfl⟩
 ·rename_i h
  exact ⟨fun h' => absurd h' (by decide), fun h' => absurd h' h⟩
theorem RJ {w : World} {l : List Call} {on : List Nat} : vL w l (qF on) ↔ QR l.length (qD l) (kE l) (zd l) w on := by
 unfold vL QR
 rw [gg, D7, jj]
 rfl
def Jt (n : Nat) : List Int := qF (List.range n)
theorem GM (n : Nat) : (Jt n).length = n := by
 unfold Jt
 rw [jj, List.length_range]
theorem Ja {n k : Nat} (h : k < n) : gi (Jt n) (k : Int) = (k : Int) := by
 unfold Jt
 rw [zW (by rw [List.length_range]; exact h), List.getElem_range]
theorem qdm (n : Nat) : Jt (n + 1) = Jt n ++ [(n : Int)] := by
 unfold Jt
 rw [List.range_succ, Zt]
theorem Db {l : List Call} {o : List Int} {n k : Nat} (h : k < n) : qj (csK l o n) k = cK l o k := by
 have := qbq l o h
 rw [q8 (by omega) (by rw [vO]; omega), Int.toNat_natCast] at this
 exact Option.some.inj this
theorem qh7 {l : List Call} {o : List Int} {n k : Nat} (h : k < n) : cK (csK l o n) (Jt n) k = cK l o k := by
 show qj (csK l o n) (gi (Jt n) (k : Int)).toNat = _
 rw [Ja h, Int.toNat_natCast, Db h]
theorem qh6 {w : World} {l : List Call} {o : List Int} {n : Nat} : ∀ k, k ≤ n → wK w (csK l o n) (Jt n) k = wK w l o k
 | 0, _ => rfl
 | k + 1, h => by
   show (DoP (wK w (csK l o n) (Jt n) k) (cK (csK l o n) (Jt n) k).player (cK (csK l o n) (Jt n) k).cmd).1 = (DoP (wK w l o k) (cK l o k).player (cK l o k).cmd).1
   rw [qh6 k (by omega), qh7 (by omega)]
theorem cs_good {w : World} {l : List Call} {on : List Nat} : vL w (csK l (qF on) on.length) (Jt on.length) ↔ kT (qD l) (zd l) w on := by
 have hah : ∀ k j, k < on.length → j < on.length → (qD (csK l (qF on) on.length) k j ↔ qD l (gi (qF on) (k : Int)).toNat (gi (qF on) (j : Int)).toNat) := fun k j hk hj => by
  unfold qD
  rw [Db hk, Db hj]
  rfl
 unfold kT
 rw [D7]
 unfold vL je gA
 rw [GM, vO]
 constructor
 ·rintro ⟨⟨h1, h2⟩, h3⟩
  constructor
  ·rw [List.pairwise_iff_getElem]
   intro i j hi hj hij
   have := ((h1 j hj).2 i hij).2
   rw [Ja hi, Ja hj, Int.toNat_natCast, Int.toNat_natCast, hah j i hj hi, vo hi, vo hj] at this
   exact this
  ·intro k hk
   have := h3 k hk
   unfold rK at this
   rw [qh7 hk, qh6 k (by omega)] at this
   exact this
 ·rintro ⟨g1, g2⟩
  refine ⟨⟨fun k hk => ?_, fun c hc _ => ⟨c, hc, Ja hc⟩⟩, fun k hk => ?_⟩
  ·rw [Ja hk]
   refine ⟨⟨by omega, by omega⟩, fun j hj => ?_⟩
   rw [Ja (show j < on.length by omega), Int.toNat_natCast, Int.toNat_natCast, hah k j hk (by omega), vo hk, vo (show j < on.length by omega)]
   exact ⟨by omega, List.pairwise_iff_getElem.1 g1 j k (by omega) hk hj⟩
  ·unfold rK
   rw [qh7 hk, qh6 k (by omega)]
   exact g2 k hk
open Classical in
theorem Mg {w : World} (h : RightP w) {l : List Call} (hf : j8 w.at_.length l) {on : List Nat} (hr : ∀ x ∈ on, x < l.length) (ho : on.length ≤ 1000) : Gt w l (qF on) = some (decide (kT (qD l) (zd l) w on)) := by
 unfold Gt
 have hx : ∀ k, (hk : k < on.length) → 0 ≤ gi (qF on) (k : Int) ∧ gi (qF on) (k : Int) < (l.length : Int) := fun k hk => by
  rw [zW hk]
  have := hr _ (List.getElem_mem hk)
  omega
 have := qG (T := rbegins.lr4.T) (fun k => ((l, (qF on, ((k : Int), ()))), (wTo w, (csK l (qF on) k, (Jt k, ()))))) ((), (wTo w, (csK l (qF on) on.length, (Jt on.length, ())))) on.length (by omega) (by
  intro k hk rec
  have hxk := hx k hk
  unfold rbegins.lr4.T
  simp only [wTo]
  rw [qk (by rw [ilen_eq, jj]; omega), qm (by omega) (by rw [jj]; omega), qg, q8 hxk.1 hxk.2, qg, qk (by rw [ilen_eq, vO]; show ((k : Int) + 1) * 208 < _; omega), qk (by rw [ilen_eq, GM]; show ((k : Int) + 1) * 8 < _; omega), qH (by omega), RX, qdm]
  rfl) (by
  intro rec
  unfold rbegins.lr4.T
  simp only [wTo]
  rw [qu (by rw [ilen_eq, jj]; omega)])
 rw [show qr rbegins.lr4.T qn ((l, (qF on, ((0 : Int), ()))), (wTo w, (([] : List Call), (([] : List Int), ())))) = _ from this, qg]
 dsimp only
 have hfc : j8 w.at_.length (csK l (qF on) on.length) := fun c hc => by
  unfold csK at hc
  obtain ⟨k, hk, e⟩ := List.mem_map.1 hc
  rw [← e]
  exact hf _ (Uq (n := on.length) (fun j hj => hx j hj) (List.mem_range.1 hk))
 rw [show wOf (wTo w) = w from rfl, Ze h hfc (by rw [vO]; exact ho) _ (by rw [GM]; exact ho), qg]
 congr 1
 exact decide_eq_decide.2 cs_good
open Classical in
theorem ra8 (rc : World → List Call → List Int → Option Bool) (l : List Call) (on : List Nat) (ho : on.length ≤ 1000) (x : Nat) (w : World) :
  qr (rany.lr8.T rc) qn (((l, (qF on, ((x : Int), (false, ((0 : Int), ()))))), (wTo w, ()))) = some ((l, (qF on, ((x : Int), (decide (x ∈ on), ())))), (wTo w, ())) := by
 have hm : (∃ j : Nat, j < on.length ∧ gi (qF on) (j : Int) = (x : Int)) ↔ x ∈ on := by
  rw [← Zs, Kl, jj]
 have key := qG (T := rany.lr8.T rc) (fun k => ((l, (qF on, ((x : Int), (decide (∃ j : Nat, j < k ∧ gi (qF on) (j : Int) = (x : Int)), ((k : Int), ()))))), (wTo w, ()))) ((l, (qF on, ((x : Int), (decide (∃ j : Nat, j < on.length ∧ gi (qF on) (j : Int) = (x : Int)), ())))), (wTo w, ())) on.length (by omega) (by
  intro k hk rec
  unfold rany.lr8.T
  simp only [wTo]
  rw [qk (by rw [ilen_eq, jj]; omega), qH (by omega)]
  by_cases h : ∃ j : Nat, j < k ∧ gi (qF on) (j : Int) = (x : Int)
  ·rw [qy (decide_eq_true h), decide_eq_true (show ∃ j : Nat, j < k + 1 ∧ gi (qF on) (j : Int) = (x : Int) from ⟨h.choose, by have := h.choose_spec.1; omega, h.choose_spec.2⟩)]
  ·rw [qz (decide_eq_false h), qm (by omega) (by rw [jj]; omega), qg]
   have : ieq (gi (qF on) (k : Int)) (x : Int) = decide (∃ j : Nat, j < k + 1 ∧ gi (qF on) (j : Int) = (x : Int)) := by
    refine decide_eq_decide.2 ⟨fun e => ⟨k, by omega, e⟩, fun ⟨j, h1, h2⟩ => ?_⟩
    by_cases e : j = k
    ·rw [← e]; exact h2
    ·exact absurd ⟨j, by omega, h2⟩ h
   rw [this]) (by
  intro rec
  unfold rany.lr8.T
  simp only [wTo]
  rw [qu (by rw [ilen_eq, jj]; omega)])
 refine Eq.trans (congrArg (qr (rany.lr8.T rc) qn) ?_) (Eq.trans key ?_)
 ·rw [decide_eq_false (p := ∃ j : Nat, j < 0 ∧ gi (qF on) (j : Int) = (x : Int)) (fun ⟨j, h, _⟩ => by omega)]
  rfl
 ·rw [show decide (∃ j : Nat, j < on.length ∧ gi (qF on) (j : Int) = (x : Int)) = decide (x ∈ on) from decide_eq_decide.2 hm]
open Classical in
theorem qaz {w : World} (h : RightP w) {l : List Call} (hl : l.length ≤ 900) (hf : j8 w.at_.length l) : ∀ (f : Nat) (on : List Nat), on.Nodup → (∀ x ∈ on, x < l.length) → l.length ≤ f + on.length →
  km (f + 1) w l (qF on) = some (Ju l.length (qD l) (kE l) (zd l) w f on)
 | f, on, hnd, hr, hn => by
   have hlen : on.length ≤ l.length := gx l.length on hnd hr
   show qf6 (km f) w l (qF on) = _
   unfold qf6
   rw [Ze h hf (by omega) _ (by rw [jj]; omega), qg]
   have hgn : decide (vL w l (qF on)) = decide (QR l.length (qD l) (kE l) (zd l) w on) := decide_eq_decide.2 RJ
   rw [hgn]
   by_cases hg : QR l.length (qD l) (kE l) (zd l) w on
   ·rw [decide_eq_true hg, qy rfl]
    cases f <;> unfold Ju
    ·rw [decide_eq_true hg]
    ·rw [decide_eq_true hg, Bool.true_or]
   rw [decide_eq_false hg, qz rfl]
   have step : ∀ x, x < l.length → x ∉ on → ∀ rec, rany.lr4.T (km f) rec ((l, (qF on, ((x : Int), ()))), (wTo w, ())) =
     cnd (decide (kT (qD l) (zd l) w (on ++ [x]))) (obind (km f w l (qF (on ++ [x]))) fun b => cnd b (some (.inl ((true, ()), ()))) (rec ((l, (qF on, (((x + 1 : Nat) : Int), ()))), (wTo w, ())))) (rec ((l, (qF on, (((x + 1 : Nat) : Int), ()))), (wTo w, ()))) := fun x hx hno rec => by
    unfold rany.lr4.T
    dsimp only
    rw [qk (qp.2 hx), ra8 (km f) l on (by omega) x w, qg]
    dsimp only
    rw [decide_eq_false hno, qz rfl, BW (by rw [jj]; omega), qk (by rw [ilen_eq, jj]; show ((on.length : Int) + 1) * 8 < _; omega), show lapp (qF on) [(x : Int)] = qF (on ++ [x]) from (Zt on x).symm, show wOf (wTo w) = w from rfl,
     Mg h hf (fun y hy => by
      rcases List.mem_append.1 hy with e | e
      ·exact hr y e
      ·rw [List.mem_singleton.1 e]; exact hx) (by rw [List.length_append, List.length_singleton]; omega), qg, qH (by omega)]
   have skip : ∀ x, x < l.length → x ∈ on → ∀ rec, rany.lr4.T (km f) rec ((l, (qF on, ((x : Int), ()))), (wTo w, ())) = rec ((l, (qF on, (((x + 1 : Nat) : Int), ()))), (wTo w, ())) := fun x hx hin rec => by
    unfold rany.lr4.T
    dsimp only
    rw [qk (qp.2 hx), ra8 (km f) l on (by omega) x w, qg]
    dsimp only
    rw [decide_eq_true hin, qy rfl, qH (by omega)]
   have fin : ∀ rec, rany.lr4.T (km f) rec ((l, (qF on, ((l.length : Int), ()))), (wTo w, ())) = some (.inr ((), ())) := fun rec => by
    unfold rany.lr4.T
    dsimp only
    rw [qu (by rw [ilen_eq]; omega)]
   cases f with
   | zero =>
     have hall : ∀ x, x < l.length → x ∈ on := fun x hx => Classical.byContradiction fun hno => by
      have h1 : (x :: on).Nodup := List.nodup_cons.2 ⟨hno, hnd⟩
      have := gx l.length (x :: on) h1 (fun y hy => by
       rcases List.mem_cons.1 hy with e | e
       ·rw [e]; exact hx
       ·exact hr y e)
      rw [List.length_cons] at this
      omega
     have := qG (T := rany.lr4.T (km 0)) (fun x => ((l, (qF on, ((x : Int), ()))), (wTo w, ()))) (.inr ((), ())) l.length (by omega) (fun x hx rec => skip x hx (hall x hx) rec) fin
     rw [show qr (rany.lr4.T (km 0)) qn ((l, (qF on, ((0 : Int), ()))), (wTo w, ())) = _ from this, qg, ji]
     unfold Ju
     rw [decide_eq_false hg]
   | succ f =>
     have ih : ∀ x, x < l.length → x ∉ on → km (f + 1) w l (qF (on ++ [x])) = some (Ju l.length (qD l) (kE l) (zd l) w f (on ++ [x])) := fun x hx hno =>
      qaz h hl hf f (on ++ [x]) (by
       rw [List.nodup_append]
       exact ⟨hnd, by simp, fun a ha b hb => by rw [List.mem_singleton.1 hb]; exact fun e => hno (e ▸ ha)⟩) (fun y hy => by
       rcases List.mem_append.1 hy with e | e
       ·exact hr y e
       ·rw [List.mem_singleton.1 e]; exact hx) (by rw [List.length_append, List.length_singleton]; omega)
     obtain ⟨k1, k2⟩ := qK (T := rany.lr4.T (km (f + 1))) (fun x => ((l, (qF on, ((x : Int), ()))), (wTo w, ()))) (fun x => ¬ (x ∉ on ∧ kT (qD l) (zd l) w (on ++ [x]) ∧ Ju l.length (qD l) (kE l) (zd l) w f (on ++ [x]) = true)) (.inl ((true, ()), ())) (.inr ((), ())) l.length (by omega)
      (fun x hx hgood rec => by
       by_cases hin : x ∈ on
       ·exact skip x hx hin rec
       ·rw [step x hx hin rec]
        by_cases hb : kT (qD l) (zd l) w (on ++ [x])
        ·rw [decide_eq_true hb, qy rfl, ih x hx hin, qg]
         have : Ju l.length (qD l) (kE l) (zd l) w f (on ++ [x]) = false := Bool.eq_false_iff.2 fun e => hgood ⟨hin, hb, e⟩
         rw [this, qz rfl]
        ·rw [decide_eq_false hb, qz rfl])
      (fun x hx hbad rec => by
       obtain ⟨hin, hb, ha⟩ := Classical.not_not.1 hbad
       rw [step x hx hin rec, decide_eq_true hb, qy rfl, ih x hx hin, qg, ha, qy rfl]) fin
     unfold Ju
     rw [decide_eq_false hg, Bool.false_or]
     by_cases hall : ∀ x, x < l.length → ¬ (x ∉ on ∧ kT (qD l) (zd l) w (on ++ [x]) ∧ Ju l.length (qD l) (kE l) (zd l) w f (on ++ [x]) = true)
     ·rw [show qr (rany.lr4.T (km (f + 1))) qn ((l, (qF on, ((0 : Int), ()))), (wTo w, ())) = _ from k1 hall, qg, ji]
      congr 1
      refine (Bool.eq_false_iff.2 fun h' => ?_).symm
      obtain ⟨x, hx, hxx⟩ := List.any_eq_true.1 h'
      rw [Bool.and_eq_true, Bool.and_eq_true, decide_eq_true_eq, decide_eq_true_eq] at hxx
      exact hall x (List.mem_range.1 hx) hxx
     ·rw [show qr (rany.lr4.T (km (f + 1))) qn ((l, (qF on, ((0 : Int), ()))), (wTo w, ())) = _ from k2 hall, qg, ve]
      congr 1
      refine Eq.symm (List.any_eq_true.2 ?_)
      obtain ⟨x, hx⟩ := Classical.not_forall.1 hall
      obtain ⟨hx, hxx⟩ := Classical.not_imp.1 hx
      have hxx := Classical.not_not.1 hxx
      exact ⟨x, List.mem_range.2 hx, by rw [Bool.and_eq_true, Bool.and_eq_true, decide_eq_true_eq, decide_eq_true_eq]; exact hxx⟩
end Go.Sx
