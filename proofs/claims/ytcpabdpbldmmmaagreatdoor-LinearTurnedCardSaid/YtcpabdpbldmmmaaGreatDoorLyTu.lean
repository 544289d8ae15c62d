/-
  Orders: the searches of both (plain).
-/
import Derived.Test.YtcpabdpbldmmmaaGreatDoorLyTt
import Derived.Test.YtcpabdpbldmmmaaGreatDoorSxBaseD
set_option linter.unusedVariables false
set_option linter.unusedSimpArgs false
namespace Go.Sx
open Go Go.Proofs
def qH (on : List Nat) : List Int := on.map fun (k : Nat) => (k : Int)
theorem j7 (on : List Nat) : (qH on).length = on.length := by simp [qH]
theorem kf {on : List Nat} {k : Nat} (h : k < on.length) : gi (qH on) (k : Int) = (on[k] : Int) := by
 rw [zV (by rw [j7]; exact h)]
 simp [qH]
theorem vu {on : List Nat} {k : Nat} (h : k < on.length) : (gi (qH on) (k : Int)).toNat = on[k] := by
 rw [kf h, Int.toNat_natCast]
theorem ZJ {on : List Nat} {x : Nat} : (x : Int) ∈ qH on ↔ x ∈ on := by
 unfold qH
 rw [List.mem_map]
 exact ⟨fun ⟨y, h, e⟩ => by rw [show x = y by omega]; exact h, fun h => ⟨x, h, rfl⟩⟩
theorem U9 (on : List Nat) (x : Nat) : qH (on ++ [x]) = qH on ++ [(x : Int)] := by simp [qH]
open Classical in
noncomputable def zL (l : List Call) (v : World) (x : Nat) : World × Bool := (jz l v x, decide (okI l v x))
theorem vZ {l : List Call} {on : List Nat} : jf l (qH on) ↔ Yl l.length (qF l) (kZ l) on := by
 unfold jf Yl vQ
 rw [j7]
 constructor
 ·rintro ⟨h1, h2⟩
  refine ⟨?_, ?_, ?_, ?_⟩
  ·unfold List.Nodup
   rw [List.pairwise_iff_getElem]
   intro i j hi hj hij e
   have := ((h1 j hj).2 i hij).1
   rw [kf hi, kf hj] at this
   exact this (by rw [e])
  ·intro x hx
   obtain ⟨j, hj, e⟩ := List.mem_iff_getElem.1 hx
   have := (h1 j hj).1
   rw [kf hj, e] at this
   omega
  ·rw [List.pairwise_iff_getElem]
   intro i j hi hj hij
   have := ((h1 j hj).2 i hij).2
   rw [vu hi, vu hj] at this
   exact this
  ·intro c hc ha
   obtain ⟨j, hj, e⟩ := h2 c hc ha
   rw [kf hj] at e
   have : on[j] = c := by omega
   rw [← this]
   exact List.getElem_mem _
 ·rintro ⟨g1, g2, g3, g4⟩
  constructor
  ·intro k hk
   rw [kf hk, Int.toNat_natCast]
   refine ⟨⟨by omega, by have := g2 _ (List.getElem_mem hk); omega⟩, fun j hj => ?_⟩
   rw [kf (by omega), Int.toNat_natCast]
   constructor
   ·intro e
    have := List.pairwise_iff_getElem.1 g1 j k (by omega) hk hj
    exact this (by omega)
   ·exact List.pairwise_iff_getElem.1 g3 j k (by omega) hk hj
  ·intro c hc ha
   obtain ⟨j, hj, e⟩ := List.mem_iff_getElem.1 (g4 c hc ha)
   exact ⟨j, hj, by rw [kf hj, e]⟩
theorem NF {l : List Call} {on : List Nat} {x : Nat} : gw l (qH on) x l.length ↔ qes l.length (qF l) on x := by
 unfold gw qes
 rw [ZJ]
 constructor
 ·rintro (h | ⟨k, h1, h2, h3, h4⟩)
  ·exact .inl h
  ·exact .inr ⟨k, h1, h2, h3, fun h => h4 (ZJ.2 h)⟩
 ·rintro (h | ⟨k, h1, h2, h3, h4⟩)
  ·exact .inl h
  ·exact .inr ⟨k, h1, h2, h3, fun h => h4 (ZJ.1 h)⟩
open Classical in
theorem Me (l : List Call) : ∀ (f : Nat) (v : World) (on : List Nat), ZS l f v (qH on) = (gB l.length (qF l) (kZ l) (zL l) f v on).map qH
 | 0, v, on => by
   unfold ZS gB
   by_cases h : jf l (qH on)
   ·rw [if_pos h, if_pos (vZ.1 h)]
    rfl
   ·rw [if_neg h, if_neg (fun h' => h (vZ.2 h'))]
    rfl
 | f + 1, v, on => by
   unfold ZS gB
   by_cases h : jf l (qH on)
   ·rw [if_pos h, if_pos (vZ.1 h)]
    rfl
   ·rw [if_neg h, if_neg (fun h' => h (vZ.2 h')), ← jF]
    congr 1
    funext x
    by_cases hl : gw l (qH on) x l.length
    ·rw [if_pos hl, if_pos (NF.1 hl)]
     rfl
    ·rw [if_neg hl, if_neg (fun h' => hl (NF.2 h'))]
     by_cases ho : okI l v x
     ·rw [if_pos ho, if_pos (show (zL l v x).2 = true from decide_eq_true ho), ← U9, Me l f]
      rfl
     ·rw [if_neg ho, if_neg (show ¬ (zL l v x).2 = true from fun h' => ho (of_decide_eq_true h'))]
      rfl
theorem ql6 {l : List Call} {on : List Nat} {k : Nat} (h : k < on.length) : cK l (qH on) k = qk l on[k] := by
 unfold cK
 rw [vu h]
def GK (w : World) (l : List Call) (o : List Int) (n : Nat) : Prop := ∀ k : Nat, k < n → (0 ≤ (cK l o k).to → rK w l o k = (cK l o k).reply)
open Classical in
theorem RE (w : World) (l : List Call) (on : List Nat) : ∀ k, k ≤ on.length → JU (zL l) w (on.take k) = if GK w l (qH on) k then some (wK w l (qH on) k) else none
 | 0, _ => by
   rw [if_pos (show GK w l (qH on) 0 from fun k h => absurd h (by omega))]
   rfl
 | k + 1, h => by
   have hk : k < on.length := by omega
   rw [List.take_add_one, List.getElem?_eq_getElem hk, Option.toList_some, Zz, RE w l on k (by omega)]
   have hw : wK w l (qH on) (k + 1) = jz l (wK w l (qH on) k) on[k] := by
    show (DoP (wK w l (qH on) k) (cK l (qH on) k).player (cK l (qH on) k).cmd).1 = _
    rw [ql6 hk]
    rfl
   have hok : okI l (wK w l (qH on) k) on[k] ↔ (0 ≤ (cK l (qH on) k).to → rK w l (qH on) k = (cK l (qH on) k).reply) := by
    unfold rK okI
    rw [ql6 hk]
   by_cases ht : GK w l (qH on) k
   ·rw [if_pos ht, Option.bind_some]
    show (if (zL l (wK w l (qH on) k) on[k]).2 = true then some (zL l (wK w l (qH on) k) on[k]).1 else none) = _
    by_cases ho : okI l (wK w l (qH on) k) on[k]
    ·rw [if_pos (show (zL l (wK w l (qH on) k) on[k]).2 = true from decide_eq_true ho), if_pos (show GK w l (qH on) (k + 1) from fun j hj => by
      by_cases e : j = k
      ·rw [e]; exact hok.1 ho
      ·exact ht j (by omega)), hw]
     rfl
    ·rw [if_neg (show ¬ (zL l (wK w l (qH on) k) on[k]).2 = true from fun h' => ho (of_decide_eq_true h')), if_neg (show ¬ GK w l (qH on) (k + 1) from fun h' => ho (hok.2 (h' k (by omega))))]
   ·rw [if_neg ht, if_neg (show ¬ GK w l (qH on) (k + 1) from fun h' => ht fun j hj => h' j (by omega))]
    rfl
theorem RD (w : World) (l : List Call) (on : List Nat) : (JU (zL l) w on).isSome = true ↔ GK w l (qH on) on.length := by
 have := RE w l on on.length (Nat.le_refl _)
 rw [List.take_of_length_le (Nat.le_refl _)] at this
 rw [this]
 split
 ·rename_i h
  exact ⟨fun _ => h, fun _ => rfl⟩
 ·rename_i h
  exact ⟨fun h' => absurd h' (by decide), fun h' => absurd h' h⟩
theorem NX {w : World} {l : List Call} {on : List Nat} : zn w l (qH on) ↔ Jd l.length (qF l) (kZ l) (zL l) w on := by
 unfold zn Jd
 rw [vZ, RD, j7]
 rfl
def JF (n : Nat) : List Int := qH (List.range n)
theorem UB (n : Nat) : (JF n).length = n := by
 unfold JF
 rw [j7, List.length_range]
theorem Jq {n k : Nat} (h : k < n) : gi (JF n) (k : Int) = (k : Int) := by
 unfold JF
 rw [kf (by rw [List.length_range]; exact h), List.getElem_range]
theorem qhc (n : Nat) : JF (n + 1) = JF n ++ [(n : Int)] := by
 unfold JF
 rw [List.range_succ, U9]
theorem Re {l : List Call} {o : List Int} {n k : Nat} (h : k < n) : qk (csK l o n) k = cK l o k := by
 have := qel l o h
 rw [q9 (by omega) (by rw [vR]; omega), Int.toNat_natCast] at this
 exact Option.some.inj this
theorem qlt {l : List Call} {o : List Int} {n k : Nat} (h : k < n) : cK (csK l o n) (JF n) k = cK l o k := by
 show qk (csK l o n) (gi (JF n) (k : Int)).toNat = _
 rw [Jq h, Int.toNat_natCast, Re h]
theorem qls {w : World} {l : List Call} {o : List Int} {n : Nat} : ∀ k, k ≤ n → wK w (csK l o n) (JF n) k = wK w l o k
 | 0, _ => rfl
 | k + 1, h => by
   show (DoP (wK w (csK l o n) (JF n) k) (cK (csK l o n) (JF n) k).player (cK (csK l o n) (JF n) k).cmd).1 = (DoP (wK w l o k) (cK l o k).player (cK l o k).cmd).1
   rw [qls k (by omega), qlt (by omega)]
theorem cs_good {w : World} {l : List Call} {on : List Nat} : zn w (csK l (qH on) on.length) (JF on.length) ↔ va (qF l) (zL l) w on := by
 have hah : ∀ k j, k < on.length → j < on.length → (qF (csK l (qH on) on.length) k j ↔ qF l (gi (qH on) (k : Int)).toNat (gi (qH on) (j : Int)).toNat) := fun k j hk hj => by
  unfold qF
  rw [Re hk, Re hj]
  rfl
 unfold va
 rw [RD]
 unfold zn jf vQ
 rw [UB, vR]
 constructor
 ·rintro ⟨⟨h1, h2⟩, h3⟩
  constructor
  ·rw [List.pairwise_iff_getElem]
   intro i j hi hj hij
   have := ((h1 j hj).2 i hij).2
   rw [Jq hi, Jq hj, Int.toNat_natCast, Int.toNat_natCast, hah j i hj hi, vu hi, vu hj] at this
   exact this
  ·intro k hk
   have := h3 k hk
   unfold rK at this
   rw [qlt hk, qls k (by omega)] at this
   exact this
 ·rintro ⟨g1, g2⟩
  refine ⟨⟨fun k hk => ?_, fun c hc _ => ⟨c, hc, Jq hc⟩⟩, fun k hk => ?_⟩
  ·rw [Jq hk]
   refine ⟨⟨by omega, by omega⟩, fun j hj => ?_⟩
   rw [Jq (show j < on.length by omega), Int.toNat_natCast, Int.toNat_natCast, hah k j hk (by omega), vu hk, vu (show j < on.length by omega)]
   exact ⟨by omega, List.pairwise_iff_getElem.1 g1 j k (by omega) hk hj⟩
  ·unfold rK
   rw [qlt hk, qls k (by omega)]
   exact g2 k hk
open Classical in
theorem qbe {w : World} (h : RightP w) {l : List Call} (hf : jY w.at_.length l) {on : List Nat} (hr : ∀ x ∈ on, x < l.length) (ho : on.length ≤ 1000) : Ug w l (qH on) = some (decide (va (qF l) (zL l) w on)) := by
 unfold Ug
 have hx : ∀ k, (hk : k < on.length) → 0 ≤ gi (qH on) (k : Int) ∧ gi (qH on) (k : Int) < (l.length : Int) := fun k hk => by
  rw [kf hk]
  have := hr _ (List.getElem_mem hk)
  omega
 have := qJ (T := rbegins.lr4.T) (fun k => ((l, (qH on, ((k : Int), ()))), (wTo w, (csK l (qH on) k, (JF k, ()))))) ((), (wTo w, (csK l (qH on) on.length, (JF on.length, ())))) on.length (by omega) (by
  intro k hk rec
  have hxk := hx k hk
  unfold rbegins.lr4.T
  simp only [wTo]
  rw [qn (by rw [ilen_eq, j7]; omega), qm (by omega) (by rw [j7]; omega), qg, q9 hxk.1 hxk.2, qg, qn (by rw [ilen_eq, vR]; show ((k : Int) + 1) * 208 < _; omega), qn (by rw [ilen_eq, UB]; show ((k : Int) + 1) * 8 < _; omega), qK (by omega), Mm, qhc]
  rfl) (by
  intro rec
  unfold rbegins.lr4.T
  simp only [wTo]
  rw [qw (by rw [ilen_eq, j7]; omega)])
 rw [show qt rbegins.lr4.T ql ((l, (qH on, ((0 : Int), ()))), (wTo w, (([] : List Call), (([] : List Int), ())))) = _ from this, qg]
 dsimp only
 have hfc : jY w.at_.length (csK l (qH on) on.length) := fun c hc => by
  unfold csK at hc
  obtain ⟨k, hk, e⟩ := List.mem_map.1 hc
  rw [← e]
  exact hf _ (Yf (n := on.length) (fun j hj => hx j hj) (List.mem_range.1 hk))
 rw [show wOf (wTo w) = w from rfl, QB h hfc (by rw [vR]; exact ho) _ (by rw [UB]; exact ho), qg]
 congr 1
 exact decide_eq_decide.2 cs_good
open Classical in
theorem ra8 (rc : World → List Call → List Int → Option Bool) (l : List Call) (on : List Nat) (ho : on.length ≤ 1000) (x : Nat) (w : World) :
  qt (rany.lr8.T rc) ql (((l, (qH on, ((x : Int), (false, ((0 : Int), ()))))), (wTo w, ()))) = some ((l, (qH on, ((x : Int), (decide (x ∈ on), ())))), (wTo w, ())) := by
 have hm : (∃ j : Nat, j < on.length ∧ gi (qH on) (j : Int) = (x : Int)) ↔ x ∈ on := by
  rw [← ZJ, KK, j7]
 have key := qJ (T := rany.lr8.T rc) (fun k => ((l, (qH on, ((x : Int), (decide (∃ j : Nat, j < k ∧ gi (qH on) (j : Int) = (x : Int)), ((k : Int), ()))))), (wTo w, ()))) ((l, (qH on, ((x : Int), (decide (∃ j : Nat, j < on.length ∧ gi (qH on) (j : Int) = (x : Int)), ())))), (wTo w, ())) on.length (by omega) (by
  intro k hk rec
  unfold rany.lr8.T
  simp only [wTo]
  rw [qn (by rw [ilen_eq, j7]; omega), qK (by omega)]
  by_cases h : ∃ j : Nat, j < k ∧ gi (qH on) (j : Int) = (x : Int)
  ·rw [q7 (decide_eq_true h), decide_eq_true (show ∃ j : Nat, j < k + 1 ∧ gi (qH on) (j : Int) = (x : Int) from ⟨h.choose, by have := h.choose_spec.1; omega, h.choose_spec.2⟩)]
  ·rw [q8 (decide_eq_false h), qm (by omega) (by rw [j7]; omega), qg]
   have : ieq (gi (qH on) (k : Int)) (x : Int) = decide (∃ j : Nat, j < k + 1 ∧ gi (qH on) (j : Int) = (x : Int)) := by
    refine decide_eq_decide.2 ⟨fun e => ⟨k, by omega, e⟩, fun ⟨j, h1, h2⟩ => ?_⟩
    by_cases e : j = k
    ·rw [← e]; exact h2
    ·exact absurd ⟨j, by omega, h2⟩ h
   rw [this]) (by
  intro rec
  unfold rany.lr8.T
  simp only [wTo]
  rw [qw (by rw [ilen_eq, j7]; omega)])
 refine Eq.trans (congrArg (qt (rany.lr8.T rc) ql) ?_) (Eq.trans key ?_)
 ·rw [decide_eq_false (p := ∃ j : Nat, j < 0 ∧ gi (qH on) (j : Int) = (x : Int)) (fun ⟨j, h, _⟩ => by omega)]
  rfl
 ·rw [show decide (∃ j : Nat, j < on.length ∧ gi (qH on) (j : Int) = (x : Int)) = decide (x ∈ on) from decide_eq_decide.2 hm]
open Classical in
theorem qdt {w : World} (h : RightP w) {l : List Call} (hl : l.length ≤ 900) (hf : jY w.at_.length l) : ∀ (f : Nat) (on : List Nat), on.Nodup → (∀ x ∈ on, x < l.length) → l.length ≤ f + on.length →
  kz (f + 1) w l (qH on) = some (JG l.length (qF l) (kZ l) (zL l) w f on)
 | f, on, hnd, hr, hn => by
   have hlen : on.length ≤ l.length := gv l.length on hnd hr
   show qju (kz f) w l (qH on) = _
   unfold qju
   rw [QB h hf (by omega) _ (by rw [j7]; omega), qg]
   have hgn : decide (zn w l (qH on)) = decide (Jd l.length (qF l) (kZ l) (zL l) w on) := decide_eq_decide.2 NX
   rw [hgn]
   by_cases hg : Jd l.length (qF l) (kZ l) (zL l) w on
   ·rw [decide_eq_true hg, q7 rfl]
    cases f <;> unfold JG
    ·rw [decide_eq_true hg]
    ·rw [decide_eq_true hg, Bool.true_or]
   rw [decide_eq_false hg, q8 rfl]
   have step : ∀ x, x < l.length → x ∉ on → ∀ rec, rany.lr4.T (kz f) rec ((l, (qH on, ((x : Int), ()))), (wTo w, ())) =
     cnd (decide (va (qF l) (zL l) w (on ++ [x]))) (obind (kz f w l (qH (on ++ [x]))) fun b => cnd b (some (.inl ((true, ()), ()))) (rec ((l, (qH on, (((x + 1 : Nat) : Int), ()))), (wTo w, ())))) (rec ((l, (qH on, (((x + 1 : Nat) : Int), ()))), (wTo w, ()))) := fun x hx hno rec => by
    unfold rany.lr4.T
    dsimp only
    rw [qn (qp.2 hx), ra8 (kz f) l on (by omega) x w, qg]
    dsimp only
    rw [decide_eq_false hno, q8 rfl, UK (by rw [j7]; omega), qn (by rw [ilen_eq, j7]; show ((on.length : Int) + 1) * 8 < _; omega), show lapp (qH on) [(x : Int)] = qH (on ++ [x]) from (U9 on x).symm, show wOf (wTo w) = w from rfl,
     qbe h hf (fun y hy => by
      rcases List.mem_append.1 hy with e | e
      ·exact hr y e
      ·rw [List.mem_singleton.1 e]; exact hx) (by rw [List.length_append, List.length_singleton]; omega), qg, qK (by omega)]
   have skip : ∀ x, x < l.length → x ∈ on → ∀ rec, rany.lr4.T (kz f) rec ((l, (qH on, ((x : Int), ()))), (wTo w, ())) = rec ((l, (qH on, (((x + 1 : Nat) : Int), ()))), (wTo w, ())) := fun x hx hin rec => by
    unfold rany.lr4.T
    dsimp only
    rw [qn (qp.2 hx), ra8 (kz f) l on (by omega) x w, qg]
    dsimp only
    rw [decide_eq_true hin, q7 rfl, qK (by omega)]
   have fin : ∀ rec, rany.lr4.T (kz f) rec ((l, (qH on, ((l.length : Int), ()))), (wTo w, ())) = some (.inr ((), ())) := fun rec => by
    unfold rany.lr4.T
    dsimp only
    rw [qw (by rw [ilen_eq]; omega)]
   cases f with
   | zero =>
     have hall : ∀ x, x < l.length → x ∈ on := fun x hx => Classical.byContradiction fun hno => by
      have h1 : (x :: on).Nodup := List.nodup_cons.2 ⟨hno, hnd⟩
      have := gv l.length (x :: on) h1 (fun y hy => by
       rcases List.mem_cons.1 hy with e | e
       ·rw [e]; exact hx
       ·exact hr y e)
      rw [List.length_cons] at this
      omega
     have := qJ (T := rany.lr4.T (kz 0)) (fun x => ((l, (qH on, ((x : Int), ()))), (wTo w, ()))) (.inr ((), ())) l.length (by omega) (fun x hx rec => skip x hx (hall x hx) rec) fin
     rw [show qt (rany.lr4.T (kz 0)) ql ((l, (qH on, ((0 : Int), ()))), (wTo w, ())) = _ from this, qg, jl]
     unfold JG
     rw [decide_eq_false hg]
   | succ f =>
     have ih : ∀ x, x < l.length → x ∉ on → kz (f + 1) w l (qH (on ++ [x])) = some (JG l.length (qF l) (kZ l) (zL l) w f (on ++ [x])) := fun x hx hno =>
      qdt h hl hf f (on ++ [x]) (by
       rw [List.nodup_append]
       exact ⟨hnd, by simp, fun a ha b hb => by rw [List.mem_singleton.1 hb]; exact fun e => hno (e ▸ ha)⟩) (fun y hy => by
       rcases List.mem_append.1 hy with e | e
       ·exact hr y e
       ·rw [List.mem_singleton.1 e]; exact hx) (by rw [List.length_append, List.length_singleton]; omega)
     obtain ⟨k1, k2⟩ := qO (T := rany.lr4.T (kz (f + 1))) (fun x => ((l, (qH on, ((x : Int), ()))), (wTo w, ()))) (fun x => ¬ (x ∉ on ∧ va (qF l) (zL l) w (on ++ [x]) ∧ JG l.length (qF l) (kZ l) (zL l) w f (on ++ [x]) = true)) (.inl ((true, ()), ())) (.inr ((), ())) l.length (by omega)
      (fun x hx hgood rec => by
       by_cases hin : x ∈ on
       ·exact skip x hx hin rec
       ·rw [step x hx hin rec]
        by_cases hb : va (qF l) (zL l) w (on ++ [x])
        ·rw [decide_eq_true hb, q7 rfl, ih x hx hin, qg]
         have : JG l.length (qF l) (kZ l) (zL l) w f (on ++ [x]) = false := Bool.eq_false_iff.2 fun e => hgood ⟨hin, hb, e⟩
         rw [this, q8 rfl]
        ·rw [decide_eq_false hb, q8 rfl])
      (fun x hx hbad rec => by
       obtain ⟨hin, hb, ha⟩ := Classical.not_not.1 hbad
       rw [step x hx hin rec, decide_eq_true hb, q7 rfl, ih x hx hin, qg, ha, q7 rfl]) fin
     unfold JG
     rw [decide_eq_false hg, Bool.false_or]
     by_cases hall : ∀ x, x < l.length → ¬ (x ∉ on ∧ va (qF l) (zL l) w (on ++ [x]) ∧ JG l.length (qF l) (kZ l) (zL l) w f (on ++ [x]) = true)
     ·rw [show qt (rany.lr4.T (kz (f + 1))) ql ((l, (qH on, ((0 : Int), ()))), (wTo w, ())) = _ from k1 hall, qg, jl]
      congr 1
      refine (Bool.eq_false_iff.2 fun h' => ?_).symm
      obtain ⟨x, hx, hxx⟩ := List.any_eq_true.1 h'
      rw [Bool.and_eq_true, Bool.and_eq_true, decide_eq_true_eq, decide_eq_true_eq] at hxx
      exact hall x (List.mem_range.1 hx) hxx
     ·rw [show qt (rany.lr4.T (kz (f + 1))) ql ((l, (qH on, ((0 : Int), ()))), (wTo w, ())) = _ from k2 hall, qg, vm]
      congr 1
      refine Eq.symm (List.any_eq_true.2 ?_)
      obtain ⟨x, hx⟩ := Classical.not_forall.1 hall
      obtain ⟨hx, hxx⟩ := Classical.not_imp.1 hx
      have hxx := Classical.not_not.1 hxx
      exact ⟨x, List.mem_range.2 hx, by rw [Bool.and_eq_true, Bool.and_eq_true, decide_eq_true_eq, decide_eq_true_eq]; exact hxx⟩
end Go.Sx
