/-
  Worlds: the document's Right, whole (plain).
-/
import Derived.Test.YtcpabdpbldmmmaaGreatDoorLyTe
set_option linter.unusedVariables false
set_option linter.unusedSimpArgs false
namespace Go.Sx
open Go Go.Proofs
theorem right5 (w : World) (h6 : w.at_.length ≤ 6) (hc : w.coins.length = w.at_.length) :
  (qr rright.lr5.T qn (((0, ()), (wTo w, (dTo w.desc, ())))) = some (.inr ((), (wTo w, (dTo w.desc, ())))) ∧ (∀ r ∈ w.at_, 0 ≤ r ∧ r < (w.desc.exits.length : Int)) ∧ ∀ c ∈ w.coins, 0 ≤ c ∧ c ≤ 1073741824) ∨
  qr rright.lr5.T qn (((0, ()), (wTo w, (dTo w.desc, ())))) = some (.inl ((false, ()), ())) := by
 have key := qK (T := rright.lr5.T) (fun i => (((i : Int), ()), (wTo w, (dTo w.desc, ())))) (fun i => ∃ h1 : i < w.at_.length, ∃ h2 : i < w.coins.length, (0 ≤ w.at_[i] ∧ w.at_[i] < qh w.desc.exits) ∧ (0 ≤ w.coins[i] ∧ w.coins[i] ≤ 1073741824)) (.inl ((false, ()), ())) (.inr ((), (wTo w, (dTo w.desc, ())))) w.at_.length (by omega) ?_ ?_ ?_
 ·by_cases h : ∀ i, i < w.at_.length → ∃ h1 : i < w.at_.length, ∃ h2 : i < w.coins.length, (0 ≤ w.at_[i] ∧ w.at_[i] < qh w.desc.exits) ∧ (0 ≤ w.coins[i] ∧ w.coins[i] ≤ 1073741824)
  ·refine .inl ⟨key.1 h, fun r hr => ?_, fun c hc' => ?_⟩
   ·obtain ⟨i, hi, rfl⟩ := List.getElem_of_mem hr
    obtain ⟨_, _, hg, _⟩ := h i hi
    rw [ilen_eq] at hg
    exact hg
   ·obtain ⟨i, hi, rfl⟩ := List.getElem_of_mem hc'
    obtain ⟨_, _, _, hg⟩ := h i (by omega)
    exact hg
  ·exact .inr (key.2 h)
 ·rintro i hi ⟨_, hi2, hg, hr⟩ rec
  have hl : lget w.at_ (i : Int) = some w.at_[i] := qP hi
  have hl2 : lget w.coins (i : Int) = some w.coins[i] := qP hi2
  unfold rright.lr5.T
  simp only [dTo, wTo]
  rw [qk (by rw [ilen_eq]; omega), hl, qg, jN, qg, qv, if_pos hg, hl2, qg, JC, qg, qv, if_pos hr, qH (by omega)]
 ·intro i hi hg rec
  have hi2 : i < w.coins.length := by omega
  have hl : lget w.at_ (i : Int) = some w.at_[i] := qP hi
  have hl2 : lget w.coins (i : Int) = some w.coins[i] := qP hi2
  unfold rright.lr5.T
  simp only [dTo, wTo]
  rw [qk (by rw [ilen_eq]; omega), hl, qg, jN, qg, qv]
  by_cases h : 0 ≤ w.at_[i] ∧ w.at_[i] < qh w.desc.exits
  ·rw [if_pos h, hl2, qg, JC, qg, qv, if_neg (fun hr => hg ⟨hi, hi2, h, hr⟩)]
  ·rw [if_neg h]
 ·intro rec
  unfold rright.lr5.T
  simp only [dTo, wTo]
  rw [qu (by rw [ilen_eq]; omega)]
theorem right10 (w : World) (h16 : w.where_.length ≤ 16) (hb : w.desc.boxes.length = w.desc.items.length) :
  (qr rright.lr10.T qn (((0, ()), (wTo w, (dTo w.desc, ())))) = some (.inr ((), (wTo w, ()))) ∧ ∀ p ∈ w.where_, AtOK w.desc p) ∨
  qr rright.lr10.T qn (((0, ()), (wTo w, (dTo w.desc, ())))) = some (.inl ((false, ()), ())) := by
 have key := qK (T := rright.lr10.T) (fun i => (((i : Int), ()), (wTo w, (dTo w.desc, ())))) (fun i => ∃ h1 : i < w.where_.length, AtOK w.desc w.where_[i]) (.inl ((false, ()), ())) (.inr ((), (wTo w, ()))) w.where_.length (by omega) ?_ ?_ ?_
 ·by_cases h : ∀ i, i < w.where_.length → ∃ h1 : i < w.where_.length, AtOK w.desc w.where_[i]
  ·refine .inl ⟨key.1 h, fun p hp => ?_⟩
   obtain ⟨i, hi, rfl⟩ := List.getElem_of_mem hp
   exact (h i hi).2
  ·exact .inr (key.2 h)
 ·rintro i hi ⟨_, hg⟩ rec
  have hl : lget w.where_ (i : Int) = some w.where_[i] := qP hi
  unfold rright.lr10.T
  simp only [dTo, wTo]
  rw [qk (by rw [ilen_eq]; omega), hl, qg, qH (by omega)]
  unfold AtOK at hg
  generalize w.where_[i] = q at hg ⊢
  rcases hg with ⟨hk, h1, h2⟩ | ⟨hk, h1, h2⟩ | ⟨hk, h1, h2, h3⟩
  ·rw [qM hk, jN, qg, kS, if_pos ⟨h1, by rw [ilen_eq]; exact h2⟩]
  ·rw [qI (by omega), qM hk, jN, qg, kS, if_pos ⟨h1, by rw [ilen_eq]; exact h2⟩]
  ·rw [qI (by omega), qI (by omega), qM hk, jN, qg, kS, if_pos ⟨h1, by rw [ilen_eq]; exact h2⟩, h3, qg]
   rfl
 ·intro i hi hg rec
  have hl : lget w.where_ (i : Int) = some w.where_[i] := qP hi
  have hg' : ¬ AtOK w.desc w.where_[i] := fun h => hg ⟨hi, h⟩
  unfold rright.lr10.T
  simp only [dTo, wTo]
  rw [qk (by rw [ilen_eq]; omega), hl, qg]
  unfold AtOK at hg'
  generalize w.where_[i] = q at hg' ⊢
  by_cases k0 : q.kind = 0
  ·rw [qM k0, jN, qg, kS, if_neg (fun h => hg' (.inl ⟨k0, h.1, by have := h.2; rw [ilen_eq] at this; exact this⟩)), qI (by omega), qI (by omega)]
  ·rw [qI k0]
   by_cases k1 : q.kind = 1
   ·rw [qM k1, jN, qg, kS, if_neg (fun h => hg' (.inr (.inl ⟨k1, h.1, by have := h.2; rw [ilen_eq] at this; exact this⟩))), qI (by omega)]
   ·rw [qI k1]
    by_cases k2 : q.kind = 2
    ·rw [qM k2, jN, qg, kS]
     by_cases h : 0 ≤ q.id ∧ q.id < qh w.desc.items
     ·rw [if_pos h]
      have h2 : q.id < (w.desc.items.length : Int) := by have := h.2; rw [ilen_eq] at this; exact this
      have hlb := jd (l := w.desc.boxes) h.1 (by omega)
      rw [hlb, qg]
      cases hbb : w.desc.boxes[q.id.toNat]'(by omega) with
      | true => exact absurd (.inr (.inr ⟨k2, h.1, h2, by rw [hlb, hbb]⟩)) hg'
      | false => rfl
     ·rw [if_neg h]
    ·rw [qI k2]
 ·intro rec
  unfold rright.lr10.T
  simp only [dTo, wTo]
  rw [qu (by rw [ilen_eq]; omega)]
theorem at_wf {w : World} (h : ∀ p ∈ w.where_, AtOK w.desc p) (hl : w.where_.length = w.desc.items.length) : ∀ q ∈ w.where_, WFp w.where_ q := by
 intro q hq hk
 rcases h q hq with ⟨h0, _⟩ | ⟨h0, _⟩ | ⟨_, h1, h2, _⟩
 ·omega
 ·omega
 ·exact ⟨h1, by rw [hl]; exact h2⟩
theorem qbu {d : Desc} {p : Place} (h : AtOK d p) : 0 ≤ p.kind ∧ p.kind < 3 := by
 rcases h with ⟨h0, _⟩ | ⟨h0, _⟩ | ⟨h0, _⟩ <;> omega
theorem right17 (w : World) (h16 : w.where_.length ≤ 16) (hat : ∀ p ∈ w.where_, AtOK w.desc p) (hl : w.where_.length = w.desc.items.length) :
  (qr rright.lr17.T qn (((0, ()), (wTo w, ()))) = some (.inr ((), ())) ∧ (∀ p ∈ w.where_, ∃ d : Nat, d ≤ 4 ∧ Dep w.where_ p d) ∧ ∀ p ∈ w.where_, (manyW w.where_ p : Int) ≤ capW w p.kind) ∨
  qr rright.lr17.T qn (((0, ()), (wTo w, ()))) = some (.inl ((false, ()), ())) := by
 have hwf := at_wf hat hl
 have key := fun (good : Nat → Prop) (hG) (hB) => qK (T := rright.lr17.T) (fun i => (((i : Int), ()), (wTo w, ()))) good (.inl ((false, ()), ())) (.inr ((), ())) w.where_.length (by omega) hG hB (fun rec => by
  unfold rright.lr17.T
  simp only [wTo]
  rw [qu (by rw [ilen_eq]; omega)])
 have k := key (fun i => ∃ h1 : i < w.where_.length, (∃ n : Int, gw w w.where_[i] = some n ∧ n ≤ 4) ∧ (manyW w.where_ w.where_[i] : Int) ≤ capW w (w.where_[i]).kind) ?_ ?_
 ·by_cases h : ∀ i, i < w.where_.length → ∃ h1 : i < w.where_.length, (∃ n : Int, gw w w.where_[i] = some n ∧ n ≤ 4) ∧ (manyW w.where_ w.where_[i] : Int) ≤ capW w (w.where_[i]).kind
  ·refine .inl ⟨k.1 h, fun p hp => ?_, fun p hp => ?_⟩
   ·obtain ⟨i, hi, rfl⟩ := List.getElem_of_mem hp
    obtain ⟨_, ⟨n, hn, h4⟩, _⟩ := h i hi
    obtain ⟨n', hn', hd⟩ := DT hwf (hwf _ (List.getElem_mem hi))
    rw [hn] at hn'
    cases hn'
    exact hd h4
   ·obtain ⟨i, hi, rfl⟩ := List.getElem_of_mem hp
    exact (h i hi).2.2
  ·exact .inr (k.2 h)
 ·rintro i hi ⟨_, ⟨n, hn, h4⟩, hm⟩ rec
  have hg : lget w.where_ (i : Int) = some w.where_[i] := qP hi
  have hk := qbu (hat _ (List.getElem_mem hi))
  unfold rright.lr17.T
  simp only [wTo]
  rw [qk (by rw [ilen_eq]; omega), hg, qg]
  rw [JQ]
  rw [hn, qg, qu (by omega), qg, Gm w _ (by omega), qg, qg, Bx w _ hk.1 hk.2, qg, qu (by omega), qH (by omega)]
 ·intro i hi hg' rec
  have hg : lget w.where_ (i : Int) = some w.where_[i] := qP hi
  have hk := qbu (hat _ (List.getElem_mem hi))
  obtain ⟨n, hn, hd⟩ := DT hwf (hwf _ (List.getElem_mem hi))
  unfold rright.lr17.T
  simp only [wTo]
  rw [qk (by rw [ilen_eq]; omega), hg, qg]
  rw [JQ]
  rw [hn, qg]
  by_cases h4 : n ≤ 4
  ·rw [qu (by omega), qg, Gm w _ (by omega), qg, qg, Bx w _ hk.1 hk.2, qg, qk (by
    by_cases hm : (manyW w.where_ w.where_[i] : Int) ≤ capW w (w.where_[i]).kind
    ·exact absurd ⟨hi, ⟨n, hn, h4⟩, hm⟩ hg'
    ·omega)]
  ·rw [qk (by omega)]
theorem DJ (w : World) : ∃ b, gQ w = some b ∧ (b = true → RightP w) := by
 obtain ⟨b, hb, hmay⟩ := qf1 w.desc
 unfold gQ
 rw [hb, qg]
 cases b with
 | false => exact ⟨false, rfl, fun h => by cases h⟩
 | true =>
   have hm := hmay rfl
   rw [qz (b := bnot true) rfl]
   simp only [ilen_eq]
   by_cases h1 : (w.at_.length : Int) = (w.desc.players.length : Int)
   case neg => exact ⟨false, by rw [qv, if_neg h1], fun h => by cases h⟩
   rw [qv, if_pos h1]
   by_cases h2 : (w.coins.length : Int) = (w.desc.players.length : Int)
   case neg => exact ⟨false, by rw [qv, if_neg h2], fun h => by cases h⟩
   rw [qv, if_pos h2]
   by_cases h3 : (w.where_.length : Int) = (w.desc.items.length : Int)
   case neg => exact ⟨false, by rw [qv, if_neg h3], fun h => by cases h⟩
   rw [qv, if_pos h3]
   have p6 := hm.players.2
   have i16 := hm.items
   rcases right5 w (by omega) (by omega) with ⟨e1, q1, q2⟩ | e1
   case inr => exact ⟨false, by rw [e1]; rfl, fun h => by cases h⟩
   rw [e1, qg]
   simp only [scase]
   rcases right10 w (by omega) hm.boxes with ⟨e2, q3⟩ | e2
   case inr => exact ⟨false, by rw [e2]; rfl, fun h => by cases h⟩
   rw [e2, qg]
   simp only [scase]
   rcases right17 w (by omega) q3 (by omega) with ⟨e3, q4, q5⟩ | e3
   case inr => exact ⟨false, by rw [e3]; rfl, fun h => by cases h⟩
   rw [e3, qg]
   exact ⟨true, rfl, fun _ => ⟨hm, by omega, by omega, by omega, q1, q2, q3, q4, q5⟩⟩
end Go.Sx
