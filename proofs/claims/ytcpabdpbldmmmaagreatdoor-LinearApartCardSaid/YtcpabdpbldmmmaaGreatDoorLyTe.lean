/-
  Worlds: the document's Right (plain).
-/
import Derived.Test.YtcpabdpbldmmmaaGreatDoorLyTd
set_option linter.unusedVariables false
set_option linter.unusedSimpArgs false
namespace Go.Sx
open Go Go.Proofs
theorem qv {α : Type} {p : Prop} [Decidable p] {x y : α} : cnd (bnot (decide p)) x y = if p then y else x := by
 by_cases h : p <;> simp [h]
theorem kS {α : Type} {p : Prop} [Decidable p] {x y : α} : cnd (decide p) x y = if p then x else y := by
 by_cases h : p <;> simp [h]
def Vm (e : Exits) (k : Nat) : Int := jQ [e.e0, e.e1, e.e2, e.e3] (k : Int)
theorem ex_mem {e : Exits} {x : Int} (h : x ∈ [e.e0, e.e1, e.e2, e.e3]) : ∃ k, k < 4 ∧ Vm e k = x := by
 simp only [List.mem_cons, List.not_mem_nil, or_false] at h
 rcases h with h | h | h | h
 ·exact ⟨0, by omega, h.symm⟩
 ·exact ⟨1, by omega, h.symm⟩
 ·exact ⟨2, by omega, h.symm⟩
 ·exact ⟨3, by omega, h.symm⟩
def Ex4 (d : Desc) (i : Nat) : Prop := ∃ hi : i < d.exits.length, ∀ k, k < 4 → (Vm d.exits[i] k = -1 ∨ (0 ≤ Vm d.exits[i] k ∧ Vm d.exits[i] k < qh d.exits))
theorem qgs (d : Desc) (i : Nat) (hi : i < d.exits.length) (h8 : d.exits.length ≤ 8) :
  (Ex4 d i → qr rdmay.lr10.T qn (((qh d.exits, ((i : Int), (0, ()))), (dTo d, ()))) = some (.inr ((qh d.exits, ((i : Int), ())), (dTo d, ())))) ∧
  (¬ Ex4 d i → qr rdmay.lr10.T qn (((qh d.exits, ((i : Int), (0, ()))), (dTo d, ()))) = some (.inl ((false, ()), ()))) := by
 have hl : lget d.exits (i : Int) = some d.exits[i] := qP hi
 have key := qK (T := rdmay.lr10.T) (fun k => ((qh d.exits, ((i : Int), ((k : Int), ()))), (dTo d, ()))) (fun k => Vm d.exits[i] k = -1 ∨ (0 ≤ Vm d.exits[i] k ∧ Vm d.exits[i] k < qh d.exits)) (.inl ((false, ()), ())) (.inr ((qh d.exits, ((i : Int), ())), (dTo d, ()))) 4 (by omega) ?_ ?_ ?_
 ·exact ⟨fun h => key.1 h.2, fun h => key.2 fun h' => h ⟨hi, h'⟩⟩
 ·intro k hk hg rec
  unfold rdmay.lr10.T
  simp only [dTo]
  rw [qk (by omega), hl, qg, qB (by omega), qk (by omega), qH (by omega)]
  by_cases h1 : Vm d.exits[i] k = -1
  ·rw [qz (b := bnot (ieq (jQ _ (k : Int)) (-1))) (by show bnot (decide (Vm d.exits[i] k = -1)) = false; simp [h1])]
  ·rw [qy (b := bnot (ieq (jQ _ (k : Int)) (-1))) (by show bnot (decide (Vm d.exits[i] k = -1)) = true; simp [h1]), qg, qB (by omega), qk (by omega), jN, qg, qv]
   exact if_pos (hg.resolve_left h1)
 ·intro k hk hg rec
  unfold rdmay.lr10.T
  simp only [dTo]
  rw [qk (by omega), hl, qg, qB (by omega), qk (by omega), qH (by omega)]
  have h1 : ¬ Vm d.exits[i] k = -1 := fun e => hg (.inl e)
  rw [qy (b := bnot (ieq (jQ _ (k : Int)) (-1))) (by show bnot (decide (Vm d.exits[i] k = -1)) = true; simp [h1]), qg, qB (by omega), qk (by omega), jN, qg, qv]
  exact if_neg (fun e => hg (.inr e))
 ·intro rec
  unfold rdmay.lr10.T
  simp only [dTo]
  rw [qu (by omega)]
def UR (l : List Int) (i : Int) : Nat := l.countP (fun x => decide (x = i))
theorem qic (l : List Int) (x : Int) (i : Nat) (h : i < l.length) : UR (l.take (i + 1)) x = UR (l.take i) x + (if l[i] = x then 1 else 0) := by
 rw [List.take_add_one, List.getElem?_eq_getElem h]
 simp only [UR, Option.toList_some, List.countP_append, List.countP_cons, List.countP_nil, decide_eq_true_eq, Nat.zero_add]
theorem may16 (d : Desc) (i : Nat) (h16 : d.items.length ≤ 16) : qr rdmay.lr16.T qn (((qh d.exits, ((i : Int), (0, (0, ())))), (dTo d, ()))) =
  some ((qh d.exits, ((i : Int), (((UR d.items i : Nat) : Int), ()))), (dTo d, ())) := by
 refine qG (T := rdmay.lr16.T) (fun k => ((qh d.exits, ((i : Int), (((UR (d.items.take k) i : Nat) : Int), ((k : Int), ())))), (dTo d, ()))) ((qh d.exits, ((i : Int), (((UR d.items i : Nat) : Int), ()))), (dTo d, ())) d.items.length (by omega) ?_ ?_
 ·intro k hk rec
  have hl : lget d.items (k : Int) = some d.items[k] := qP hk
  have hm := qic d.items i k hk
  have hb : UR (d.items.take k) i ≤ _ := List.countP_le_length
  have hb2 := List.length_take_le k d.items
  unfold rdmay.lr16.T
  simp only [dTo]
  rw [qk (qp.2 hk), hl, qg, qH (i := k) (by omega)]
  by_cases e : d.items[k] = (i : Int)
  ·rw [qM e, qH (by omega), hm, if_pos e]
  ·rw [qI e, hm, if_neg e]
   rfl
 ·intro rec
  unfold rdmay.lr16.T
  simp only [dTo]
  rw [qu (by rw [qp]; omega), List.take_of_length_le (Nat.le_refl _)]
theorem may7 (d : Desc) (h8 : d.exits.length ≤ 8) (h16 : d.items.length ≤ 16) : (qr rdmay.lr7.T qn (((qh d.exits, (0, ())), (dTo d, ()))) = some (.inr ((qh d.exits, ()), (dTo d, ()))) ∧ ∀ e ∈ d.exits, ExOK d.exits.length e) ∨
  qr rdmay.lr7.T qn (((qh d.exits, (0, ())), (dTo d, ()))) = some (.inl ((false, ()), ())) := by
 have key := qK (T := rdmay.lr7.T) (fun i => ((qh d.exits, ((i : Int), ())), (dTo d, ()))) (fun i => Ex4 d i ∧ ¬ d.room < ((UR d.items i : Nat) : Int)) (.inl ((false, ()), ())) (.inr ((qh d.exits, ()), (dTo d, ()))) d.exits.length (by omega) ?_ ?_ ?_
 ·by_cases h : ∀ i, i < d.exits.length → Ex4 d i ∧ ¬ d.room < ((UR d.items i : Nat) : Int)
  ·refine .inl ⟨key.1 h, fun e he => ?_⟩
   obtain ⟨i, hi, rfl⟩ := List.getElem_of_mem he
   obtain ⟨⟨_, hg⟩, _⟩ := h i hi
   intro x hx
   obtain ⟨k, hk, rfl⟩ := ex_mem hx
   have := hg k hk
   rw [ilen_eq] at this
   exact this
  ·exact .inr (key.2 h)
 ·rintro i hi ⟨hg, hr⟩ rec
  unfold rdmay.lr7.T
  simp only []
  rw [qk (by rw [ilen_eq]; omega), (qgs d i hi h8).1 hg, qg]
  simp only [scase]
  rw [may16 d i h16, qg, qu hr, qH (by omega)]
 ·intro i hi hg rec
  unfold rdmay.lr7.T
  simp only []
  rw [qk (by rw [ilen_eq]; omega)]
  by_cases h : Ex4 d i
  ·rw [(qgs d i hi h8).1 h, qg]
   simp only [scase]
   rw [may16 d i h16, qg, qk (by
    by_cases hr : d.room < ((UR d.items i : Nat) : Int)
    ·exact hr
    ·exact absurd ⟨h, hr⟩ hg)]
  ·rw [(qgs d i hi h8).2 h, qg]
 ·intro rec
  unfold rdmay.lr7.T
  simp only []
  rw [qu (by rw [ilen_eq]; omega)]
theorem may23 (d : Desc) (h6 : d.players.length ≤ 6) (hc : d.coins.length = d.players.length) : qr rdmay.lr23.T qn (((qh d.exits, (0, ())), (dTo d, ()))) = some (.inr ((qh d.exits, ()), (dTo d, ()))) ∨
  qr rdmay.lr23.T qn (((qh d.exits, (0, ())), (dTo d, ()))) = some (.inl ((false, ()), ())) := by
 have key := qK (T := rdmay.lr23.T) (fun i => ((qh d.exits, ((i : Int), ())), (dTo d, ()))) (fun i => ∃ h1 : i < d.players.length, ∃ h2 : i < d.coins.length, (0 ≤ d.players[i] ∧ d.players[i] < qh d.exits) ∧ (0 ≤ d.coins[i] ∧ d.coins[i] ≤ 1073741824)) (.inl ((false, ()), ())) (.inr ((qh d.exits, ()), (dTo d, ()))) d.players.length (by omega) ?_ ?_ ?_
 ·by_cases h : ∀ i, i < d.players.length → ∃ h1 : i < d.players.length, ∃ h2 : i < d.coins.length, (0 ≤ d.players[i] ∧ d.players[i] < qh d.exits) ∧ (0 ≤ d.coins[i] ∧ d.coins[i] ≤ 1073741824)
  ·exact .inl (key.1 h)
  ·exact .inr (key.2 h)
 ·rintro i hi ⟨_, hi2, hg, hr⟩ rec
  have hl : lget d.players (i : Int) = some d.players[i] := qP hi
  have hl2 : lget d.coins (i : Int) = some d.coins[i] := qP hi2
  unfold rdmay.lr23.T
  simp only [dTo]
  rw [qk (by rw [ilen_eq]; omega), hl, qg, jN, qg, qv, if_pos hg, hl2, qg, JC, qg, qv, if_pos hr, qH (by omega)]
 ·intro i hi hg rec
  have hi2 : i < d.coins.length := by omega
  have hl : lget d.players (i : Int) = some d.players[i] := qP hi
  have hl2 : lget d.coins (i : Int) = some d.coins[i] := qP hi2
  unfold rdmay.lr23.T
  simp only [dTo]
  rw [qk (by rw [ilen_eq]; omega), hl, qg, jN, qg, qv]
  by_cases h : 0 ≤ d.players[i] ∧ d.players[i] < qh d.exits
  ·rw [if_pos h, hl2, qg, JC, qg, qv, if_neg (fun hr => hg ⟨hi, hi2, h, hr⟩)]
  ·rw [if_neg h]
 ·intro rec
  unfold rdmay.lr23.T
  simp only [dTo]
  rw [qu (by rw [ilen_eq]; omega)]
theorem may28 (d : Desc) (h16 : d.items.length ≤ 16) : qr rdmay.lr28.T qn (((qh d.exits, (0, ())), (dTo d, ()))) = some (.inr ((), ())) ∨
  qr rdmay.lr28.T qn (((qh d.exits, (0, ())), (dTo d, ()))) = some (.inl ((false, ()), ())) := by
 have key := qK (T := rdmay.lr28.T) (fun i => ((qh d.exits, ((i : Int), ())), (dTo d, ()))) (fun i => ∃ h1 : i < d.items.length, (0 ≤ d.items[i] ∧ d.items[i] < qh d.exits)) (.inl ((false, ()), ())) (.inr ((), ())) d.items.length (by omega) ?_ ?_ ?_
 ·by_cases h : ∀ i, i < d.items.length → ∃ h1 : i < d.items.length, (0 ≤ d.items[i] ∧ d.items[i] < qh d.exits)
  ·exact .inl (key.1 h)
  ·exact .inr (key.2 h)
 ·rintro i hi ⟨_, hg⟩ rec
  have hl : lget d.items (i : Int) = some d.items[i] := qP hi
  unfold rdmay.lr28.T
  simp only [dTo]
  rw [qk (by rw [ilen_eq]; omega), hl, qg, jN, qg, qv, if_pos hg, qH (by omega)]
 ·intro i hi hg rec
  have hl : lget d.items (i : Int) = some d.items[i] := qP hi
  unfold rdmay.lr28.T
  simp only [dTo]
  rw [qk (by rw [ilen_eq]; omega), hl, qg, jN, qg, qv, if_neg (fun hr => hg ⟨hi, hr⟩)]
 ·intro rec
  unfold rdmay.lr28.T
  simp only [dTo]
  rw [qu (by rw [ilen_eq]; omega)]
theorem qf1 (d : Desc) : ∃ b, Ka d = some b ∧ (b = true → MayD d) := by
 unfold Ka
 simp only [ilen_eq]
 by_cases h1 : (d.exits.length : Int) < 1
 ·exact ⟨false, by rw [qk h1], fun h => by cases h⟩
 rw [qu h1]
 by_cases h2 : 8 < (d.exits.length : Int)
 ·exact ⟨false, by rw [qk h2], fun h => by cases h⟩
 rw [qu h2]
 by_cases h3 : (d.players.length : Int) < 1
 ·exact ⟨false, by rw [qk h3], fun h => by cases h⟩
 rw [qu h3]
 by_cases h4 : 6 < (d.players.length : Int)
 ·exact ⟨false, by rw [qk h4], fun h => by cases h⟩
 rw [qu h4]
 by_cases h5 : (d.coins.length : Int) = (d.players.length : Int)
 case neg => exact ⟨false, by rw [qv, if_neg h5], fun h => by cases h⟩
 rw [qv, if_pos h5]
 by_cases h6 : 16 < (d.items.length : Int)
 ·exact ⟨false, by rw [qk h6], fun h => by cases h⟩
 rw [qu h6]
 by_cases h7 : (d.boxes.length : Int) = (d.items.length : Int)
 case neg => exact ⟨false, by rw [qv, if_neg h7], fun h => by cases h⟩
 rw [qv, if_pos h7, jN, qg]
 by_cases h8 : 0 ≤ d.room ∧ d.room < 65
 case neg => exact ⟨false, by rw [qv, if_neg h8], fun h => by cases h⟩
 rw [qv, if_pos h8, jN, qg]
 by_cases h9 : 0 ≤ d.player ∧ d.player < 65
 case neg => exact ⟨false, by rw [qv, if_neg h9], fun h => by cases h⟩
 rw [qv, if_pos h9, jN, qg]
 by_cases h10 : 0 ≤ d.box ∧ d.box < 65
 case neg => exact ⟨false, by rw [qv, if_neg h10], fun h => by cases h⟩
 rw [qv, if_pos h10, ← ilen_eq]
 rcases may7 d (by omega) (by omega) with ⟨e1, hex⟩ | e1
 case inr => exact ⟨false, by rw [e1]; rfl, fun h => by cases h⟩
 rw [e1, qg]
 simp only [scase]
 rcases may23 d (by omega) (by omega) with e2 | e2
 case inr => exact ⟨false, by rw [e2]; rfl, fun h => by cases h⟩
 rw [e2, qg]
 simp only [scase]
 rcases may28 d (by omega) with e3 | e3
 case inr => exact ⟨false, by rw [e3]; rfl, fun h => by cases h⟩
 rw [e3, qg]
 exact ⟨true, rfl, fun _ => ⟨⟨by omega, by omega⟩, ⟨by omega, by omega⟩, by omega, by omega, by omega, ⟨h8, h9, h10⟩, hex⟩⟩
end Go.Sx
