/-
  Lines: the document's words and its reading.
-/
import Derived.Test.YtcpildkbkjeijaaDoorSyN
import Derived.Test.YtcpildkbkjeijaaDoorSyTb
set_option linter.unusedVariables false
set_option linter.unusedSimpArgs false
namespace Go.Sx
open Go Go.Proofs
open Go.Lib (decDigits nDigits)
abbrev IN : Str := [105, 110]
abbrev FROM : Str := [102, 114, 111, 109]
abbrev TO : Str := [116, 111]
abbrev GIVE : Str := [103, 105, 118, 101]
abbrev COINS : Str := [99, 111, 105, 110, 115]
abbrev FOR : Str := [102, 111, 114]
def numsP (l : List Int) : List Str := l.map Lib.itoa
def wordsP (c : Cmd) : List Str := nameP c.kind ::
  (if c.kind = 1 then [wayP c.dir]
   else if c.kind = 2 then [Lib.itoa c.who, wayP c.dir]
   else if c.kind = 3 then [Lib.itoa c.item]
   else if c.kind = 4 then [Lib.itoa c.item]
   else if c.kind = 5 then [Lib.itoa c.item, IN, Lib.itoa c.box]
   else if c.kind = 6 then [Lib.itoa c.item, FROM, Lib.itoa c.box]
   else if c.kind = 7 then [Lib.itoa c.item, TO, Lib.itoa c.who]
   else if c.kind = 8 then Lib.itoa c.who :: GIVE :: (numsP c.gives ++ (COINS :: Lib.itoa c.pay :: FOR :: (numsP c.wants ++ [COINS, Lib.itoa c.fee])))
   else [])
theorem rword_fit {n : Int} (h : FitC n) : rwordF n = some (Lib.itoa n) := by
  obtain ⟨h0, h1⟩ := h
  unfold rwordF rwOf
  rw [cnd_t (b := ile 0 n) (decide_eq_true h0), cnd_t (b := ilt n _) (decide_eq_true (by omega))]
theorem word_fit {n : Int} (h : FitC n) : wordF n = some (Lib.itoa n) := by
  obtain ⟨h0, h1⟩ := h
  obtain ⟨u, rfl⟩ := Int.eq_ofNat_of_zero_le h0
  rw [word_nat u (by omega), itoa_nat]
theorem numL_itoa {n : Int} (h : FitC n) : numL (Lib.itoa n) = (n, true) := by
  obtain ⟨h0, h1⟩ := h
  obtain ⟨u, rfl⟩ := Int.eq_ofNat_of_zero_le h0
  rw [itoa_nat, numL_dig u (by omega)]
theorem numL_inv {s : Str} (h : (numL s).2 = true) : FitC (numL s).1 ∧ s = Lib.itoa (numL s).1 := by
  obtain ⟨v, hv, hs, e⟩ := numL_word h
  rw [e]
  exact ⟨⟨by omega, by omega⟩, by rw [itoa_nat]; exact hs⟩
theorem numL_no {s : Str} (h : (numL s).2 = false) : (numL s).1 = 0 := by
  unfold numL at h ⊢
  split at h
  · split at h
    · cases h
    · rename_i a b
      simp [b]
  · rfl
theorem lt16_len {α β : Type} {l : List β} {n : Int} {A B : α} (h : (l.length : Int) + n ≤ 1000000000) : cnd (ilt (imul (iadd (ilen l) n) 16) 140737488355329) A B = A := lt_ok16 (by
  rw [ilen_eq]
  show ((l.length : Int) + n) * 16 < 1000000000000
  omega)
end Go.Sx
