/-
  Lines: kinds.
-/
import Derived.Test.YtcpildkbkjeijaaDoorSyTj
set_option linter.unusedVariables false
set_option linter.unusedSimpArgs false
namespace Go.Sx
open Go Go.Proofs
open Go.Lib (decDigits nDigits)
/-- A loop that carries something along. -/
theorem iter_sim {X O X' O' : Type} {T : (X → Option O) → X → Option O} {T' : (X' → Option O') → X' → Option O'} (e : X → X') (f : O → O') (h : ∀ rec rec', (∀ x, rec' (e x) = (rec x).map f) → ∀ x, T' rec' (e x) = (T rec x).map f) : ∀ (L : Nat) (x : X), iter T' L (e x) = (iter T L x).map f
  | 0, x => rfl
  | L + 1, x => h (iter T L) (iter T' L) (iter_sim e f h L) x
abbrev CT : Type := (Int × (Int × (Int × (Int × (Int × ((List Int) × (Int × ((List Int) × (Int × Unit)))))))))
theorem cut_loop (s : Str) (hs : s.length ≤ 1000000) : iter rcut.lr3.T bigL ((s, (0, ())), ([], ())) = some ((), (wordsL s, ())) := by
  have h := rcut_eq s hs
  unfold rcutF at h
  cases hi : iter rcut.lr3.T bigL ((s, (0, ())), ([], ())) with
  | none => rw [hi] at h; cases h
  | some y =>
    rw [hi] at h
    obtain ⟨_, o, _⟩ := y
    cases h
    rfl
theorem words_inj {c d : Cmd} (hc : MayC c) (hd : MayC d) (e : wordsP c = wordsP d) : c = d := by
  have h1 := getL_of (s := Lib.join (wordsP c) [32]) (c := c) (by have := join_short hc; omega) hc (words_of_join hc)
  have h2 := getL_of (s := Lib.join (wordsP c) [32]) (c := d) (by have := join_short hc; omega) hd (by rw [words_of_join hc, e])
  rw [h1] at h2
  cases h2
  rfl
end Go.Sx
