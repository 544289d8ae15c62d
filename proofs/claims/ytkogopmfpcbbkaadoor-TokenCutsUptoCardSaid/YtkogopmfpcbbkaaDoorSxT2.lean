/-
  Words: lines cut and words joined: the plain law, where the words are short together.
-/
import Derived.Test.YtkogopmfpcbbkaaDoorSxTz
import Derived.Test.YtkogopmfpcbbkaaDoorSxLd
set_option linter.unusedVariables false
set_option linter.unusedSimpArgs false
namespace Go.Sx
open Go Go.Proofs
theorem cuts_law (s : Str) (l : List Str) (hs : sumL l ≤ 10000000) : tokenCutsF s l = some true := by
  unfold tokenCutsF
  rw [tawake_ok, obind_some, cnd_f (b := bnot true) rfl]
  by_cases h1 : s.length ≤ 2000
  · rw [cnd_f (b := ilt 2000 (ilen s)) (decide_eq_false (by rw [ilen_eq]; omega))]
    by_cases h2 : l.length ≤ 100
    · rw [cnd_f (b := ilt 100 (ilen l)) (decide_eq_false (by rw [ilen_eq]; omega)), cut_eq s (by omega), rcut_eq s (by omega)]
      have hw := words_len s
      have hj := join_sum l
      rw [obind_some, obind_some, same_self _ (by omega), obind_some, cnd_t rfl, join_eq l (by omega) (by omega), rjoin_eq l (by omega) (by omega), obind_some, obind_some]
      simp
    · rw [cnd_t (b := ilt 100 (ilen l)) (decide_eq_true (by rw [ilen_eq]; omega))]
      rfl
  · rw [cnd_t (b := ilt 2000 (ilen s)) (decide_eq_true (by rw [ilen_eq]; omega))]
    rfl
theorem tokenCuts_calls (xs : Lf [.str, .sl .str]) (hs : sumL xs.2.1 ≤ 10000000) : CallsTo Tryd.prog GL 3 (cellsL [.str, .sl .str] xs) (.bool true) :=
  law_one (E := E_tokenCuts) (ks := [.str, .sl .str]) tyL_ok (.cons tawake_ctr (.cons same_ctr (.cons cut_ctr (.cons rcut_ctr (.cons join_ctr (.cons rjoin_ctr .nil)))))) tokenCuts_inl eqsL mixed in3 (fun c _ => told_none rfl c) (F := tokenCutsF) (fun xs => tokenCuts_walk xs.1 xs.2.1) xs (cuts_law xs.1 xs.2.1 hs)
end Go.Sx
