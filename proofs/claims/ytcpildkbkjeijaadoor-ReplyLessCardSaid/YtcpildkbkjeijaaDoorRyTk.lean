/-
  Answers: what reply.Get makes of a text.
-/
import Derived.Test.YtcpildkbkjeijaaDoorRyTj
set_option linter.unusedVariables false
set_option linter.unusedSimpArgs false
namespace Go.Sx
open Go Go.Proofs
open Go.Lib (decDigits nDigits)
theorem pieces_short : ∀ (s acc : Str), ∀ w ∈ piecesL acc s, w.length ≤ acc.length + s.length
  | [], acc, w, h => by
    simp only [piecesL, List.mem_singleton] at h
    subst h
    simp
  | c :: s, acc, w, h => by
    unfold piecesL at h
    split at h
    · rcases List.mem_cons.1 h with rfl | h
      · simp
      · have := pieces_short s [] w h
        simp at this ⊢
        omega
    · have := pieces_short s (acc ++ [c]) w h
      simp at this ⊢
      omega
theorem words_short (s : Str) : ∀ w ∈ wordsL s, w.length ≤ s.length := fun w h => by
  have := pieces_short s [] w ((List.mem_filter.1 h).1)
  simpa using this
def Wd (l : List Str) : Prop := (∀ w ∈ l, w.length ≤ 1000000) ∧ l.length ≤ 1000001
theorem wd_drop {l : List Str} (h : Wd l) : Wd (ldrop l 1) := ⟨fun w hw => h.1 w (List.mem_of_mem_drop hw), by have := h.2; simp [ldrop]; omega⟩
theorem wd_words {s : Str} (hs : s.length ≤ 1000000) : Wd (wordsL s) := ⟨fun w hw => by have := words_short s w hw; omega, by have := words_len s; omega⟩
def ShO (s : Str) (o : Option (Reply × Int)) : Prop := ∃ (r : Reply) (b : Bool), o = some (if b = true then (zeroR, 2) else finR s r)
theorem sh_cnd {s : Str} {b : Bool} {x y : Option (Reply × Int)} (hx : ShO s x) (hy : ShO s y) : ShO s (cnd b x y) := by cases b; exact hy; exact hx
theorem sh_zero (s : Str) : ShO s (some (zeroR, 2)) := ⟨zeroR, true, rfl⟩
theorem sh_leafR {s : Str} {r : Reply} {b : Bool} (hp : r.players.length ≤ 1000000000) (hi : r.items.length ≤ 1000000000) :
    ShO s (obind (rputF r) (fun x => cnd b (some (zeroR, 2)) (cnd (bnot (ieq x.2 0)) (some (zeroR, 2)) (cnd (bnot (seq x.1 s)) (some (zeroR, 2)) (some (r, 0)))))) := ⟨r, b, leafR s r b hp hi⟩
theorem sh_leaf0 {s : Str} {r : Reply} (hp : r.players.length ≤ 1000000000) (hi : r.items.length ≤ 1000000000) :
    ShO s (obind (rputF r) (fun x => cnd (bnot (ieq x.2 0)) (some (zeroR, 2)) (cnd (bnot (seq x.1 s)) (some (zeroR, 2)) (some (r, 0))))) := ⟨r, false, leafR0 s r hp hi⟩
theorem sh_leafZ {s : Str} {r : Reply} (hp : r.players.length ≤ 1000000000) (hi : r.items.length ≤ 1000000000) : ShO s (obind (rputF r) (fun x => some (zeroR, (2 : Int)))) := ⟨r, true, leafZ r hp hi⟩
theorem sh_kind {s w : Str} {f : Int × Bool → Option (Reply × Int)} (h : ∀ p, ShO s (f p)) : ShO s (obind (ckindF w) f) := by rw [ckind_eq, obind_some]; exact h _
theorem sh_num {s w : Str} {f : Int × Bool → Option (Reply × Int)} (hw : w.length ≤ 1000000) (h : ∀ p, ShO s (f p)) : ShO s (obind (numberF w) f) := by rw [number_spec w hw, obind_some]; exact h _
theorem sh_next {s : Str} {l : List Str} {A : Option (Reply × Int)} {B : Str → Option (Reply × Int)} (hl : Wd l) (hA : ShO s A) (hB : ∀ w, w.length ≤ 1000000 → ShO s (B w)) :
    ShO s (cnd (ieq (ilen l) 0) A (obind (lget l 0) (fun w => cnd (ile 1 (ilen l)) (B w) none))) := by
  cases l with
  | nil => exact hA
  | cons w r =>
    rw [cnd_f (ieq0c w r), lget0, obind_some, cnd_t (ile1c w r)]
    exact hB w (hl.1 w (by simp))
theorem sh_it1 {s : Str} {A B C : I4} {ws : List Str} {bad : Bool} {f : Unit × (I4 × ((List Str × (Bool × Unit)) × (I4 × (I4 × (List Int × Unit))))) → Option (Reply × Int)} (hw : Wd ws) (h : ∀ y, Wd y.2.2.1.1 → y.2.2.2.2.2.1.length ≤ 1000001 → ShO s (f y)) :
    ShO s (obind (iter rget.lreplyreaderreadr13.T bigL ((), (A, ((ws, (bad, ())), (B, (C, ([], ()))))))) f) := by
  have := pl_len ws bad
  have hl := hw.2
  rw [gr_loop1 A B C ws bad [] hw.1 (by simp; omega), obind_some]
  refine h _ ⟨fun w h => hw.1 w (this.2 w h), ?_⟩ ?_
  · show (plR ws bad).1.length ≤ _
    omega
  · show ([] ++ (plR ws bad).2.2).length ≤ _
    rw [List.nil_append]
    omega
theorem sh_it2 {s : Str} {A B C : I4} {ws : List Str} {bad : Bool} {p : List Int} {f : Unit × (I4 × ((List Str × (Bool × Unit)) × (I4 × (I4 × (List Int × (List Seen × Unit)))))) → Option (Reply × Int)} (hw : Wd ws) (hp : p.length ≤ 1000001) (h : ∀ y, y.2.2.2.2.2.1.length ≤ 1000001 → y.2.2.2.2.2.2.1.length ≤ 1000001 → ShO s (f y)) :
    ShO s (obind (iter rget.lreplyreaderitemsr4.T bigL ((), (A, ((ws, (bad, ())), (B, (C, (p, ([], ())))))))) f) := by
  have := il_len ws bad
  have hl := hw.2
  rw [gr_loop2 A B C ws bad p [] hw.1 (by simp; omega), obind_some]
  refine h _ hp ?_
  show ([] ++ (ilR ws bad).2.2).length ≤ _
  rw [List.nil_append]
  omega
theorem sh_it3 {s : Str} {A B C : I4} {ws : List Str} {bad : Bool} {f : Unit × (I4 × ((List Str × (Bool × Unit)) × (I4 × (I4 × (List Seen × Unit))))) → Option (Reply × Int)} (hw : Wd ws) (h : ∀ y, y.2.2.2.2.2.1.length ≤ 1000001 → ShO s (f y)) :
    ShO s (obind (iter rget.lreplyreaderitemsr4n1.T bigL ((), (A, ((ws, (bad, ())), (B, (C, ([], ()))))))) f) := by
  have := il_len ws bad
  have hl := hw.2
  rw [gr_loop3 A B C ws bad [] hw.1 (by simp; omega), obind_some]
  refine h _ ?_
  show ([] ++ (ilR ws bad).2.2).length ≤ _
  rw [List.nil_append]
  omega
theorem le9 {n : Nat} (h : n ≤ 1000001) : n ≤ 1000000000 := by omega
theorem z9 {α : Type} : ([] : List α).length ≤ 1000000000 := by simp
theorem z1 {α : Type} : ([] : List α).length ≤ 1000001 := by simp
theorem z6 {α : Type} : ([] : List α).length ≤ 1000000 := by simp
set_option maxHeartbeats 4000000 in
theorem rget_shape (s : Str) (hs : s.length ≤ 1000000) : ShO s (rgetF s) := by
  unfold rgetF
  rw [cut_eq s (by omega), obind_some]
  have hw := wd_words hs
  generalize wordsL s = l at *
  repeat' first
    | with_reducible exact sh_zero _
    | with_reducible assumption
    | with_reducible exact z9
    | with_reducible exact z1
    | with_reducible exact z6
    | with_reducible exact le9 (by assumption)
    | with_reducible exact wd_drop (by assumption)
    | with_reducible exact wd_drop (wd_drop (by assumption))
    | with_reducible exact wd_drop (wd_drop (wd_drop (by assumption)))
    | with_reducible refine sh_next ?_ ?_ ?_
    | with_reducible refine sh_leafZ ?_ ?_
    | with_reducible refine sh_leafR ?_ ?_
    | with_reducible refine sh_leaf0 ?_ ?_
    | with_reducible refine sh_it1 ?_ ?_
    | with_reducible refine sh_it2 ?_ ?_ ?_
    | with_reducible refine sh_it3 ?_ ?_
    | with_reducible refine sh_kind ?_
    | with_reducible refine sh_num ?_ ?_
    | with_reducible refine sh_cnd ?_ ?_
    | intro _
end Go.Sx
