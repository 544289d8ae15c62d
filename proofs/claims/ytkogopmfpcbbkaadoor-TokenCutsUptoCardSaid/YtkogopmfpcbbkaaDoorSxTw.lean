/-
  Words: there and back.
-/
import Derived.Test.YtkogopmfpcbbkaaDoorSxTv
set_option linter.unusedVariables false
set_option linter.unusedSimpArgs false
namespace Go.Sx
open Go Go.Proofs
def Plain (w : Str) : Prop := w ≠ [] ∧ ∀ c ∈ w, c ≠ 32
theorem pieces_plain (s : Str) : ∀ acc : Str, (∀ c ∈ acc, c ≠ 32) → ∀ w ∈ piecesL acc s, ∀ c ∈ w, c ≠ 32 := by
  induction s with
  | nil =>
    intro acc h w hw
    simp [piecesL] at hw
    subst hw
    exact h
  | cons c r ih =>
    intro acc h w hw
    rw [pieces_cons] at hw
    split at hw
    · rcases List.mem_cons.1 hw with rfl | hw
      · exact h
      · exact ih [] (by simp) w hw
    · rename_i hc
      exact ih (acc ++ [c]) (fun d hd => by
        rcases List.mem_append.1 hd with hd | hd
        · exact h d hd
        · simp at hd
          subst hd
          exact hc) w hw
theorem words_plain (s : Str) : ∀ w ∈ wordsL s, Plain w := by
  intro w hw
  unfold wordsL at hw
  obtain ⟨h1, h2⟩ := List.mem_filter.1 hw
  exact ⟨by simpa using h2, pieces_plain s [] (by simp) w h1⟩
theorem words_nil : wordsL [] = [] := rfl
theorem words_join : ∀ l : List Str, (∀ w ∈ l, Plain w) → wordsL (Lib.join l [32]) = l
  | [], _ => rfl
  | [w], h => by
    have hw := h w (by simp)
    rw [Lib.join_one]
    have := words_word w [] hw.1 hw.2 (.inl rfl)
    simpa [words_nil] using this
  | w :: v :: r, h => by
    have hw := h w (by simp)
    have e : Lib.join (w :: v :: r) [32] = w ++ (32 :: Lib.join (v :: r) [32]) := by simp [Lib.join, List.intercalate]
    rw [e, words_word w _ hw.1 hw.2 (.inr ⟨_, rfl⟩), words_sp, words_join (v :: r) (fun x hx => h x (List.mem_cons_of_mem _ hx))]
theorem join_len (B : Nat) : ∀ l : List Str, (∀ w ∈ l, w.length ≤ B) → (Lib.join l [32]).length ≤ l.length * (B + 1)
  | [], _ => by simp [Lib.join_nil]
  | [w], h => by
    have := h w (by simp)
    rw [Lib.join_one]
    simp
    omega
  | w :: v :: r, h => by
    have hw := h w (by simp)
    have e : Lib.join (w :: v :: r) [32] = w ++ (32 :: Lib.join (v :: r) [32]) := by simp [Lib.join, List.intercalate]
    have ih := join_len B (v :: r) (fun x hx => h x (List.mem_cons_of_mem _ hx))
    rw [e]
    simp only [List.length_append, List.length_cons] at ih ⊢
    have : (r.length + 1 + 1) * (B + 1) = (r.length + 1) * (B + 1) + (B + 1) := Nat.succ_mul _ _
    omega
open Classical in
theorem plain_eq (w : Str) (hw : w.length ≤ 140737488355328) : plainF w = some (decide (Plain w)) := by
  unfold plainF
  rw [iter_big (fun x => (x.1.1.length - x.1.2.1).toNat) (fun x => (0 : Int) ≤ x.1.2.1 ∧ x.1.1.length ≤ 140737488355328)
    (fun x => if ∀ c ∈ x.1.1.drop (x.1.2.1 : Int).toNat, c ≠ 32 then some (.inr ((x.1.1, ()), ())) else some (.inl ((false, ()), ()))) ?_ ⟨Int.le_refl _, hw⟩ (by simp; omega)]
  · by_cases h : ∀ c ∈ w, c ≠ 32
    · rw [if_pos (by simpa using h), obind_some]
      show some (ilt 0 (ilen w)) = _
      congr 1
      apply decide_eq_decide.2
      rw [ilen_eq]
      constructor
      · intro hl
        exact ⟨fun e => by subst e; simp at hl, h⟩
      · intro hp
        have := List.length_pos_iff.2 hp.1
        omega
    · rw [if_neg (by simpa using h), obind_some]
      show some false = _
      congr 1
      exact (decide_eq_false (fun hp => h hp.2)).symm
  · rintro ⟨⟨m, i, _⟩, _⟩ rec ⟨h0, h1⟩ hr
    simp only at h0 h1 ⊢
    unfold plain.l19r2.T
    obtain ⟨j, rfl⟩ := Int.eq_ofNat_of_zero_le h0
    simp only [Int.toNat_natCast]
    by_cases hi : j < m.length
    · simp only [lget_in h0 (show (j : Int) < m.length by omega), Int.toNat_natCast]
      have hu : u8i m[j] = (m[j].toNat : Int) := rfl
      have hw : wrap .i64 (iadd (j : Int) 1) = ((j + 1 : Nat) : Int) := wrap_in (n := (j : Int) + 1) (by omega) (by omega)
      have hn := hr ((m, ((j + 1 : Nat) : Int), ()), ()) ⟨by show (0 : Int) ≤ ((j + 1 : Nat) : Int); omega, h1⟩ (by simp; omega)
      simp only [Int.toNat_natCast] at hn
      rw [obind_some, hu, hw, hn, cnd_t (b := ilt (j : Int) (ilen m)) (decide_eq_true (by rw [ilen_eq]; omega))]
      have hcons : (∀ c ∈ m.drop j, c ≠ 32) ↔ m[j] ≠ 32 ∧ ∀ c ∈ m.drop (j + 1), c ≠ 32 := by rw [List.drop_eq_getElem_cons hi, List.forall_mem_cons]
      by_cases c : m[j] = 32
      · rw [cnd_t (b := ieq (m[j].toNat : Int) 32) (by rw [c]; rfl), if_neg (fun h => (hcons.1 h).1 c)]
      · have c' : ¬ m[j].toNat = 32 := fun e => c (by apply UInt8.toNat_inj.1; simpa using e)
        rw [cnd_f (b := ieq (m[j].toNat : Int) 32) (decide_eq_false (by omega))]
        by_cases r : ∀ c ∈ m.drop (j + 1), c ≠ 32
        · rw [if_pos r, if_pos (hcons.2 ⟨c, r⟩)]
        · rw [if_neg r, if_neg (fun h => r (hcons.1 h).2)]
    · rw [cnd_f (b := ilt (j : Int) (ilen m)) (decide_eq_false (by rw [ilen_eq]; omega)), if_pos (by intro c hc; rw [List.drop_eq_nil_of_le (by omega)] at hc; cases hc)]
end Go.Sx
