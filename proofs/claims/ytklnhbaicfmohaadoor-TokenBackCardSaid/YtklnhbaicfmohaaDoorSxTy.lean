/-
  Words: the plain law of there and back, joined.
-/
import Derived.Test.YtklnhbaicfmohaaDoorSxTx
set_option linter.unusedVariables false
set_option linter.unusedSimpArgs false
namespace Go.Sx
open Go Go.Proofs
open Classical in
noncomputable def bk (q : Nat) : List Str → Str → Option Str
  | [], t => some t
  | w :: r, t => if Plain w ∧ w.length ≤ 100 then bk q r (t ++ List.replicate (q + 1) 32 ++ w) else none
theorem bk_some (q : Nat) (hq : q ≤ 3) : ∀ (l : List Str) (t t' : Str), bk q l t = some t' → (∀ w ∈ l, Plain w ∧ w.length ≤ 100) ∧ wordsL t' = wordsL t ++ l ∧ t'.length ≤ t.length + 104 * l.length
  | [], t, t', h => by
    simp only [bk, Option.some.injEq] at h
    subst h
    simp
  | w :: r, t, t', h => by
    simp only [bk] at h
    split at h
    · rename_i hp
      obtain ⟨h1, h2, h3⟩ := bk_some q hq r _ t' h
      refine ⟨fun x hx => ?_, ?_, ?_⟩
      · rcases List.mem_cons.1 hx with rfl | hx
        · exact hp
        · exact h1 x hx
      · rw [h2, words_add t w q hp.1]
        simp
      · simp only [List.length_append, List.length_replicate, List.length_cons] at h3 ⊢
        have := hp.2
        omega
    · cases h
open Classical in
theorem back13 (l : List Str) (g : Nat) (hg : g ≤ 255) (hl : l.length ≤ 100) (hw : ∀ w ∈ l, w.length ≤ 140737488355328) :
    iter tokenBack.l5r13.T bigL (((l, ((g : Int), (([] : Str), (0, ())))), ())) = match bk (g % 4) l [] with
      | some t => some (.inr ((l, (t, ())), ()))
      | none => some (.inl ((true, ()), ())) := by
  rw [iter_big (fun x => (x.1.1.length - x.1.2.2.2.1).toNat) (fun x => (0 : Int) ≤ x.1.2.2.2.1 ∧ x.1.1.length ≤ 100 ∧ x.1.2.1 = (g : Int) ∧ (x.1.2.2.1.length : Int) ≤ 104 * x.1.2.2.2.1 ∧ (x.1.2.2.2.1 : Int) ≤ (x.1.1.length : Int) ∧ ∀ w ∈ x.1.1, w.length ≤ 140737488355328)
    (fun x => match bk (g % 4) (x.1.1.drop (x.1.2.2.2.1 : Int).toNat) x.1.2.2.1 with
      | some t => some (.inr ((x.1.1, (t, ())), ()))
      | none => some (.inl ((true, ()), ()))) ?_ ⟨Int.le_refl _, hl, rfl, by simp, by simp, hw⟩ (by simp; omega)]
  · simp
  rintro ⟨⟨m, g', t, i, _⟩, _⟩ rec ⟨h0, h1, h2, h3, h5, h4⟩ hr
  simp only at h0 h1 h2 h3 h4 h5 ⊢
  subst h2
  unfold tokenBack.l5r13.T
  obtain ⟨j, rfl⟩ := Int.eq_ofNat_of_zero_le h0
  simp only [Int.toNat_natCast]
  by_cases hi : j < m.length
  · have hg1 := lget_in (l := m) h0 (show (j : Int) < m.length by omega)
    simp only [Int.toNat_natCast] at hg1
    have hlen := h4 m[j] (List.getElem_mem _)
    have hb := back18 m g t (j : Int) hg (by omega)
    rw [List.drop_eq_getElem_cons hi, cnd_t (b := ilt (j : Int) (ilen m)) (decide_eq_true (by rw [ilen_eq]; omega)), hg1, obind_some, plain_eq m[j] hlen, obind_some]
    by_cases p : Plain m[j]
    · rw [decide_eq_true p, cnd_f (b := bnot true) rfl, obind_some]
      by_cases a : m[j].length ≤ 100
      · rw [cnd_f (b := ilt 100 (ilen m[j])) (decide_eq_false (by rw [ilen_eq]; omega)), hb, obind_some]
        show obind (lget m (j : Int)) _ = _
        rw [hg1, obind_some]
        have hw1 : wrap .i64 (iadd (j : Int) 1) = ((j + 1 : Nat) : Int) := wrap_in (n := (j : Int) + 1) (by omega) (by omega)
        have q1 : iadd (ilen (t ++ List.replicate (g % 4 + 1) 32)) (ilen m[j]) < 1000000000000 := by
          rw [ilen_eq, ilen_eq, List.length_append, List.length_replicate]
          show ((t.length + (g % 4 + 1) : Nat) : Int) + (m[j].length : Int) < 1000000000000
          omega
        have hn := hr ((m, (g : Int), t ++ List.replicate (g % 4 + 1) 32 ++ m[j], ((j + 1 : Nat) : Int), ()), ()) ⟨by show (0 : Int) ≤ ((j + 1 : Nat) : Int); omega, h1, rfl, by show ((t ++ List.replicate (g % 4 + 1) 32 ++ m[j]).length : Int) ≤ 104 * ((j + 1 : Nat) : Int); rw [List.length_append, List.length_append, List.length_replicate]; omega, by show ((j + 1 : Nat) : Int) ≤ (m.length : Int); omega, h4⟩ (by simp; omega)
        simp only [Int.toNat_natCast] at hn
        show cnd (ilt (iadd (ilen (t ++ List.replicate (g % 4 + 1) 32)) (ilen m[j])) 4611686018427387904) (rec ((m, ((g : Int), (t ++ List.replicate (g % 4 + 1) 32 ++ m[j], (wrap .i64 (iadd (j : Int) 1), ())))), ())) none = _
        rw [lt_ok q1, hw1, hn]
        simp only [bk]
        rw [if_pos ⟨p, a⟩]
      · rw [cnd_t (b := ilt 100 (ilen m[j])) (decide_eq_true (by rw [ilen_eq]; omega))]
        simp only [bk]
        rw [if_neg (fun h => a h.2)]
    · rw [decide_eq_false p, cnd_t (b := bnot false) rfl]
      simp only [bk]
      rw [if_neg (fun h => p h.1)]
  · rw [cnd_f (b := ilt (j : Int) (ilen m)) (decide_eq_false (by rw [ilen_eq]; omega)), List.drop_eq_nil_of_le (by omega)]
    simp only [bk]
theorem pieces_short (s : Str) : ∀ acc : Str, ∀ w ∈ piecesL acc s, w.length ≤ acc.length + s.length := by
  induction s with
  | nil =>
    intro acc w hw
    simp [piecesL] at hw
    subst hw
    simp
  | cons c r ih =>
    intro acc w hw
    rw [pieces_cons] at hw
    split at hw
    · rcases List.mem_cons.1 hw with rfl | hw
      · simp
      · have := ih [] w hw
        simp at this ⊢
        omega
    · have := ih (acc ++ [c]) w hw
      simp at this ⊢
      omega
theorem words_short (s : Str) : ∀ w ∈ wordsL s, w.length ≤ s.length := fun w hw => by
  have := pieces_short s [] w (List.mem_filter.1 hw).1
  simpa using this
theorem back_law (s : Str) (l : List Str) (g : Nat) (hg : g ≤ 255) (hw : ∀ w ∈ l, w.length ≤ 140737488355328) : tokenBackF s l (g : Int) = some true := by
  unfold tokenBackF
  rw [tawake_ok, obind_some, cnd_f (b := bnot true) rfl]
  by_cases hs : s.length ≤ 2000
  · rw [cnd_f (b := ilt 2000 (ilen s)) (decide_eq_false (by rw [ilen_eq]; omega))]
    by_cases hl : l.length ≤ 100
    · have n1 := words_len s
      have n2 := words_short s
      have hp := words_plain s
      have j1 := join_len 2000 (wordsL s) (fun w hw => by have := n2 w hw; omega)
      have j2 : (Lib.join (wordsL s) [32]).length ≤ 2001 * 2001 := Nat.le_trans j1 (Nat.mul_le_mul (by omega) (by omega))
      rw [cnd_f (b := ilt 100 (ilen l)) (decide_eq_false (by rw [ilen_eq]; omega)), cut_eq s (by omega), obind_some, back5 l (g : Int) (wordsL s) (fun w hw => ⟨hp w hw, by have := n2 w hw; omega⟩) (by omega), obind_some]
      show obind (joinF (wordsL s)) _ = _
      rw [join_eq (wordsL s) (by omega) (by omega), obind_some, cut_eq _ (by omega), obind_some, words_join _ hp]
      show obind (sameF (wordsL s) (wordsL s)) _ = _
      rw [same_self _ (by omega), obind_some, cnd_f (b := bnot true) rfl]
      show obind (iter tokenBack.l5r13.T bigL (((l, ((g : Int), (([] : Str), (0, ())))), ()))) _ = _
      rw [back13 l g hg hl hw]
      cases hb : bk (g % 4) l [] with
      | none => rfl
      | some t =>
        obtain ⟨b1, b2, b3⟩ := bk_some (g % 4) (by omega) l [] t hb
        have c1 := join_len 100 l (fun w hw => (b1 w hw).2)
        have c2 : (Lib.join l [32]).length ≤ 100 * 101 := Nat.le_trans c1 (Nat.mul_le_mul (by omega) (by omega))
        simp only [List.length_nil] at b3
        show obind (joinF l) _ = _
        rw [join_eq l (by omega) (by omega), obind_some, cut_eq _ (by omega), obind_some, words_join l (fun w hw => (b1 w hw).1)]
        show obind (sameF l l) _ = _
        have q1 : iadd (ilen t) 1 < 1000000000000 := by rw [ilen_eq]; show (t.length : Int) + 1 < 1000000000000; omega
        rw [same_self _ (by omega), obind_some, cnd_t rfl]
        show cnd (ilt (iadd (ilen t) 1) 4611686018427387904) (obind (cutF (t ++ [32])) fun x_10 => obind (sameF x_10 l) fun x_11 => some x_11) none = _
        have e : wordsL (t ++ [32]) = l := by
          have := words_pad t 1
          rw [show List.replicate 1 (32 : UInt8) = [32] from rfl] at this
          rw [this, b2, words_nil, List.nil_append]
        rw [lt_ok q1, cut_eq _ (by rw [List.length_append]; simp; omega), obind_some, e, same_self _ (by omega)]
        rfl
    · rw [cnd_t (b := ilt 100 (ilen l)) (decide_eq_true (by rw [ilen_eq]; omega))]
      rfl
  · rw [cnd_t (b := ilt 2000 (ilen s)) (decide_eq_true (by rw [ilen_eq]; omega))]
    rfl
theorem tokenBack_ok : ∀ xs : Lf [.str, .sl .str, .int .u8], (∀ m, wfA m _ xs) → tokenBackF xs.1 xs.2.1 xs.2.2.1 = some true := by
  rintro ⟨s, l, g, _⟩ hw
  obtain ⟨_, hw⟩ := wfA_cons hw
  obtain ⟨hl, hw⟩ := wfA_cons hw
  obtain ⟨hg, _⟩ := wfA_cons hw
  obtain ⟨g0, g1⟩ : (0 : Int) ≤ g ∧ g ≤ (255 : Int) := wf_u8 hg
  have key : ∀ g : Int, 0 ≤ g → g ≤ 255 → tokenBackF s l g = some true := by
    intro g g0 g1
    obtain ⟨x, rfl⟩ := Int.eq_ofNat_of_zero_le g0
    exact back_law s l x (by omega) (fun w hw => by
      have := wf_str (wf_mem hl hw)
      omega)
  exact key g g0 g1
end Go.Sx
