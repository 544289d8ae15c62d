/-
  The laws of versions, in plain words: what is kept, what many ups come to.
-/
import Derived.Test.YtolhcodhgegaaaaSxPr1
set_option linter.unusedVariables false
set_option linter.unusedSimpArgs false
namespace Go.Sx
open Go
theorem may_true {l : List Int} (h : ¬ ((∀ n ∈ l, okVer n) ∧ l.length ≤ 100)) : decide ((∀ n ∈ l, okVer n) ∧ l.length ≤ 100) = false := decide_eq_false h
theorem verKeeps_loop (l w v : List Int) (hv : v.length ≤ 1000000) : iter verKeeps.l5r7.T bigL (((l, (0, ())), (w, (v, ())))) = some ((l, ()), (w, ())) := by
  rw [iter_big (fun x => (x.2.2.1.length - x.1.2.1).toNat) (fun x => 0 ≤ x.1.2.1 ∧ x.2.2.1.length ≤ 1000000) (fun x => some ((x.1.1, ()), (x.2.1, ()))) ?_ ⟨Int.le_refl _, hv⟩ (by simp; omega)]
  rintro ⟨⟨m, i, _⟩, q, r, _⟩ rec ⟨h1, h2⟩ hr
  simp only at h1 h2 ⊢
  unfold verKeeps.l5r7.T
  by_cases hi : i < r.length
  · have hw : wrap .i64 (i + 1) = i + 1 := wrap_in (by omega) (by omega)
    have hn := hr ((m, i + 1, ()), q, r.set i.toNat 77, ()) ⟨by simp; omega, by simp; omega⟩ (by simp; omega)
    simp [hi, h1, lget_ints h1 hi, hw, hn]
  · simp [hi]
theorem verKeeps_true (l : List Int) (p : Int) (hl : l.length ≤ 1000000000000000000) : verKeepsF l p = some true := by
  unfold verKeepsF
  simp only [vawake_spec, rmay_spec l hl, obind, Option.bind_some, bnot, Bool.not_true, cnd, cond_false, cond_true]
  by_cases hm : (∀ n ∈ l, okVer n) ∧ l.length ≤ 100
  · have h100 : l.length ≤ 100 := hm.2
    rw [copy_same]
    simp only [decide_eq_true hm, Bool.not_true, cond_false]
    have e1 : (0 + (l.length : Int)) * 8 < 140737488355329 := by omega
    have e2 : (l.length : Int) * 8 < 281474976710657 := by omega
    have e3 := ints_spec l l (by omega)
    by_cases h0 : 0 ≤ p
    · by_cases h1 : p < l.length
      · simp [e1, e2, h0, h1, e3, lget_ints h0 h1, verKeeps_loop l l _ (show (l.set p.toNat (wrap .i64 (gi l p + 1))).length ≤ 1000000 by simp; omega), show (l.length : Int) * 8 < 140737488355329 by omega]
      · simp [e1, e2, h0, h1, e3, show (l.length : Int) * 8 < 140737488355329 by omega]
    · simp [e1, e2, h0, e3, show (l.length : Int) * 8 < 140737488355329 by omega]
  · simp [may_true hm]
theorem verKeeps_ok (xs : Lf [.sl (.int .i64), .int .i64]) (h : ∀ m, wfA m _ xs) : verKeepsF xs.1 xs.2.1 = some true := by
  obtain ⟨h1, h⟩ := wfA_cons h
  exact verKeeps_true _ _ (by have := wf_len64 h1; omega)

/-! Many ups. -/
def upL (a : List Int) (p : Int) : List Int := if isAt a p then a.set p.toNat (wrap .i64 (gi a p + 1)) else a
theorem upL_len (a : List Int) (p : Int) : (upL a p).length = a.length := by unfold upL; split <;> simp
theorem upF_upL (a : List Int) (p : Int) (h : a.length ≤ 1000000) : upF a p = some (upL a p, decide (isAt a p)) := by
  rw [up_spec a p h]
  unfold upL
  by_cases h : isAt a p <;> simp [h]
def bnd (a : List Int) (M : Int) : Prop := ∀ n ∈ a, 0 ≤ n ∧ n ≤ M
theorem bnd_gi {a : List Int} {M : Int} (h : bnd a M) {q : Int} (hq : isAt a q) : 0 ≤ gi a q ∧ gi a q ≤ M := h _ (gi_mem hq.1 hq.2)
theorem gi_upL {a : List Int} {M p q : Int} (h : bnd a M) (hM : M < 9000000000000000000) (hq : isAt a q) : gi (upL a p) q = gi a q + if q = p then 1 else 0 := by
  unfold upL
  by_cases hp : isAt a p
  · rw [if_pos hp, gi_set hp.1 hq.1 hp.2]
    have := bnd_gi h hp
    by_cases e : q = p
    · subst e; rw [if_pos rfl, if_pos rfl, wrap_in (by omega) (by omega)]
    · rw [if_neg e, if_neg e]; omega
  · rw [if_neg hp, if_neg (show ¬ q = p from fun e => hp (by rw [← e]; exact hq))]; omega
theorem bnd_upL {a : List Int} {M p : Int} (h : bnd a M) (hM : M < 9000000000000000000) : bnd (upL a p) (M + 1) := by
  intro n hn
  unfold upL at hn
  split at hn
  · rename_i hp
    have := bnd_gi h hp
    rcases List.mem_or_eq_of_mem_set hn with h1 | h1
    · have := h n h1; omega
    · rw [wrap_in (by omega) (by omega)] at h1; omega
  · have := h n hn; omega
def upAll (a : List Int) (ps : List Int) : List Int := ps.foldl upL a
theorem upAll_len : ∀ (ps : List Int) (a : List Int), (upAll a ps).length = a.length
  | [], _ => rfl
  | p :: ps, a => (upAll_len ps (upL a p)).trans (upL_len a p)
theorem isAt_upL {a : List Int} {p q : Int} : isAt (upL a p) q ↔ isAt a q := by unfold isAt; rw [upL_len]
theorem isAt_upAll {a ps : List Int} {q : Int} : isAt (upAll a ps) q ↔ isAt a q := by unfold isAt; rw [upAll_len]
theorem bnd_upAll : ∀ (ps : List Int) {a : List Int} {M : Int}, bnd a M → M + ps.length < 9000000000000000000 → bnd (upAll a ps) (M + ps.length)
  | [], _, _, h, _ => by simpa [upAll] using h
  | p :: ps, a, M, h, hM => by
    simp only [List.length_cons] at hM ⊢
    have := bnd_upAll ps (bnd_upL (p := p) h (by omega)) (by omega)
    rw [show M + ((ps.length + 1 : Nat) : Int) = M + 1 + ps.length by omega]
    exact this
theorem gi_upAll : ∀ (ps : List Int) {a : List Int} {M q : Int}, bnd a M → M + ps.length < 9000000000000000000 → isAt a q → gi (upAll a ps) q = gi a q + ps.count q
  | [], _, _, _, _, _, _ => by simp [upAll]
  | p :: ps, a, M, q, h, hM, hq => by
    simp only [List.length_cons] at hM
    have := gi_upAll ps (bnd_upL (p := p) h (by omega)) (by omega) (isAt_upL.2 hq)
    show gi (upAll (upL a p) ps) q = _
    rw [this, gi_upL h (by omega) hq, List.count_cons]
    by_cases e : q = p
    · subst e; simp; omega
    · have : (p == q) = false := by simpa using fun h => e h.symm
      simp [e, this]
theorem upAll_snoc (a ps : List Int) (p : Int) : upAll a (ps ++ [p]) = upL (upAll a ps) p := by simp [upAll]
theorem take_snoc {l : List Int} {i : Int} (h0 : 0 ≤ i) (h : i < l.length) : l.take (i + 1).toNat = l.take i.toNat ++ [gi l i] := by
  rw [show (i + 1).toNat = i.toNat + 1 by omega, List.take_succ_eq_append_getElem (by omega)]
  simp [gi, List.getD, List.getElem?_eq_getElem (show i.toNat < l.length by omega)]
theorem take_all {l : List Int} {i : Int} (h : ¬ i < l.length) : l.take i.toNat = l := List.take_of_length_le (by omega)
/-! The sum of versions. -/
def sumL : List Int → Int
  | [] => 0
  | n :: r => n + sumL r
theorem sumL_set : ∀ (l : List Int) (p : Nat) (n : Int), p < l.length → sumL (l.set p n) = sumL l - l.getD p 0 + n
  | [], _, _, h => by simp at h
  | a :: r, 0, n, _ => by simp [sumL]; omega
  | a :: r, p + 1, n, h => by
    have := sumL_set r p n (by simpa using h)
    simp only [List.set_cons_succ, sumL, this, List.getD_cons_succ]
    omega
theorem sumL_upL {a : List Int} {M p : Int} (h : bnd a M) (hM : M < 9000000000000000000) : sumL (upL a p) = sumL a + if isAt a p then 1 else 0 := by
  unfold upL
  by_cases hp : isAt a p
  · have hb := bnd_gi h hp
    rw [if_pos hp, if_pos hp, sumL_set _ _ _ (by have := hp.1; have := hp.2; omega), wrap_in (by omega) (by omega)]
    show sumL a - gi a p + (gi a p + 1) = _
    omega
  · rw [if_neg hp, if_neg hp]; omega
/-- How many of these places there are. -/
def many (l : List Int) : List Int → Int
  | [] => 0
  | p :: r => (if isAt l p then 1 else 0) + many l r
theorem many_snoc (l : List Int) (p : Int) : ∀ r, many l (r ++ [p]) = many l r + if isAt l p then 1 else 0
  | [] => by simp [many]
  | a :: r => by
    simp only [List.cons_append, many, many_snoc l p r]
    omega
theorem many_len (l : List Int) : ∀ r, 0 ≤ many l r ∧ many l r ≤ r.length
  | [] => by simp [many]
  | a :: r => by
    have := many_len l r
    simp only [many, List.length_cons]
    split <;> omega
theorem many_congr {l m : List Int} (h : l.length = m.length) : ∀ r, many l r = many m r
  | [] => rfl
  | a :: r => by
    have e : isAt l a ↔ isAt m a := by unfold isAt; rw [h]
    simp only [many, many_congr h r, e]
theorem sumL_upAll : ∀ (ps : List Int) {a : List Int} {M : Int}, bnd a M → M + ps.length < 9000000000000000000 → sumL (upAll a ps) = sumL a + many a ps
  | [], _, _, _, _ => by simp [upAll, many]
  | p :: ps, a, M, h, hM => by
    simp only [List.length_cons] at hM
    have := sumL_upAll ps (bnd_upL (p := p) h (by omega)) (by omega)
    show sumL (upAll (upL a p) ps) = _
    rw [this, sumL_upL h (by omega), many_congr (upL_len a p)]
    simp only [many]
    omega
theorem list_gi {a b : List Int} (hl : a.length = b.length) (h : ∀ q, isAt a q → gi a q = gi b q) : a = b := by
  apply List.ext_getElem hl
  intro i h1 h2
  have := h i ⟨by omega, by omega⟩
  simpa [gi, List.getD, List.getElem?_eq_getElem h1, List.getElem?_eq_getElem h2] using this
/-- Numbers turned round. -/
def rot (u : List Int) (t : Nat) : List Int := u.drop (t % u.length) ++ u.take (t % u.length)
theorem rot_len (u : List Int) (t : Nat) : (rot u t).length = u.length := by
  unfold rot
  simp
  omega
theorem rot_count (u : List Int) (t : Nat) (q : Int) : (rot u t).count q = u.count q := by
  unfold rot
  rw [List.count_append, Nat.add_comm, ← List.count_append, List.take_append_drop]
theorem rot_gi (u : List Int) (t : Nat) {i : Int} (h0 : 0 ≤ i) (h : i < u.length) : gi (rot u t) i = gi u ((i + t) % u.length) := by
  have hpos : 0 < u.length := by omega
  have hm : t % u.length < u.length := Nat.mod_lt _ hpos
  obtain ⟨n, rfl⟩ : ∃ n : Nat, i = n := ⟨i.toNat, by omega⟩
  have hn : n < u.length := by omega
  have e : ((n : Int) + t) % u.length = (((n + t) % u.length : Nat) : Int) := by simp
  rw [e]
  unfold gi rot
  simp only [Int.toNat_natCast, List.getD_eq_getElem?_getD, List.getElem?_append, List.length_drop, List.getElem?_drop, List.getElem?_take]
  by_cases hc : n < u.length - t % u.length
  · rw [if_pos hc]
    have : (n + t) % u.length = t % u.length + n := by
      rw [Nat.add_mod, Nat.mod_eq_of_lt hn, Nat.mod_eq_of_lt (by omega)]; omega
    rw [this]
  · rw [if_neg hc, if_pos (by omega)]
    have : (n + t) % u.length = n - (u.length - t % u.length) := by
      rw [Nat.add_mod, Nat.mod_eq_of_lt hn, Nat.mod_eq_sub_mod (by omega), Nat.mod_eq_of_lt (by omega)]; omega
    rw [this]
def less1 (u : List Int) : List Int := u.map (· - 1)
theorem less1_take (u : List Int) (n : Nat) : less1 (u.take n) = (less1 u).take n := by simp [less1, List.map_take]
theorem less1_snoc (u : List Int) (n : Int) : less1 (u ++ [n]) = less1 u ++ [n - 1] := by simp [less1]
theorem verSum_loop1 (l u : List Int) (t : Int) (hb : bnd l 1099511627776) (hl : l.length ≤ 100) (hu : u.length ≤ 100) (hu8 : ∀ n ∈ u, 0 ≤ n ∧ n ≤ 255) (ht : 0 ≤ t ∧ t ≤ 255) :
    iter verSum.l6r7.T bigL (((l, (u, (t, (l, (l, (0, (0, ()))))))), ())) = some (.inr ((l, (upAll l (less1 u), (upAll l (less1 (rot u t.toNat)), (many l (less1 u), ())))), ())) := by
  rw [iter_big (fun x => (x.1.2.1.length - x.1.2.2.2.2.2.2.1).toNat)
    (fun x => x.1.1 = l ∧ x.1.2.1 = u ∧ x.1.2.2.1 = t ∧ 0 ≤ x.1.2.2.2.2.2.2.1 ∧ x.1.2.2.2.2.2.2.1 ≤ (u.length : Int) ∧ x.1.2.2.2.1 = upAll l (less1 (u.take x.1.2.2.2.2.2.2.1.toNat)) ∧ x.1.2.2.2.2.1 = upAll l (less1 ((rot u t.toNat).take x.1.2.2.2.2.2.2.1.toNat)) ∧ x.1.2.2.2.2.2.1 = many l (less1 (u.take x.1.2.2.2.2.2.2.1.toNat)))
    (fun _ => some (.inr ((l, (upAll l (less1 u), (upAll l (less1 (rot u t.toNat)), (many l (less1 u), ())))), ()))) ?_ ⟨rfl, rfl, rfl, Int.le_refl _, by simp, by simp [upAll, less1], by simp [upAll, less1], by simp [many, less1]⟩ (by simp; omega)]
  rintro ⟨⟨l', u', t', a, b, k, i, _⟩, _⟩ rec ⟨e1, e2, e3, h1, h2, ha, hbb, hk⟩ hr
  simp only at e1 e2 e3 h1 h2 ha hbb hk
  subst e1 e2 e3
  unfold verSum.l6r7.T
  by_cases hi : i < u'.length
  · have hw : wrap .i64 (i + 1) = i + 1 := wrap_in (by omega) (by omega)
    have hx := hu8 _ (gi_mem h1 hi)
    have hj : isAt u' ((i + t') % u'.length) := ⟨Int.emod_nonneg _ (by omega), Int.emod_lt_of_pos _ (by omega)⟩
    have hy := hu8 _ (gi_mem hj.1 hj.2)
    have hidx : (wrap .i64 (i + wrap .i64 t')).tmod u'.length = (i + t') % u'.length := by
      rw [wrap_in (n := t') (by omega) (by omega), wrap_in (by omega) (by omega), Int.tmod_eq_emod_of_nonneg (by omega)]
    have hla : a.length = l'.length := by rw [ha, upAll_len]
    have hlb : b.length = l'.length := by rw [hbb, upAll_len]
    have hxw : wrap .i64 (wrap .i64 (gi u' i) - 1) = gi u' i - 1 := by rw [wrap_in (n := gi u' i) (by omega) (by omega), wrap_in (by omega) (by omega)]
    have hyw : wrap .i64 (wrap .i64 (gi u' ((i + t') % u'.length)) - 1) = gi u' ((i + t') % u'.length) - 1 := by rw [wrap_in (n := gi u' _) (by omega) (by omega), wrap_in (by omega) (by omega)]
    have hrl : (rot u' t'.toNat).length = u'.length := rot_len _ _
    have hrg := rot_gi u' t'.toNat h1 hi
    have ht2 : ((t'.toNat : Nat) : Int) = t' := by omega
    rw [ht2] at hrg
    have hka := many_len l' (less1 (u'.take i.toNat))
    have hkl : (less1 (u'.take i.toNat)).length ≤ 100 := by simp [less1]; omega
    have hn := hr ((l', u', t', upL a (gi u' i - 1), upL b (gi u' ((i + t') % u'.length) - 1), k + (if isAt l' (gi u' i - 1) then 1 else 0), i + 1, ()), ())
      ⟨rfl, rfl, rfl, by simp; omega, by simp; omega, by simp only; rw [take_snoc h1 hi, less1_snoc, upAll_snoc, ha], by simp only; rw [take_snoc h1 (by omega), less1_snoc, upAll_snoc, hbb, hrg], by simp only; rw [take_snoc h1 hi, less1_snoc, many_snoc, hk]⟩ (by simp; omega)
    have hisa : isAt a (gi u' i - 1) ↔ isAt l' (gi u' i - 1) := by unfold isAt; rw [hla]
    have hkw : wrap .i64 (k + 1) = k + 1 := wrap_in (by omega) (by omega)
    have hxle : wrap .i64 (gi u' i) = gi u' i := wrap_in (by omega) (by omega)
    have hne : ¬ u' = [] := by intro e; rw [e] at hi; simp at hi; omega
    simp only [lget_ints h1 hi, hidx, lget_ints hj.1 hj.2, upF_upL _ _ (show a.length ≤ 1000000 by omega), upF_upL _ _ (show b.length ≤ 1000000 by omega), hxw, hyw, obind, Option.bind_some, irem, iadd, isub, ilen_eq]
    by_cases hp : isAt l' (gi u' i - 1)
    · have q1 : 0 < gi u' i := by have := hp.1; omega
      have q2 : gi u' i ≤ l'.length := by have := hp.2; omega
      rw [if_pos hp] at hn
      by_cases hq : isAt b (gi u' ((i + t') % u'.length) - 1) <;> simp [hi, hisa, hp, q1, q2, hxle, upL_len, hla, hlb, hq, hkw, hw, hn, hne]
    · rw [if_neg hp] at hn
      simp only [Int.add_zero] at hn
      by_cases q1 : 0 < gi u' i
      · have q2 : ¬ gi u' i ≤ l'.length := fun h => hp ⟨by omega, by omega⟩
        by_cases hq : isAt b (gi u' ((i + t') % u'.length) - 1) <;> simp [hi, hisa, hp, q1, q2, hxle, upL_len, hla, hlb, hq, hkw, hw, hn, hne]
      · by_cases hq : isAt b (gi u' ((i + t') % u'.length) - 1) <;> simp [hi, hisa, hp, q1, hxle, upL_len, hla, hlb, hq, hkw, hw, hn, hne]
  · have e : i = u'.length := by omega
    rw [take_all (by omega)] at ha hk
    rw [take_all (by rw [rot_len]; omega)] at hbb
    simp [hi, ha, hbb, hk]
theorem sumL_split {l : List Int} {i : Int} (h0 : 0 ≤ i) (h : i < l.length) : sumL (l.take (i + 1).toNat) = sumL (l.take i.toNat) + gi l i := by
  rw [take_snoc h0 h]
  have : ∀ (r : List Int) (n : Int), sumL (r ++ [n]) = sumL r + n := by
    intro r n
    induction r with
    | nil => simp [sumL]
    | cons a r ih => simp only [List.cons_append, sumL, ih]; omega
  rw [this]
theorem sumL_bound {M : Int} (hM : 0 ≤ M) : ∀ (l : List Int), bnd l M → 0 ≤ sumL l ∧ sumL l ≤ l.length * M
  | [], _ => by simp [sumL]
  | a :: r, h => by
    have h1 := sumL_bound hM r fun n hn => h n (by simp [hn])
    have h2 := h a (by simp)
    simp only [sumL, List.length_cons]
    have : ((r.length + 1 : Nat) : Int) * M = r.length * M + M := by rw [Int.natCast_add, Int.add_mul]; simp
    omega
theorem verSum_loop2 (l a b : List Int) (k : Int) (hla : a.length = l.length) (hl : l.length ≤ 100) (hb : bnd l 1099511627776) (ha : bnd a 2000000000000) (hge : ∀ q, isAt l q → gi l q ≤ gi a q) :
    iter verSum.l6r19.T bigL (((l, (a, (b, (k, (0, (0, ())))))), ())) = some (.inr ((a, (b, (k, (sumL a - sumL l, ())))), ())) := by
  rw [iter_big (fun x => (x.1.1.length - x.1.2.2.2.2.2.1).toNat)
    (fun x => x.1.1 = l ∧ x.1.2.1 = a ∧ x.1.2.2.1 = b ∧ x.1.2.2.2.1 = k ∧ 0 ≤ x.1.2.2.2.2.2.1 ∧ x.1.2.2.2.2.2.1 ≤ (l.length : Int) ∧ x.1.2.2.2.2.1 = sumL (a.take x.1.2.2.2.2.2.1.toNat) - sumL (l.take x.1.2.2.2.2.2.1.toNat))
    (fun _ => some (.inr ((a, (b, (k, (sumL a - sumL l, ())))), ()))) ?_ ⟨rfl, rfl, rfl, rfl, Int.le_refl _, by simp, by simp [sumL]⟩ (by simp; omega)]
  rintro ⟨⟨l', a', b', k', sm, i, _⟩, _⟩ rec ⟨e1, e2, e3, e4, h1, h2, hs⟩ hr
  simp only at e1 e2 e3 e4 h1 h2 hs
  subst e1 e2 e3 e4
  unfold verSum.l6r19.T
  by_cases hi : i < l'.length
  · have hw : wrap .i64 (i + 1) = i + 1 := wrap_in (by omega) (by omega)
    have hg := hge i ⟨h1, hi⟩
    have b1 := bnd_gi hb ⟨h1, hi⟩
    have b2 := bnd_gi ha ⟨h1, by omega⟩
    have t1 := sumL_bound (by omega) (l'.take i.toNat) fun n hn => hb n (List.mem_of_mem_take hn)
    have t2 := sumL_bound (by omega) (a'.take i.toNat) fun n hn => ha n (List.mem_of_mem_take hn)
    have t3 : ((l'.take i.toNat).length : Int) ≤ 100 := by simp; omega
    have t4 : ((a'.take i.toNat).length : Int) ≤ 100 := by simp; omega
    have w1 : wrap .i64 (sm + gi a' i) = sm + gi a' i := wrap_in (by omega) (by omega)
    have w2 : wrap .i64 (sm + gi a' i - gi l' i) = sm + gi a' i - gi l' i := wrap_in (by omega) (by omega)
    have hn := hr ((l', a', b', k', sm + gi a' i - gi l' i, i + 1, ()), ()) ⟨rfl, rfl, rfl, rfl, by simp; omega, by simp; omega, by
      simp only
      rw [sumL_split h1 hi, sumL_split h1 (by omega)]
      omega⟩ (by simp; omega)
    simp [hi, lget_ints h1 hi, lget_ints (l := a') h1 (by omega), show ¬ gi a' i < gi l' i by omega, w1, w2, hw, hn]
  · rw [take_all (by omega), take_all hi] at hs
    simp [hi, hs]
theorem verSum_true (l u : List Int) (t : Int) (hl : l.length ≤ 1000000000000000000) (hu8 : ∀ n ∈ u, 0 ≤ n ∧ n ≤ 255) (ht : 0 ≤ t ∧ t ≤ 255) : verSumF l u t = some true := by
  unfold verSumF
  simp only [vawake_spec, rmay_spec l hl, obind, Option.bind_some, bnot, Bool.not_true, cnd, cond_false, cond_true]
  by_cases hm : (∀ n ∈ l, okVer n) ∧ l.length ≤ 100
  · by_cases hu : u.length ≤ 100
    · have hb : bnd l 1099511627776 := hm.1
      have hl1 : (less1 u).length = u.length := by simp [less1]
      have hl2 : (less1 (rot u t.toNat)).length = u.length := by simp [less1, rot_len]
      have ha := bnd_upAll (less1 u) hb (by omega)
      have ha' : bnd (upAll l (less1 u)) 2000000000000 := fun n hn => by have := ha n hn; omega
      have hla := upAll_len (less1 u) l
      have hge : ∀ q, isAt l q → gi l q ≤ gi (upAll l (less1 u)) q := fun q hq => by rw [gi_upAll (less1 u) hb (by omega) hq]; omega
      have hs := sumL_upAll (less1 u) hb (by omega)
      have hc : ∀ q, (less1 (rot u t.toNat)).count q = (less1 u).count q := fun q => by
        unfold less1 rot
        rw [List.map_append, List.count_append, Nat.add_comm, ← List.count_append, ← List.map_append, List.take_append_drop]
      have hab : upAll l (less1 u) = upAll l (less1 (rot u t.toNat)) := list_gi (by rw [upAll_len, upAll_len]) fun q hq => by
        have hq' := isAt_upAll.1 hq
        rw [gi_upAll _ hb (by omega) hq', gi_upAll _ hb (by omega) hq', hc]
      simp only [decide_eq_true hm, Bool.not_true, cond_false, ilt, ilen_eq, decide_eq_false (show ¬ (100 : Int) < u.length by omega), verSum_loop1 l u t hb hm.2 hu hu8 ht, Option.bind_some, scase, verSum_loop2 l _ _ _ hla hm.2 hb ha' hge]
      simp [ints_spec _ _ (show (upAll l (less1 u)).length ≤ 1000000000 by omega), hab.symm, hs, ieq]
      omega
    · simp [decide_eq_true hm, show (100 : Int) < u.length by omega]
  · simp [may_true hm]
theorem verSum_ok (xs : Lf [.sl (.int .i64), .sl (.int .u8), .int .u8]) (h : ∀ m, wfA m _ xs) : verSumF xs.1 xs.2.1 xs.2.2.1 = some true := by
  obtain ⟨h1, h⟩ := wfA_cons h
  obtain ⟨h2, h⟩ := wfA_cons h
  obtain ⟨h3, h⟩ := wfA_cons h
  exact verSum_true _ _ _ (by have := wf_len64 h1; omega) (fun n hn => wf_u8 (wf_mem h2 hn)) (wf_u8 h3)
end Go.Sx
