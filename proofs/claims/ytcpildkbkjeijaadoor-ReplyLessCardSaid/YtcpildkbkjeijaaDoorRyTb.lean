/-
  Commands: the plain laws.
-/
import Derived.Test.YtcpildkbkjeijaaDoorRyM
import Derived.Test.YtcpildkbkjeijaaDoorSyTa
set_option linter.unusedVariables false
set_option linter.unusedSimpArgs false
namespace Go.Sx
open Go Go.Proofs
open Go.Lib (decDigits nDigits)
/-! Places in a row. -/
def fi : List Str → Str → Int → Option Int
  | [], _, _ => none
  | a :: r, s, k => if s = a then some k else fi r s (k + 1)
theorem fi_ge : ∀ (l : List Str) (s : Str) (k j : Int), fi l s k = some j → k ≤ j
  | [], _, _, _, h => by simp [fi] at h
  | a :: r, s, k, j, h => by
    unfold fi at h
    split at h
    · simp at h; omega
    · have := fi_ge r s _ _ h; omega
theorem sindex_eq (l : List Str) (s : Str) (hl : l.length ≤ 1000000000) : sindexF l s = some ((fi l s 0).getD (-1)) := by
  unfold sindexF
  rw [iter_big (fun x => (x.1.1.length - x.1.2.2.2.1).toNat) (fun x => (0 : Int) ≤ x.1.2.2.2.1 ∧ x.1.1.length ≤ 1000000000 ∧ x.1.2.2.1 = (x.1.1.length : Int))
    (fun x => match fi (x.1.1.drop (x.1.2.2.2.1 : Int).toNat) x.1.2.1 x.1.2.2.2.1 with
      | some k => some (.inl ((k, ()), ()))
      | none => some (.inr ((), ()))) ?_ ⟨Int.le_refl _, hl, ilen_eq _⟩ (by simp; omega)]
  · simp only [Int.toNat_zero, List.drop_zero]
    cases fi l s 0 <;> simp
  · rintro ⟨⟨m, s, n, i, _⟩, _⟩ rec ⟨h0, h1, h2⟩ hr
    simp only at h0 h1 h2 ⊢
    subst h2
    unfold sindex.lr2.T
    by_cases hi : i < m.length
    · have hw : wrap .i64 (i + 1) = i + 1 := wrap_in (by omega) (by omega)
      have hn := hr ((m, s, (m.length : Int), i + 1, ()), ()) ⟨by show (0 : Int) ≤ i + 1; omega, h1, rfl⟩ (by simp; omega)
      have hb : i.toNat < m.length := by omega
      simp only [lget_in h0 hi]
      rw [List.drop_eq_getElem_cons hb, show i.toNat + 1 = (i + 1).toNat by omega, fi]
      by_cases e : s = m[i.toNat]
      · simp [hi, e]
      · simp [hi, e, hw, hn]
    · rw [drop_end hi]
      simp [hi, fi]
/-! Names. -/
def kindsL : List Str := [[], [109, 111, 118, 101], [112, 117, 115, 104], [103, 101, 116], [100, 114, 111, 112], [112, 117, 116], [116, 97, 107, 101], [103, 105, 118, 101], [116, 114, 97, 100, 101], [108, 111, 111, 107], [111, 119, 110]]
def waysL : List Str := [[110, 111, 114, 116, 104], [101, 97, 115, 116], [115, 111, 117, 116, 104], [119, 101, 115, 116]]
def nameP (k : Int) : Str := if 1 ≤ k ∧ k ≤ 10 then kindsL.getD k.toNat [] else []
def wayP (d : Int) : Str := if 0 ≤ d ∧ d ≤ 3 then waysL.getD d.toNat [] else []
def kindP (s : Str) : Int × Bool := match fi kindsL.tail s 1 with
  | some k => (k, true)
  | none => (0, false)
def dirP (s : Str) : Int × Bool := match fi waysL s 0 with
  | some k => (k, true)
  | none => (0, false)
theorem ten {k : Int} (h : 1 ≤ k) (h' : k ≤ 10) : k = 1 ∨ k = 2 ∨ k = 3 ∨ k = 4 ∨ k = 5 ∨ k = 6 ∨ k = 7 ∨ k = 8 ∨ k = 9 ∨ k = 10 := by omega
theorem four {k : Int} (h : 0 ≤ k) (h' : k ≤ 3) : k = 0 ∨ k = 1 ∨ k = 2 ∨ k = 3 := by omega
theorem name_no {k : Int} (h : ¬ (1 ≤ k ∧ k ≤ 10)) : nameP k = [] := if_neg h
theorem way_no {k : Int} (h : ¬ (0 ≤ k ∧ k ≤ 3)) : wayP k = [] := if_neg h
theorem cname_eq (k : Int) : cnameF k = some (nameP k) := by
  unfold cnameF
  by_cases h : 1 ≤ k ∧ k ≤ 10
  · obtain rfl | rfl | rfl | rfl | rfl | rfl | rfl | rfl | rfl | rfl := ten h.1 h.2 <;> rfl
  · rw [name_no h]
    by_cases h1 : k < 0
    · rw [cnd_t (b := ilt k 0) (decide_eq_true h1)]
    · rw [cnd_f (b := ilt k 0) (decide_eq_false h1)]
      by_cases h2 : 11 ≤ k
      · rw [cnd_t (b := ile 11 k) (decide_eq_true h2)]
      · obtain rfl : k = 0 := by omega
        rfl
theorem r3name_eq (k : Int) : r3nameF k = some (nameP k) := by
  unfold r3nameF
  by_cases h : 1 ≤ k ∧ k ≤ 10
  · obtain rfl | rfl | rfl | rfl | rfl | rfl | rfl | rfl | rfl | rfl := ten h.1 h.2 <;> rfl
  · rw [name_no h]
    by_cases h1 : k < 1
    · rw [cnd_t (b := ilt k 1) (decide_eq_true h1)]
    · rw [cnd_f (b := ilt k 1) (decide_eq_false h1), cnd_t (b := ilt 10 k) (decide_eq_true (by omega))]
theorem ckind_eq (s : Str) : ckindF s = some (kindP s) := by
  unfold ckindF
  show obind (sindexF kindsL s) _ = _
  rw [sindex_eq kindsL s (by decide), obind_some]
  unfold kindP
  have e : fi kindsL s 0 = if s = [] then some 0 else fi kindsL.tail s 1 := rfl
  rw [e]
  by_cases z : s = []
  · subst z; rfl
  · rw [if_neg z, cnd_f (b := seq s []) (decide_eq_false z)]
    cases hf : fi kindsL.tail s 1 with
    | none => rfl
    | some k =>
      have := fi_ge _ _ _ _ hf
      show cnd (ilt k 0) _ _ = _
      rw [cnd_f (b := ilt k 0) (decide_eq_false (by omega))]
      rfl
theorem kinds_step {i : Int} (h0 : 1 ≤ i) (h1 : i ≤ 10) : kindsL.drop i.toNat = nameP i :: kindsL.drop (i + 1).toNat := by
  obtain rfl | rfl | rfl | rfl | rfl | rfl | rfl | rfl | rfl | rfl := ten h0 h1 <;> rfl
theorem ways_step {i : Int} (h0 : 0 ≤ i) (h1 : i ≤ 3) : waysL.drop i.toNat = wayP i :: waysL.drop (i + 1).toNat := by
  obtain rfl | rfl | rfl | rfl := four h0 h1 <;> rfl
theorem r3kind_eq (s : Str) : r3kindF s = some (kindP s) := by
  unfold r3kindF
  rw [iter_big (fun x => (11 - x.1.2.1 : Int).toNat) (fun x => (1 : Int) ≤ x.1.2.1 ∧ (x.1.2.1 : Int) ≤ 11)
    (fun x => match fi (kindsL.drop (x.1.2.1 : Int).toNat) x.1.1 x.1.2.1 with
      | some k => some (.inl ((k, true, ()), ()))
      | none => some (.inr ((), ()))) ?_ ⟨Int.le_refl 1, (by decide : (1 : Int) ≤ 11)⟩ (by simp)]
  · unfold kindP
    simp only [show ((1 : Int)).toNat = 1 from rfl, show kindsL.drop 1 = kindsL.tail from rfl]
    cases fi kindsL.tail s 1 <;> rfl
  · rintro ⟨⟨s, i, _⟩, _⟩ rec ⟨h0, h1⟩ hr
    simp only at h0 h1 ⊢
    unfold r3kind.lr2.T
    by_cases hi : i ≤ 10
    · have hn := hr ((s, i + 1, ()), ()) ⟨by show (1 : Int) ≤ i + 1; omega, by show i + 1 ≤ (11 : Int); omega⟩ (by simp; omega)
      have hw : wrap .i64 (iadd i 1) = i + 1 := wrap_in (n := i + 1) (by omega) (by omega)
      rw [cnd_t (b := ile i 10) (decide_eq_true hi), r3name_eq, obind_some]
      simp only
      rw [hw, hn, kinds_step h0 hi, fi]
      by_cases e : s = nameP i
      · rw [if_pos e, cnd_t (b := seq (nameP i) s) (decide_eq_true e.symm)]
      · rw [if_neg e, cnd_f (b := seq (nameP i) s) (decide_eq_false (fun h => e h.symm))]
    · obtain rfl : i = 11 := by omega
      rfl
/-! Numbers alike. -/
theorem iequal_eq (a b : List Int) (ha : a.length ≤ 1000000000) : iequalF a b = some (decide (a = b)) := by
  unfold iequalF
  by_cases hl : a.length = b.length
  · rw [iter_big (fun x => (x.1.1.length - x.1.2.2.2.1).toNat) (fun x => (0 : Int) ≤ x.1.2.2.2.1 ∧ x.1.1.length ≤ 1000000000 ∧ x.1.1.length = x.1.2.1.length ∧ x.1.2.2.1 = (x.1.1.length : Int))
      (fun x => if x.1.1.drop (x.1.2.2.2.1 : Int).toNat = x.1.2.1.drop (x.1.2.2.2.1 : Int).toNat then some (.inr ((), ())) else some (.inl ((false, ()), ()))) ?_ ⟨Int.le_refl _, ha, hl, ilen_eq _⟩ (by simp; omega)]
    · by_cases h : a = b
      · simp [h]
      · simp [hl, h]
    · rintro ⟨⟨m, k, n, i, _⟩, _⟩ rec ⟨h0, h1, h2, h3⟩ hr
      simp only at h0 h1 h2 h3 ⊢
      subst h3
      unfold iequal.lr4.T
      by_cases hi : i < m.length
      · have hw : wrap .i64 (i + 1) = i + 1 := wrap_in (by omega) (by omega)
        have hn := hr ((m, k, (m.length : Int), i + 1, ()), ()) ⟨by show (0 : Int) ≤ i + 1; omega, h1, h2, rfl⟩ (by simp; omega)
        have hi' : i < k.length := by omega
        have hb : i.toNat < m.length := by omega
        have hb' : i.toNat < k.length := by omega
        simp only [lget_in h0 hi, lget_in h0 hi']
        rw [List.drop_eq_getElem_cons hb, List.drop_eq_getElem_cons hb', show i.toNat + 1 = (i + 1).toNat by omega]
        by_cases e : m[i.toNat] = k[i.toNat]
        · simp [hi, e, hw, hn]
        · simp [hi, e]
      · rw [drop_end hi, drop_end (l := k) (by omega)]
        simp [hi]
  · have h : a ≠ b := fun e => hl (by rw [e])
    rw [cnd_t (b := bnot (ieq (ilen a) (ilen b))) (by simp; omega), decide_eq_false h]
theorem r3ints_eq (a b : List Int) (ha : a.length ≤ 1000000000) : r3intsF a b = some (decide (a = b)) := by
  unfold r3intsF
  by_cases hl : a.length = b.length
  · rw [iter_big (fun x => (x.1.1.length - x.1.2.2.1).toNat) (fun x => (0 : Int) ≤ x.1.2.2.1 ∧ x.1.1.length ≤ 1000000000 ∧ x.1.1.length = x.1.2.1.length)
      (fun x => if x.1.1.drop (x.1.2.2.1 : Int).toNat = x.1.2.1.drop (x.1.2.2.1 : Int).toNat then some (.inr ((), ())) else some (.inl ((false, ()), ()))) ?_ ⟨Int.le_refl _, ha, hl⟩ (by simp; omega)]
    · by_cases h : a = b
      · simp [h]
      · simp [hl, h]
    · rintro ⟨⟨m, k, i, _⟩, _⟩ rec ⟨h0, h1, h2⟩ hr
      simp only at h0 h1 h2 ⊢
      unfold r3ints.lr4.T
      by_cases hi : i < m.length
      · have hw : wrap .i64 (i + 1) = i + 1 := wrap_in (by omega) (by omega)
        have hn := hr ((m, k, i + 1, ()), ()) ⟨by show (0 : Int) ≤ i + 1; omega, h1, h2⟩ (by simp; omega)
        have hi' : i < k.length := by omega
        have hb : i.toNat < m.length := by omega
        have hb' : i.toNat < k.length := by omega
        simp only [lget_in h0 hi, lget_in h0 hi']
        rw [List.drop_eq_getElem_cons hb, List.drop_eq_getElem_cons hb', show i.toNat + 1 = (i + 1).toNat by omega]
        by_cases e : m[i.toNat] = k[i.toNat]
        · simp [hi, e, hw, hn]
        · simp [hi, e]
      · rw [drop_end hi, drop_end (l := k) (by omega)]
        simp [hi]
  · have h : a ≠ b := fun e => hl (by rw [e])
    rw [cnd_t (b := bnot (ieq (ilen a) (ilen b))) (by simp; omega), decide_eq_false h]
/-! Rows. -/
def FitC (n : Int) : Prop := 0 ≤ n ∧ n ≤ 1073741824
instance (n : Int) : Decidable (FitC n) := by unfold FitC; infer_instance
def RowC (l : List Int) : Prop := l.length ≤ 16 ∧ ∀ n ∈ l, FitC n
instance (l : List Int) : Decidable (RowC l) := by unfold RowC; infer_instance
/-- the first number that doesn't fit, from a place on -/
def fb : List Int → Int → Option Int
  | [], _ => none
  | a :: r, k => if FitC a then fb r (k + 1) else some k
theorem fb_ge : ∀ (l : List Int) (k j : Int), fb l k = some j → k ≤ j
  | [], _, _, h => by simp [fb] at h
  | a :: r, k, j, h => by
    unfold fb at h
    split at h
    · have := fb_ge r _ _ h; omega
    · simp at h; omega
theorem fb_all : ∀ (l : List Int) (k : Int), fb l k = none ↔ ∀ n ∈ l, FitC n
  | [], _ => by simp [fb]
  | a :: r, k => by
    unfold fb
    by_cases h : FitC a
    · simp [h, fb_all r (k + 1)]
    · simp [h]
/-! What may be. -/
def FitH (n : Int) (p : Prop) : Prop := (p → FitC n) ∧ (¬ p → n = 0)
def RowH (l : List Int) (p : Prop) : Prop := (p → RowC l) ∧ (¬ p → l = [])
def MayC (c : Cmd) : Prop := (1 ≤ c.kind ∧ c.kind ≤ 10) ∧ (0 ≤ c.dir ∧ c.dir ≤ 3) ∧ (c.dir = 0 ∨ c.kind ≤ 2) ∧ FitH c.item (3 ≤ c.kind ∧ c.kind ≤ 7) ∧ FitH c.box (c.kind = 5 ∨ c.kind = 6) ∧ FitH c.who (c.kind = 2 ∨ c.kind = 7 ∨ c.kind = 8) ∧ FitH c.pay (c.kind = 8) ∧ FitH c.fee (c.kind = 8) ∧ RowH c.gives (c.kind = 8) ∧ RowH c.wants (c.kind = 8)
noncomputable instance (c : Cmd) : Decidable (MayC c) := Classical.propDecidable _
noncomputable def mayB (c : Cmd) : Bool := decide (MayC c)
theorem may_iff (c : Cmd) (b : Bool) (h : b = true ↔ MayC c) : some b = some (mayB c) := by
  congr 1
  unfold mayB
  by_cases m : MayC c
  · rw [h.2 m, decide_eq_true m]
  · rw [decide_eq_false m]
    cases b with
    | true => exact absurd (h.1 rfl) m
    | false => rfl
theorem cnd_and {x y : Bool} : cnd x (some y) (some false) = some (x && y) := by cases x <;> rfl
theorem cnd_nand {x y : Bool} : cnd x (some false) (some y) = some (!x && y) := by cases x <;> rfl
theorem cnd_same {α : Type} {x : Bool} {y : α} : cnd x y y = y := by cases x <;> rfl
theorem cnd_tt {α : Type} {x y : α} : cnd true x y = x := rfl
theorem cnd_ff {α : Type} {x y : α} : cnd false x y = y := rfl
theorem fit_t {n : Int} {p : Prop} (h : p) : FitH n p ↔ FitC n := ⟨fun a => a.1 h, fun a => ⟨fun _ => a, fun b => absurd h b⟩⟩
theorem fit_f {n : Int} {p : Prop} (h : ¬ p) : FitH n p ↔ n = 0 := ⟨fun a => a.2 h, fun a => ⟨fun b => absurd b h, fun _ => a⟩⟩
theorem row_t {n : List Int} {p : Prop} (h : p) : RowH n p ↔ RowC n := ⟨fun a => a.1 h, fun a => ⟨fun _ => a, fun b => absurd h b⟩⟩
theorem row_f {n : List Int} {p : Prop} (h : ¬ p) : RowH n p ↔ n = [] := ⟨fun a => a.2 h, fun a => ⟨fun b => absurd b h, fun _ => a⟩⟩
theorem may_no {c : Cmd} (h : ¬ (1 ≤ c.kind ∧ c.kind ≤ 10)) : mayB c = false := by
  unfold mayB
  exact decide_eq_false (fun m => h m.1)
theorem fit_zero : FitC 0 := by decide
theorem row_nil : RowC [] := ⟨by simp, fun n h => by simp at h⟩
theorem name_ne {k : Int} (h : 1 ≤ k ∧ k ≤ 10) : seq (nameP k) [] = false := by
  obtain rfl | rfl | rfl | rfl | rfl | rfl | rfl | rfl | rfl | rfl := ten h.1 h.2 <;> rfl
theorem way_ne (k : Int) : bnot (seq (wayP k) []) = decide (0 ≤ k ∧ k ≤ 3) := by
  by_cases h : 0 ≤ k ∧ k ≤ 3
  · rw [decide_eq_true h]
    obtain rfl | rfl | rfl | rfl := four h.1 h.2 <;> rfl
  · rw [decide_eq_false h, way_no h]; rfl
end Go.Sx
