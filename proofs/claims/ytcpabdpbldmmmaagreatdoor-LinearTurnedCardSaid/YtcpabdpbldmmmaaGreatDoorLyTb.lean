/-
  Commands: the plain laws.
-/
import Derived.Test.YtcpabdpbldmmmaaGreatDoorLyTl
import Derived.Test.YtcpabdpbldmmmaaGreatDoorLyE
set_option linter.unusedVariables false
set_option linter.unusedSimpArgs false
namespace Go.Sx
open Go Go.Proofs
def fi : List Str → Str → Int → Option Int
 | [], _, _ => none
 | a :: r, s, k => if s = a then some k else fi r s (k + 1)
def kindsL : List Str := [[], [109, 111, 118, 101], [112, 117, 115, 104], [103, 101, 116], [100, 114, 111, 112], [112, 117, 116], [116, 97, 107, 101], [103, 105, 118, 101], [116, 114, 97, 100, 101], [108, 111, 111, 107], [111, 119, 110]]
def waysL : List Str := [[110, 111, 114, 116, 104], [101, 97, 115, 116], [115, 111, 117, 116, 104], [119, 101, 115, 116]]
def qka (k : Int) : Str := if 1 ≤ k ∧ k ≤ 10 then kindsL.getD k.toNat [] else []
def wayP (d : Int) : Str := if 0 ≤ d ∧ d ≤ 3 then waysL.getD d.toNat [] else []
theorem ten {k : Int} (h : 1 ≤ k) (h' : k ≤ 10) : k = 1 ∨ k = 2 ∨ k = 3 ∨ k = 4 ∨ k = 5 ∨ k = 6 ∨ k = 7 ∨ k = 8 ∨ k = 9 ∨ k = 10 := by omega
theorem four {k : Int} (h : 0 ≤ k) (h' : k ≤ 3) : k = 0 ∨ k = 1 ∨ k = 2 ∨ k = 3 := by omega
theorem qd0 {k : Int} (h : ¬ (1 ≤ k ∧ k ≤ 10)) : qka k = [] := if_neg h
theorem qiq {k : Int} (h : ¬ (0 ≤ k ∧ k ≤ 3)) : wayP k = [] := if_neg h
theorem Ms (k : Int) : KZ k = some (qka k) := by
 unfold KZ
 by_cases h : 1 ≤ k ∧ k ≤ 10
 ·obtain rfl | rfl | rfl | rfl | rfl | rfl | rfl | rfl | rfl | rfl := ten h.1 h.2 <;> rfl
 ·rw [qd0 h]
  by_cases h1 : k < 0
  ·rw [q7 (b := ilt k 0) (decide_eq_true h1)]
  ·rw [q8 (b := ilt k 0) (decide_eq_false h1)]
   by_cases h2 : 11 ≤ k
   ·rw [q7 (b := ile 11 k) (decide_eq_true h2)]
   ·obtain rfl : k = 0 := by omega
    rfl
theorem cway_eq (k : Int) : BA k = some (wayP k) := by
 unfold BA
 by_cases h : 0 ≤ k ∧ k ≤ 3
 ·obtain rfl | rfl | rfl | rfl := four h.1 h.2 <;> rfl
 ·rw [qiq h]
  by_cases h1 : k < 0
  ·rw [q7 (b := ilt k 0) (decide_eq_true h1)]
  ·rw [q8 (b := ilt k 0) (decide_eq_false h1), q7 (b := ile 4 k) (decide_eq_true (by omega))]
theorem KN (a b : List Int) (ha : a.length ≤ 1000000000) : kV a b = some (decide (a = b)) := by
 unfold kV
 by_cases hl : a.length = b.length
 ·rw [gy (fun x => (x.1.1.length - x.1.2.2.2.1).toNat) (fun x => (0 : Int) ≤ x.1.2.2.2.1 ∧ x.1.1.length ≤ 1000000000 ∧ x.1.1.length = x.1.2.1.length ∧ x.1.2.2.1 = (x.1.1.length : Int))
   (fun x => if x.1.1.drop (x.1.2.2.2.1 : Int).toNat = x.1.2.1.drop (x.1.2.2.2.1 : Int).toNat then some (.inr ((), ())) else some (.inl ((false, ()), ()))) ?_ ⟨Int.le_refl _, ha, hl, ilen_eq _⟩ (by simp; omega)]
  ·by_cases h : a = b
   ·simp [h]
   ·simp [hl, h]
  ·rintro ⟨⟨m, k, n, i, _⟩, _⟩ rec ⟨h0, h1, h2, h3⟩ hr
   simp only at h0 h1 h2 h3 ⊢
   subst h3
   unfold iequal.lr4.T
   by_cases hi : i < m.length
   ·have hw : wrap .i64 (i + 1) = i + 1 := qV (by omega) (by omega)
    have hn := hr ((m, k, (m.length : Int), i + 1, ()), ()) ⟨by show (0 : Int) ≤ i + 1; omega, h1, h2, rfl⟩ (by simp; omega)
    have hi' : i < k.length := by omega
    have hb : i.toNat < m.length := by omega
    have hb' : i.toNat < k.length := by omega
    simp only [jh h0 hi, jh h0 hi']
    rw [List.drop_eq_getElem_cons hb, List.drop_eq_getElem_cons hb', show i.toNat + 1 = (i + 1).toNat by omega]
    by_cases e : m[i.toNat] = k[i.toNat]
    ·simp [hi, e, hw, hn]
    ·simp [hi, e]
   ·rw [zp hi, zp (l := k) (by omega)]
    simp [hi]
 ·have h : a ≠ b := fun e => hl (by rw [e])
  rw [q7 (b := bnot (ieq (qh a) (qh b))) (by simp; omega), decide_eq_false h]
theorem qgo (a b : List Int) (ha : a.length ≤ 1000000000) : kU a b = some (decide (a = b)) := by
 unfold kU
 by_cases hl : a.length = b.length
 ·rw [gy (fun x => (x.1.1.length - x.1.2.2.1).toNat) (fun x => (0 : Int) ≤ x.1.2.2.1 ∧ x.1.1.length ≤ 1000000000 ∧ x.1.1.length = x.1.2.1.length)
   (fun x => if x.1.1.drop (x.1.2.2.1 : Int).toNat = x.1.2.1.drop (x.1.2.2.1 : Int).toNat then some (.inr ((), ())) else some (.inl ((false, ()), ()))) ?_ ⟨Int.le_refl _, ha, hl⟩ (by simp; omega)]
  ·by_cases h : a = b
   ·simp [h]
   ·simp [hl, h]
  ·rintro ⟨⟨m, k, i, _⟩, _⟩ rec ⟨h0, h1, h2⟩ hr
   simp only at h0 h1 h2 ⊢
   unfold r3ints.lr4.T
   by_cases hi : i < m.length
   ·have hw : wrap .i64 (i + 1) = i + 1 := qV (by omega) (by omega)
    have hn := hr ((m, k, i + 1, ()), ()) ⟨by show (0 : Int) ≤ i + 1; omega, h1, h2⟩ (by simp; omega)
    have hi' : i < k.length := by omega
    have hb : i.toNat < m.length := by omega
    have hb' : i.toNat < k.length := by omega
    simp only [jh h0 hi, jh h0 hi']
    rw [List.drop_eq_getElem_cons hb, List.drop_eq_getElem_cons hb', show i.toNat + 1 = (i + 1).toNat by omega]
    by_cases e : m[i.toNat] = k[i.toNat]
    ·simp [hi, e, hw, hn]
    ·simp [hi, e]
   ·rw [zp hi, zp (l := k) (by omega)]
    simp [hi]
 ·have h : a ≠ b := fun e => hl (by rw [e])
  rw [q7 (b := bnot (ieq (qh a) (qh b))) (by simp; omega), decide_eq_false h]
def FitC (n : Int) : Prop := 0 ≤ n ∧ n ≤ 1073741824
instance (n : Int) : Decidable (FitC n) := by unfold FitC; infer_instance
def RowC (l : List Int) : Prop := l.length ≤ 16 ∧ ∀ n ∈ l, FitC n
instance (l : List Int) : Decidable (RowC l) := by unfold RowC; infer_instance
def fb : List Int → Int → Option Int
 | [], _ => none
 | a :: r, k => if FitC a then fb r (k + 1) else some k
theorem fb_ge : ∀ (l : List Int) (k j : Int), fb l k = some j → k ≤ j
 | [], _, _, h => by simp [fb] at h
 | a :: r, k, j, h => by
   unfold fb at h
   split at h
   ·have := fb_ge r _ _ h; omega
   ·simp at h; omega
theorem UO : ∀ (l : List Int) (k : Int), fb l k = none ↔ ∀ n ∈ l, FitC n
 | [], _ => by simp [fb]
 | a :: r, k => by
   unfold fb
   by_cases h : FitC a
   ·simp [h, UO r (k + 1)]
   ·simp [h]
theorem crow_eq (l : List Int) : UU l = some (decide (RowC l)) := by
 unfold UU
 by_cases hl : l.length ≤ 16
 ·rw [q7 (b := ile (qh l) 16) (decide_eq_true (by rw [ilen_eq]; omega)), gy (fun x => (x.1.1.length - x.1.2.2.1).toNat) (fun x => (0 : Int) ≤ x.1.2.2.1 ∧ x.1.1.length ≤ 16 ∧ x.1.2.1 = (x.1.1.length : Int))
   (fun x => match fb (x.1.1.drop (x.1.2.2.1 : Int).toNat) x.1.2.2.1 with
    | some k => some (.inl ((k, ()), ()))
    | none => some (.inr ((), ()))) ?_ ⟨Int.le_refl _, hl, ilen_eq _⟩ (by simp; omega)]
  ·simp only [Int.toNat_zero, List.drop_zero]
   cases hf : fb l 0 with
   | none =>
     have := (UO l 0).1 hf
     rw [decide_eq_true (show RowC l from ⟨hl, this⟩)]
     rfl
   | some k =>
     have h0 := fb_ge _ _ _ hf
     have : ¬ RowC l := fun h => by rw [(UO l 0).2 h.2] at hf; cases hf
     rw [decide_eq_false this]
     show some (bnot (ile 0 k)) = _
     simp [h0]
  ·rintro ⟨⟨m, n, i, _⟩, _⟩ rec ⟨h0, h1, h2⟩ hr
   simp only at h0 h1 h2 ⊢
   subst h2
   unfold crow.l1.T
   by_cases hi : i < m.length
   ·have hw : wrap .i64 (i + 1) = i + 1 := qV (by omega) (by omega)
    have hn := hr ((m, (m.length : Int), i + 1, ()), ()) ⟨by show (0 : Int) ≤ i + 1; omega, h1, rfl⟩ (by simp; omega)
    have hb : i.toNat < m.length := by omega
    simp only [jh h0 hi]
    rw [List.drop_eq_getElem_cons hb, show i.toNat + 1 = (i + 1).toNat by omega, fb]
    by_cases e : FitC m[i.toNat]
    ·obtain ⟨e1, e2⟩ := e
     have e3 : ¬ 1073741824 < m[i.toNat] := Int.not_lt.2 e2
     simp [hi, FitC, e1, e2, e3, hw, hn]
    ·rw [if_neg e]
     by_cases e1 : 0 ≤ m[i.toNat]
     ·have e2 : 1073741824 < m[i.toNat] := Int.lt_of_not_ge fun h => e ⟨e1, h⟩
      simp [hi, e1, e2]
     ·simp [hi, e1]
   ·rw [zp hi]
    simp [hi, fb]
 ·rw [q8 (b := ile (qh l) 16) (decide_eq_false (by rw [ilen_eq]; omega)), decide_eq_false (fun h => hl h.1)]
theorem Nl (l : List Int) (hl : l.length ≤ 1000000000) : qD l true = some (decide (RowC l)) := by
 unfold qD
 rw [q8 (b := bnot true) rfl, gy (fun x => (x.1.1.length - x.1.2.1).toNat) (fun x => (0 : Int) ≤ x.1.2.1 ∧ x.1.1.length ≤ 1000000000)
  (fun x => match fb (x.1.1.drop (x.1.2.1 : Int).toNat) x.1.2.1 with
   | some _ => some (.inl ((false, ()), ()))
   | none => some (.inr ((x.1.1, ()), ()))) ?_ ⟨Int.le_refl _, hl⟩ (by simp; omega)]
 ·simp only [Int.toNat_zero, List.drop_zero]
  cases hf : fb l 0 with
  | none =>
    have := (UO l 0).1 hf
    show some (ile (qh l) 16) = _
    congr 1
    apply decide_eq_decide.2
    rw [ilen_eq]
    exact ⟨fun h => ⟨by omega, this⟩, fun h => by have := h.1; omega⟩
  | some k =>
    have : ¬ RowC l := fun h => by rw [(UO l 0).2 h.2] at hf; cases hf
    rw [decide_eq_false this]
    rfl
 ·rintro ⟨⟨m, i, _⟩, _⟩ rec ⟨h0, h1⟩ hr
  simp only at h0 h1 ⊢
  unfold r3row.lr4.T
  by_cases hi : i < m.length
  ·have hw : wrap .i64 (i + 1) = i + 1 := qV (by omega) (by omega)
   have hn := hr ((m, i + 1, ()), ()) ⟨by show (0 : Int) ≤ i + 1; omega, h1⟩ (by simp; omega)
   have hb : i.toNat < m.length := by omega
   simp only [jh h0 hi]
   rw [List.drop_eq_getElem_cons hb, show i.toNat + 1 = (i + 1).toNat by omega, fb]
   by_cases e : FitC m[i.toNat]
   ·obtain ⟨e1, e2⟩ := e
    have e3 : ¬ 1073741824 < m[i.toNat] := Int.not_lt.2 e2
    simp [hi, FitC, e1, e2, e3, hw, hn]
   ·rw [if_neg e]
    by_cases e1 : 0 ≤ m[i.toNat]
    ·have e2 : 1073741824 < m[i.toNat] := Int.lt_of_not_ge fun h => e ⟨e1, h⟩
     simp [hi, e1, e2]
    ·simp [hi, e1]
  ·rw [zp hi]
   simp [hi, fb]
theorem qjv (l : List Int) : qD l false = some (decide (l = [])) := by
 unfold qD
 rw [q7 (b := bnot false) rfl]
 congr 1
 apply decide_eq_decide.2
 rw [ilen_eq]
 cases l with
 | nil => simp
 | cons a r => simp; omega
theorem qjy (n : Int) : qu n true = some (decide (FitC n)) := by
 unfold qu
 rw [q8 (b := bnot true) rfl]
 by_cases h : 0 ≤ n
 ·rw [q7 (b := ile 0 n) (decide_eq_true h)]
  congr 1
  apply decide_eq_decide.2
  exact ⟨fun h' => ⟨h, h'⟩, fun h' => h'.2⟩
 ·rw [q8 (b := ile 0 n) (decide_eq_false h), decide_eq_false (fun h' => h h'.1)]
theorem qjx (n : Int) : qu n false = some (decide (n = 0)) := rfl
def qdk (n : Int) (p : Prop) : Prop := (p → FitC n) ∧ (¬ p → n = 0)
def RowH (l : List Int) (p : Prop) : Prop := (p → RowC l) ∧ (¬ p → l = [])
def qdj (c : Cmd) : Prop := (1 ≤ c.kind ∧ c.kind ≤ 10) ∧ (0 ≤ c.dir ∧ c.dir ≤ 3) ∧ (c.dir = 0 ∨ c.kind ≤ 2) ∧ qdk c.item (3 ≤ c.kind ∧ c.kind ≤ 7) ∧ qdk c.box (c.kind = 5 ∨ c.kind = 6) ∧ qdk c.who (c.kind = 2 ∨ c.kind = 7 ∨ c.kind = 8) ∧ qdk c.pay (c.kind = 8) ∧ qdk c.fee (c.kind = 8) ∧ RowH c.gives (c.kind = 8) ∧ RowH c.wants (c.kind = 8)
noncomputable instance (c : Cmd) : Decidable (qdj c) := Classical.propDecidable _
noncomputable def Y2 (c : Cmd) : Bool := decide (qdj c)
theorem qd2 (c : Cmd) (b : Bool) (h : b = true ↔ qdj c) : some b = some (Y2 c) := by
 congr 1
 unfold Y2
 by_cases m : qdj c
 ·rw [h.2 m, decide_eq_true m]
 ·rw [decide_eq_false m]
  cases b with
  | true => exact absurd (h.1 rfl) m
  | false => rfl
theorem Rh {x y : Bool} : cnd x (some y) (some false) = some (x && y) := by cases x <;> rfl
theorem Mr {x y : Bool} : cnd x (some false) (some y) = some (!x && y) := by cases x <;> rfl
theorem Mq {α : Type} {x : Bool} {y : α} : cnd x y y = y := by cases x <;> rfl
theorem qlz {α : Type} {x y : α} : cnd true x y = x := rfl
theorem ql1 {α : Type} {x y : α} : cnd false x y = y := rfl
theorem qkc {c : Cmd} (h : ¬ (1 ≤ c.kind ∧ c.kind ≤ 10)) : Y2 c = false := by
 unfold Y2
 exact decide_eq_false (fun m => h m.1)
theorem qla : FitC 0 := by decide
theorem row_nil : RowC [] := ⟨by simp, fun n h => by simp at h⟩
theorem name_ne {k : Int} (h : 1 ≤ k ∧ k ≤ 10) : seq (qka k) [] = false := by
 obtain rfl | rfl | rfl | rfl | rfl | rfl | rfl | rfl | rfl | rfl := ten h.1 h.2 <;> rfl
theorem way_ne (k : Int) : bnot (seq (wayP k) []) = decide (0 ≤ k ∧ k ≤ 3) := by
 by_cases h : 0 ≤ k ∧ k ≤ 3
 ·rw [decide_eq_true h]
  obtain rfl | rfl | rfl | rfl := four h.1 h.2 <;> rfl
 ·rw [decide_eq_false h, qiq h]; rfl
theorem qjw (c : Cmd) (hg : c.gives.length ≤ 1000000000) (hw : c.wants.length ≤ 1000000000) : JY c = some (Y2 c) := by
 obtain ⟨kind, dir, item, box, who, gives, pay, wants, fee⟩ := c
 simp only at hg hw
 by_cases hk : 1 ≤ kind ∧ kind ≤ 10
 ·obtain rfl | rfl | rfl | rfl | rfl | rfl | rfl | rfl | rfl | rfl := ten hk.1 hk.2 <;>
  ·unfold JY
   simp only [ilt, ile, ieq, bnot, decide_true, decide_false, Int.reduceLT, Int.reduceLE, Int.reduceEq, Bool.not_true, Bool.not_false, qlz, ql1, qjy, qjx, Nl _ hg, Nl _ hw, qjv, qg, Rh, Mr, Mq]
   apply qd2
   simp only [qdj, qdk, RowH, Bool.and_eq_true, decide_eq_true_eq, Bool.not_eq_true', decide_eq_false_iff_not]
   grind
 ·rw [qkc hk]
  unfold JY
  by_cases h1 : kind < 1
  ·rw [q7 (b := ilt kind 1) (decide_eq_true h1)]
  ·rw [q8 (b := ilt kind 1) (decide_eq_false h1), q7 (b := ilt 10 kind) (decide_eq_true (by omega))]
theorem cmay_eq (c : Cmd) (hg : c.gives.length ≤ 1000000000) (hw : c.wants.length ≤ 1000000000) : UX c = some (Y2 c) := by
 obtain ⟨kind, dir, item, box, who, gives, pay, wants, fee⟩ := c
 simp only at hg hw
 by_cases hk : 1 ≤ kind ∧ kind ≤ 10
 ·unfold UX
  rw [Ms, qg, name_ne hk]
  obtain rfl | rfl | rfl | rfl | rfl | rfl | rfl | rfl | rfl | rfl := ten hk.1 hk.2 <;>
  ·simp only [Ya, UT, cway_eq, way_ne, crow_eq, KN _ _ hg, KN _ _ hw, band, ilt, ile, ieq, bnot, decide_true, decide_false, Int.reduceLT, Int.reduceLE, Int.reduceEq, Bool.not_true, Bool.not_false, Bool.true_and, Bool.and_true, qlz, ql1, qg, Rh, Mr, Mq]
   apply qd2
   simp only [qdj, qdk, RowH, Bool.and_eq_true, decide_eq_true_eq, Bool.not_eq_true', decide_eq_false_iff_not]
   have := qla
   have := row_nil
   unfold FitC at *
   grind
 ·rw [qkc hk]
  unfold UX
  rw [Ms, qg, qd0 hk]
  rfl
theorem qdo (x y : Seen) : band (ieq x.item y.item) (band (ieq x.at_.kind y.at_.kind) (ieq x.at_.id y.at_.id)) = decide (x = y) := by
 obtain ⟨a, b, c⟩ := x
 obtain ⟨d, e, f⟩ := y
 simp
theorem qhs (a b : List Seen) (ha : a.length ≤ 1000000000) : Jw a b = some (decide (a = b)) := by
 unfold Jw
 by_cases hl : a.length = b.length
 ·rw [gy (fun x => (x.1.1.length - x.1.2.2.2.1).toNat) (fun x => (0 : Int) ≤ x.1.2.2.2.1 ∧ x.1.1.length ≤ 1000000000 ∧ x.1.1.length = x.1.2.1.length ∧ x.1.2.2.1 = (x.1.1.length : Int))
   (fun x => if x.1.1.drop (x.1.2.2.2.1 : Int).toNat = x.1.2.1.drop (x.1.2.2.2.1 : Int).toNat then some (.inr ((), ())) else some (.inl ((false, ()), ()))) ?_ ⟨Int.le_refl _, ha, hl, ilen_eq _⟩ (by simp; omega)]
  ·by_cases h : a = b
   ·simp [h]
   ·simp [hl, h]
  ·rintro ⟨⟨m, k, n, i, _⟩, _⟩ rec ⟨h0, h1, h2, h3⟩ hr
   simp only at h0 h1 h2 h3 ⊢
   subst h3
   unfold eequal.lr4.T
   by_cases hi : i < m.length
   ·have hw : wrap .i64 (i + 1) = i + 1 := qV (by omega) (by omega)
    have hn := hr ((m, k, (m.length : Int), i + 1, ()), ()) ⟨by show (0 : Int) ≤ i + 1; omega, h1, h2, rfl⟩ (by simp; omega)
    have hi' : i < k.length := by omega
    have hb : i.toNat < m.length := by omega
    have hb' : i.toNat < k.length := by omega
    simp only [jh h0 hi, jh h0 hi', qdo]
    rw [List.drop_eq_getElem_cons hb, List.drop_eq_getElem_cons hb', show i.toNat + 1 = (i + 1).toNat by omega]
    by_cases e : m[i.toNat] = k[i.toNat]
    ·simp [hi, e, hw, hn]
    ·simp [hi, e]
   ·rw [zp hi, zp (l := k) (by omega)]
    simp [hi]
 ·have h : a ≠ b := fun e => hl (by rw [e])
  rw [q7 (b := bnot (ieq (qh a) (qh b))) (by simp; omega), decide_eq_false h]
theorem qbf (a b : List Seen) (ha : a.length ≤ 1000000000) : gt a b = some (decide (a = b)) := by
 unfold gt
 by_cases hl : a.length = b.length
 ·rw [gy (fun x => (x.1.1.length - x.1.2.2.1).toNat) (fun x => (0 : Int) ≤ x.1.2.2.1 ∧ x.1.1.length ≤ 1000000000 ∧ x.1.1.length = x.1.2.1.length)
   (fun x => if x.1.1.drop (x.1.2.2.1 : Int).toNat = x.1.2.1.drop (x.1.2.2.1 : Int).toNat then some (.inr ((), ())) else some (.inl ((false, ()), ()))) ?_ ⟨Int.le_refl _, ha, hl⟩ (by simp; omega)]
  ·by_cases h : a = b
   ·simp [h]
   ·simp [hl, h]
  ·rintro ⟨⟨m, k, i, _⟩, _⟩ rec ⟨h0, h1, h2⟩ hr
   simp only at h0 h1 h2 ⊢
   unfold r5seens.lr4.T
   by_cases hi : i < m.length
   ·have hw : wrap .i64 (i + 1) = i + 1 := qV (by omega) (by omega)
    have hn := hr ((m, k, i + 1, ()), ()) ⟨by show (0 : Int) ≤ i + 1; omega, h1, h2⟩ (by simp; omega)
    have hi' : i < k.length := by omega
    have hb : i.toNat < m.length := by omega
    have hb' : i.toNat < k.length := by omega
    simp only [jh h0 hi, jh h0 hi', qdo]
    rw [List.drop_eq_getElem_cons hb, List.drop_eq_getElem_cons hb', show i.toNat + 1 = (i + 1).toNat by omega]
    by_cases e : m[i.toNat] = k[i.toNat]
    ·simp [hi, e, hw, hn]
    ·simp [hi, e]
   ·rw [zp hi, zp (l := k) (by omega)]
    simp [hi]
 ·have h : a ≠ b := fun e => hl (by rw [e])
  rw [q7 (b := bnot (ieq (qh a) (qh b))) (by simp; omega), decide_eq_false h]
theorem Uf (a b : Reply) : a = b ↔ a.err = b.err ∧ a.kind = b.kind ∧ a.room = b.room ∧ a.coins = b.coins ∧ a.players = b.players ∧ a.items = b.items := by
 cases a; cases b; simp; grind
theorem vn (a b : Reply) (hp : a.players.length ≤ 1000000000) (hi : a.items.length ≤ 1000000000) : kO a b = some (decide (a = b)) := by
 unfold kO
 rw [KN _ _ hp, qhs _ _ hi]
 simp only [qg]
 by_cases h : a.err = b.err ∧ a.kind = b.kind ∧ a.room = b.room ∧ a.coins = b.coins
 ·obtain ⟨h1, h2, h3, h4⟩ := h
  rw [q7 (by simp [h1, h2, h3, h4])]
  by_cases h5 : a.players = b.players
  ·rw [q7 (decide_eq_true h5)]
   congr 1
   simp [Uf, h1, h2, h3, h4, h5]
  ·rw [q8 (decide_eq_false h5)]
   congr 1
   simp [Uf, h5]
 ·rw [q8 (by
   simp only [Bool.and_eq_false_iff, decide_eq_false_iff_not]
   grind)]
  congr 1
  rw [decide_eq_false]
  rintro rfl
  exact h ⟨rfl, rfl, rfl, rfl⟩
theorem Bg (a b : Reply) (hp : a.players.length ≤ 1000000000) (hi : a.items.length ≤ 1000000000) : Jk a b = some (decide (a = b)) := by
 unfold Jk
 rw [qgo _ _ hp, qbf _ _ hi]
 simp only [qg, Rh]
 congr 1
 rw [Bool.eq_iff_iff]
 simp [Uf]
end Go.Sx
