/-
  Commands: the plain laws.
-/
import Derived.Test.YtcpabdpbldmmmaaGreatDoorLyTl
import Derived.Test.YtcpabdpbldmmmaaGreatDoorLyE
set_option linter.unusedVariables false
set_option linter.unusedSimpArgs false
namespace Go.Sx
open Go Go.Proofs
def fi : List Str → Str → Int → Option Int
 | [], _, _ => none
 | a :: r, s, k => if s = a then some k else fi r s (k + 1)
def kindsL : List Str := [[], [109, 111, 118, 101], [112, 117, 115, 104], [103, 101, 116], [100, 114, 111, 112], [112, 117, 116], [116, 97, 107, 101], [103, 105, 118, 101], [116, 114, 97, 100, 101], [108, 111, 111, 107], [111, 119, 110]]
def waysL : List Str := [[110, 111, 114, 116, 104], [101, 97, 115, 116], [115, 111, 117, 116, 104], [119, 101, 115, 116]]
def qgn (k : Int) : Str := if 1 ≤ k ∧ k ≤ 10 then kindsL.getD k.toNat [] else []
def wayP (d : Int) : Str := if 0 ≤ d ∧ d ≤ 3 then waysL.getD d.toNat [] else []
theorem ten {k : Int} (h : 1 ≤ k) (h' : k ≤ 10) : k = 1 ∨ k = 2 ∨ k = 3 ∨ k = 4 ∨ k = 5 ∨ k = 6 ∨ k = 7 ∨ k = 8 ∨ k = 9 ∨ k = 10 := by omega
theorem four {k : Int} (h : 0 ≤ k) (h' : k ≤ 3) : k = 0 ∨ k = 1 ∨ k = 2 ∨ k = 3 := by omega
theorem qa6 {k : Int} (h : ¬ (1 ≤ k ∧ k ≤ 10)) : qgn k = [] := if_neg h
theorem qe0 {k : Int} (h : ¬ (0 ≤ k ∧ k ≤ 3)) : wayP k = [] := if_neg h
theorem Nd (k : Int) : Kz k = some (qgn k) := by
 unfold Kz
 by_cases h : 1 ≤ k ∧ k ≤ 10
 ·obtain rfl | rfl | rfl | rfl | rfl | rfl | rfl | rfl | rfl | rfl := ten h.1 h.2 <;> rfl
 ·rw [qa6 h]
  by_cases h1 : k < 0
  ·rw [qy (b := ilt k 0) (decide_eq_true h1)]
  ·rw [qz (b := ilt k 0) (decide_eq_false h1)]
   by_cases h2 : 11 ≤ k
   ·rw [qy (b := ile 11 k) (decide_eq_true h2)]
   ·obtain rfl : k = 0 := by omega
    rfl
theorem cway_eq (k : Int) : YB k = some (wayP k) := by
 unfold YB
 by_cases h : 0 ≤ k ∧ k ≤ 3
 ·obtain rfl | rfl | rfl | rfl := four h.1 h.2 <;> rfl
 ·rw [qe0 h]
  by_cases h1 : k < 0
  ·rw [qy (b := ilt k 0) (decide_eq_true h1)]
  ·rw [qz (b := ilt k 0) (decide_eq_false h1), qy (b := ile 4 k) (decide_eq_true (by omega))]
theorem Ko (a b : List Int) (ha : a.length ≤ 1000000000) : kP a b = some (decide (a = b)) := by
 unfold kP
 by_cases hl : a.length = b.length
 ·rw [g7 (fun x => (x.1.1.length - x.1.2.2.2.1).toNat) (fun x => (0 : Int) ≤ x.1.2.2.2.1 ∧ x.1.1.length ≤ 1000000000 ∧ x.1.1.length = x.1.2.1.length ∧ x.1.2.2.1 = (x.1.1.length : Int))
   (fun x => if x.1.1.drop (x.1.2.2.2.1 : Int).toNat = x.1.2.1.drop (x.1.2.2.2.1 : Int).toNat then some (.inr ((), ())) else some (.inl ((false, ()), ()))) ?_ ⟨Int.le_refl _, ha, hl, ilen_eq _⟩ (by simp; omega)]
  ·by_cases h : a = b
   ·simp [h]
   ·simp [hl, h]
  ·rintro ⟨⟨m, k, n, i, _⟩, _⟩ rec ⟨h0, h1, h2, h3⟩ hr
   simp only at h0 h1 h2 h3 ⊢
   subst h3
   unfold iequal.lr4.T
   by_cases hi : i < m.length
   ·have hw : wrap .i64 (i + 1) = i + 1 := qO (by omega) (by omega)
    have hn := hr ((m, k, (m.length : Int), i + 1, ()), ()) ⟨by show (0 : Int) ≤ i + 1; omega, h1, h2, rfl⟩ (by simp; omega)
    have hi' : i < k.length := by omega
    have hb : i.toNat < m.length := by omega
    have hb' : i.toNat < k.length := by omega
    simp only [jd h0 hi, jd h0 hi']
    rw [List.drop_eq_getElem_cons hb, List.drop_eq_getElem_cons hb', show i.toNat + 1 = (i + 1).toNat by omega]
    by_cases e : m[i.toNat] = k[i.toNat]
    ·simp [hi, e, hw, hn]
    ·simp [hi, e]
   ·rw [zj hi, zj (l := k) (by omega)]
    simp [hi]
 ·have h : a ≠ b := fun e => hl (by rw [e])
  rw [qy (b := bnot (ieq (qh a) (qh b))) (by simp; omega), decide_eq_false h]
theorem Ym (a b : List Int) (ha : a.length ≤ 1000000000) : zU a b = some (decide (a = b)) := by
 unfold zU
 by_cases hl : a.length = b.length
 ·rw [g7 (fun x => (x.1.1.length - x.1.2.2.1).toNat) (fun x => (0 : Int) ≤ x.1.2.2.1 ∧ x.1.1.length ≤ 1000000000 ∧ x.1.1.length = x.1.2.1.length)
   (fun x => if x.1.1.drop (x.1.2.2.1 : Int).toNat = x.1.2.1.drop (x.1.2.2.1 : Int).toNat then some (.inr ((), ())) else some (.inl ((false, ()), ()))) ?_ ⟨Int.le_refl _, ha, hl⟩ (by simp; omega)]
  ·by_cases h : a = b
   ·simp [h]
   ·simp [hl, h]
  ·rintro ⟨⟨m, k, i, _⟩, _⟩ rec ⟨h0, h1, h2⟩ hr
   simp only at h0 h1 h2 ⊢
   unfold r3ints.lr4.T
   by_cases hi : i < m.length
   ·have hw : wrap .i64 (i + 1) = i + 1 := qO (by omega) (by omega)
    have hn := hr ((m, k, i + 1, ()), ()) ⟨by show (0 : Int) ≤ i + 1; omega, h1, h2⟩ (by simp; omega)
    have hi' : i < k.length := by omega
    have hb : i.toNat < m.length := by omega
    have hb' : i.toNat < k.length := by omega
    simp only [jd h0 hi, jd h0 hi']
    rw [List.drop_eq_getElem_cons hb, List.drop_eq_getElem_cons hb', show i.toNat + 1 = (i + 1).toNat by omega]
    by_cases e : m[i.toNat] = k[i.toNat]
    ·simp [hi, e, hw, hn]
    ·simp [hi, e]
   ·rw [zj hi, zj (l := k) (by omega)]
    simp [hi]
 ·have h : a ≠ b := fun e => hl (by rw [e])
  rw [qy (b := bnot (ieq (qh a) (qh b))) (by simp; omega), decide_eq_false h]
def FitC (n : Int) : Prop := 0 ≤ n ∧ n ≤ 1073741824
instance (n : Int) : Decidable (FitC n) := by unfold FitC; infer_instance
def RowC (l : List Int) : Prop := l.length ≤ 16 ∧ ∀ n ∈ l, FitC n
instance (l : List Int) : Decidable (RowC l) := by unfold RowC; infer_instance
def fb : List Int → Int → Option Int
 | [], _ => none
 | a :: r, k => if FitC a then fb r (k + 1) else some k
theorem fb_ge : ∀ (l : List Int) (k j : Int), fb l k = some j → k ≤ j
 | [], _, _, h => by simp [fb] at h
 | a :: r, k, j, h => by
   unfold fb at h
   split at h
   ·have := fb_ge r _ _ h; omega
   ·simp at h; omega
theorem Ub : ∀ (l : List Int) (k : Int), fb l k = none ↔ ∀ n ∈ l, FitC n
 | [], _ => by simp [fb]
 | a :: r, k => by
   unfold fb
   by_cases h : FitC a
   ·simp [h, Ub r (k + 1)]
   ·simp [h]
theorem crow_eq (l : List Int) : Uh l = some (decide (RowC l)) := by
 unfold Uh
 by_cases hl : l.length ≤ 16
 ·rw [qy (b := ile (qh l) 16) (decide_eq_true (by rw [ilen_eq]; omega)), g7 (fun x => (x.1.1.length - x.1.2.2.1).toNat) (fun x => (0 : Int) ≤ x.1.2.2.1 ∧ x.1.1.length ≤ 16 ∧ x.1.2.1 = (x.1.1.length : Int))
   (fun x => match fb (x.1.1.drop (x.1.2.2.1 : Int).toNat) x.1.2.2.1 with
    | some k => some (.inl ((k, ()), ()))
    | none => some (.inr ((), ()))) ?_ ⟨Int.le_refl _, hl, ilen_eq _⟩ (by simp; omega)]
  ·simp only [Int.toNat_zero, List.drop_zero]
   cases hf : fb l 0 with
   | none =>
     have := (Ub l 0).1 hf
     rw [decide_eq_true (show RowC l from ⟨hl, this⟩)]
     rfl
   | some k =>
     have h0 := fb_ge _ _ _ hf
     have : ¬ RowC l := fun h => by rw [(Ub l 0).2 h.2] at hf; cases hf
     rw [decide_eq_false this]
     show some (bnot (ile 0 k)) = _
     simp [h0]
  ·rintro ⟨⟨m, n, i, _⟩, _⟩ rec ⟨h0, h1, h2⟩ hr
   simp only at h0 h1 h2 ⊢
   subst h2
   unfold crow.l1.T
   by_cases hi : i < m.length
   ·have hw : wrap .i64 (i + 1) = i + 1 := qO (by omega) (by omega)
    have hn := hr ((m, (m.length : Int), i + 1, ()), ()) ⟨by show (0 : Int) ≤ i + 1; omega, h1, rfl⟩ (by simp; omega)
    have hb : i.toNat < m.length := by omega
    simp only [jd h0 hi]
    rw [List.drop_eq_getElem_cons hb, show i.toNat + 1 = (i + 1).toNat by omega, fb]
    by_cases e : FitC m[i.toNat]
    ·obtain ⟨e1, e2⟩ := e
     have e3 : ¬ 1073741824 < m[i.toNat] := Int.not_lt.2 e2
     simp [hi, FitC, e1, e2, e3, hw, hn]
    ·rw [if_neg e]
     by_cases e1 : 0 ≤ m[i.toNat]
     ·have e2 : 1073741824 < m[i.toNat] := Int.lt_of_not_ge fun h => e ⟨e1, h⟩
      simp [hi, e1, e2]
     ·simp [hi, e1]
   ·rw [zj hi]
    simp [hi, fb]
 ·rw [qz (b := ile (qh l) 16) (decide_eq_false (by rw [ilen_eq]; omega)), decide_eq_false (fun h => hl h.1)]
theorem DU (l : List Int) (hl : l.length ≤ 1000000000) : qC l true = some (decide (RowC l)) := by
 unfold qC
 rw [qz (b := bnot true) rfl, g7 (fun x => (x.1.1.length - x.1.2.1).toNat) (fun x => (0 : Int) ≤ x.1.2.1 ∧ x.1.1.length ≤ 1000000000)
  (fun x => match fb (x.1.1.drop (x.1.2.1 : Int).toNat) x.1.2.1 with
   | some _ => some (.inl ((false, ()), ()))
   | none => some (.inr ((x.1.1, ()), ()))) ?_ ⟨Int.le_refl _, hl⟩ (by simp; omega)]
 ·simp only [Int.toNat_zero, List.drop_zero]
  cases hf : fb l 0 with
  | none =>
    have := (Ub l 0).1 hf
    show some (ile (qh l) 16) = _
    congr 1
    apply decide_eq_decide.2
    rw [ilen_eq]
    exact ⟨fun h => ⟨by omega, this⟩, fun h => by have := h.1; omega⟩
  | some k =>
    have : ¬ RowC l := fun h => by rw [(Ub l 0).2 h.2] at hf; cases hf
    rw [decide_eq_false this]
    rfl
 ·rintro ⟨⟨m, i, _⟩, _⟩ rec ⟨h0, h1⟩ hr
  simp only at h0 h1 ⊢
  unfold r3row.lr4.T
  by_cases hi : i < m.length
  ·have hw : wrap .i64 (i + 1) = i + 1 := qO (by omega) (by omega)
   have hn := hr ((m, i + 1, ()), ()) ⟨by show (0 : Int) ≤ i + 1; omega, h1⟩ (by simp; omega)
   have hb : i.toNat < m.length := by omega
   simp only [jd h0 hi]
   rw [List.drop_eq_getElem_cons hb, show i.toNat + 1 = (i + 1).toNat by omega, fb]
   by_cases e : FitC m[i.toNat]
   ·obtain ⟨e1, e2⟩ := e
    have e3 : ¬ 1073741824 < m[i.toNat] := Int.not_lt.2 e2
    simp [hi, FitC, e1, e2, e3, hw, hn]
   ·rw [if_neg e]
    by_cases e1 : 0 ≤ m[i.toNat]
    ·have e2 : 1073741824 < m[i.toNat] := Int.lt_of_not_ge fun h => e ⟨e1, h⟩
     simp [hi, e1, e2]
    ·simp [hi, e1]
  ·rw [zj hi]
   simp [hi, fb]
theorem qf7 (l : List Int) : qC l false = some (decide (l = [])) := by
 unfold qC
 rw [qy (b := bnot false) rfl]
 congr 1
 apply decide_eq_decide.2
 rw [ilen_eq]
 cases l with
 | nil => simp
 | cons a r => simp; omega
theorem qga (n : Int) : qt n true = some (decide (FitC n)) := by
 unfold qt
 rw [qz (b := bnot true) rfl]
 by_cases h : 0 ≤ n
 ·rw [qy (b := ile 0 n) (decide_eq_true h)]
  congr 1
  apply decide_eq_decide.2
  exact ⟨fun h' => ⟨h, h'⟩, fun h' => h'.2⟩
 ·rw [qz (b := ile 0 n) (decide_eq_false h), decide_eq_false (fun h' => h h'.1)]
theorem qf9 (n : Int) : qt n false = some (decide (n = 0)) := rfl
def qao (n : Int) (p : Prop) : Prop := (p → FitC n) ∧ (¬ p → n = 0)
def RowH (l : List Int) (p : Prop) : Prop := (p → RowC l) ∧ (¬ p → l = [])
def qan (c : Cmd) : Prop := (1 ≤ c.kind ∧ c.kind ≤ 10) ∧ (0 ≤ c.dir ∧ c.dir ≤ 3) ∧ (c.dir = 0 ∨ c.kind ≤ 2) ∧ qao c.item (3 ≤ c.kind ∧ c.kind ≤ 7) ∧ qao c.box (c.kind = 5 ∨ c.kind = 6) ∧ qao c.who (c.kind = 2 ∨ c.kind = 7 ∨ c.kind = 8) ∧ qao c.pay (c.kind = 8) ∧ qao c.fee (c.kind = 8) ∧ RowH c.gives (c.kind = 8) ∧ RowH c.wants (c.kind = 8)
noncomputable instance (c : Cmd) : Decidable (qan c) := Classical.propDecidable _
noncomputable def G7 (c : Cmd) : Bool := decide (qan c)
theorem qa8 (c : Cmd) (b : Bool) (h : b = true ↔ qan c) : some b = some (G7 c) := by
 congr 1
 unfold G7
 by_cases m : qan c
 ·rw [h.2 m, decide_eq_true m]
 ·rw [decide_eq_false m]
  cases b with
  | true => exact absurd (h.1 rfl) m
  | false => rfl
theorem De {x y : Bool} : cnd x (some y) (some false) = some (x && y) := by cases x <;> rfl
theorem Nc {x y : Bool} : cnd x (some false) (some y) = some (!x && y) := by cases x <;> rfl
theorem Nb {α : Type} {x : Bool} {y : α} : cnd x y y = y := by cases x <;> rfl
theorem qid {α : Type} {x y : α} : cnd true x y = x := rfl
theorem qif {α : Type} {x y : α} : cnd false x y = y := rfl
theorem qgr {c : Cmd} (h : ¬ (1 ≤ c.kind ∧ c.kind ≤ 10)) : G7 c = false := by
 unfold G7
 exact decide_eq_false (fun m => h m.1)
theorem qhp : FitC 0 := by decide
theorem row_nil : RowC [] := ⟨by simp, fun n h => by simp at h⟩
theorem name_ne {k : Int} (h : 1 ≤ k ∧ k ≤ 10) : seq (qgn k) [] = false := by
 obtain rfl | rfl | rfl | rfl | rfl | rfl | rfl | rfl | rfl | rfl := ten h.1 h.2 <;> rfl
theorem way_ne (k : Int) : bnot (seq (wayP k) []) = decide (0 ≤ k ∧ k ≤ 3) := by
 by_cases h : 0 ≤ k ∧ k ≤ 3
 ·rw [decide_eq_true h]
  obtain rfl | rfl | rfl | rfl := four h.1 h.2 <;> rfl
 ·rw [decide_eq_false h, qe0 h]; rfl
theorem qf8 (c : Cmd) (hg : c.gives.length ≤ 1000000000) (hw : c.wants.length ≤ 1000000000) : Bz c = some (G7 c) := by
 obtain ⟨kind, dir, item, box, who, gives, pay, wants, fee⟩ := c
 simp only at hg hw
 by_cases hk : 1 ≤ kind ∧ kind ≤ 10
 ·obtain rfl | rfl | rfl | rfl | rfl | rfl | rfl | rfl | rfl | rfl := ten hk.1 hk.2 <;>
  ·unfold Bz
   simp only [ilt, ile, ieq, bnot, decide_true, decide_false, Int.reduceLT, Int.reduceLE, Int.reduceEq, Bool.not_true, Bool.not_false, qid, qif, qga, qf9, DU _ hg, DU _ hw, qf7, qg, De, Nc, Nb]
   apply qa8
   simp only [qan, qao, RowH, Bool.and_eq_true, decide_eq_true_eq, Bool.not_eq_true', decide_eq_false_iff_not]
   grind
 ·rw [qgr hk]
  unfold Bz
  by_cases h1 : kind < 1
  ·rw [qy (b := ilt kind 1) (decide_eq_true h1)]
  ·rw [qz (b := ilt kind 1) (decide_eq_false h1), qy (b := ilt 10 kind) (decide_eq_true (by omega))]
theorem cmay_eq (c : Cmd) (hg : c.gives.length ≤ 1000000000) (hw : c.wants.length ≤ 1000000000) : Uk c = some (G7 c) := by
 obtain ⟨kind, dir, item, box, who, gives, pay, wants, fee⟩ := c
 simp only at hg hw
 by_cases hk : 1 ≤ kind ∧ kind ≤ 10
 ·unfold Uk
  rw [Nd, qg, name_ne hk]
  obtain rfl | rfl | rfl | rfl | rfl | rfl | rfl | rfl | rfl | rfl := ten hk.1 hk.2 <;>
  ·simp only [Un, Ug, cway_eq, way_ne, crow_eq, Ko _ _ hg, Ko _ _ hw, band, ilt, ile, ieq, bnot, decide_true, decide_false, Int.reduceLT, Int.reduceLE, Int.reduceEq, Bool.not_true, Bool.not_false, Bool.true_and, Bool.and_true, qid, qif, qg, De, Nc, Nb]
   apply qa8
   simp only [qan, qao, RowH, Bool.and_eq_true, decide_eq_true_eq, Bool.not_eq_true', decide_eq_false_iff_not]
   have := qhp
   have := row_nil
   unfold FitC at *
   grind
 ·rw [qgr hk]
  unfold Uk
  rw [Nd, qg, qa6 hk]
  rfl
theorem qas (x y : Seen) : band (ieq x.item y.item) (band (ieq x.at_.kind y.at_.kind) (ieq x.at_.id y.at_.id)) = decide (x = y) := by
 obtain ⟨a, b, c⟩ := x
 obtain ⟨d, e, f⟩ := y
 simp
theorem qd2 (a b : List Seen) (ha : a.length ≤ 1000000000) : Jg a b = some (decide (a = b)) := by
 unfold Jg
 by_cases hl : a.length = b.length
 ·rw [g7 (fun x => (x.1.1.length - x.1.2.2.2.1).toNat) (fun x => (0 : Int) ≤ x.1.2.2.2.1 ∧ x.1.1.length ≤ 1000000000 ∧ x.1.1.length = x.1.2.1.length ∧ x.1.2.2.1 = (x.1.1.length : Int))
   (fun x => if x.1.1.drop (x.1.2.2.2.1 : Int).toNat = x.1.2.1.drop (x.1.2.2.2.1 : Int).toNat then some (.inr ((), ())) else some (.inl ((false, ()), ()))) ?_ ⟨Int.le_refl _, ha, hl, ilen_eq _⟩ (by simp; omega)]
  ·by_cases h : a = b
   ·simp [h]
   ·simp [hl, h]
  ·rintro ⟨⟨m, k, n, i, _⟩, _⟩ rec ⟨h0, h1, h2, h3⟩ hr
   simp only at h0 h1 h2 h3 ⊢
   subst h3
   unfold eequal.lr4.T
   by_cases hi : i < m.length
   ·have hw : wrap .i64 (i + 1) = i + 1 := qO (by omega) (by omega)
    have hn := hr ((m, k, (m.length : Int), i + 1, ()), ()) ⟨by show (0 : Int) ≤ i + 1; omega, h1, h2, rfl⟩ (by simp; omega)
    have hi' : i < k.length := by omega
    have hb : i.toNat < m.length := by omega
    have hb' : i.toNat < k.length := by omega
    simp only [jd h0 hi, jd h0 hi', qas]
    rw [List.drop_eq_getElem_cons hb, List.drop_eq_getElem_cons hb', show i.toNat + 1 = (i + 1).toNat by omega]
    by_cases e : m[i.toNat] = k[i.toNat]
    ·simp [hi, e, hw, hn]
    ·simp [hi, e]
   ·rw [zj hi, zj (l := k) (by omega)]
    simp [hi]
 ·have h : a ≠ b := fun e => hl (by rw [e])
  rw [qy (b := bnot (ieq (qh a) (qh b))) (by simp; omega), decide_eq_false h]
theorem Mh (a b : List Seen) (ha : a.length ≤ 1000000000) : Gu a b = some (decide (a = b)) := by
 unfold Gu
 by_cases hl : a.length = b.length
 ·rw [g7 (fun x => (x.1.1.length - x.1.2.2.1).toNat) (fun x => (0 : Int) ≤ x.1.2.2.1 ∧ x.1.1.length ≤ 1000000000 ∧ x.1.1.length = x.1.2.1.length)
   (fun x => if x.1.1.drop (x.1.2.2.1 : Int).toNat = x.1.2.1.drop (x.1.2.2.1 : Int).toNat then some (.inr ((), ())) else some (.inl ((false, ()), ()))) ?_ ⟨Int.le_refl _, ha, hl⟩ (by simp; omega)]
  ·by_cases h : a = b
   ·simp [h]
   ·simp [hl, h]
  ·rintro ⟨⟨m, k, i, _⟩, _⟩ rec ⟨h0, h1, h2⟩ hr
   simp only at h0 h1 h2 ⊢
   unfold r5seens.lr4.T
   by_cases hi : i < m.length
   ·have hw : wrap .i64 (i + 1) = i + 1 := qO (by omega) (by omega)
    have hn := hr ((m, k, i + 1, ()), ()) ⟨by show (0 : Int) ≤ i + 1; omega, h1, h2⟩ (by simp; omega)
    have hi' : i < k.length := by omega
    have hb : i.toNat < m.length := by omega
    have hb' : i.toNat < k.length := by omega
    simp only [jd h0 hi, jd h0 hi', qas]
    rw [List.drop_eq_getElem_cons hb, List.drop_eq_getElem_cons hb', show i.toNat + 1 = (i + 1).toNat by omega]
    by_cases e : m[i.toNat] = k[i.toNat]
    ·simp [hi, e, hw, hn]
    ·simp [hi, e]
   ·rw [zj hi, zj (l := k) (by omega)]
    simp [hi]
 ·have h : a ≠ b := fun e => hl (by rw [e])
  rw [qy (b := bnot (ieq (qh a) (qh b))) (by simp; omega), decide_eq_false h]
theorem Gr (a b : Reply) : a = b ↔ a.err = b.err ∧ a.kind = b.kind ∧ a.room = b.room ∧ a.coins = b.coins ∧ a.players = b.players ∧ a.items = b.items := by
 cases a; cases b; simp; grind
theorem vf (a b : Reply) (hp : a.players.length ≤ 1000000000) (hi : a.items.length ≤ 1000000000) : kH a b = some (decide (a = b)) := by
 unfold kH
 rw [Ko _ _ hp, qd2 _ _ hi]
 simp only [qg]
 by_cases h : a.err = b.err ∧ a.kind = b.kind ∧ a.room = b.room ∧ a.coins = b.coins
 ·obtain ⟨h1, h2, h3, h4⟩ := h
  rw [qy (by simp [h1, h2, h3, h4])]
  by_cases h5 : a.players = b.players
  ·rw [qy (decide_eq_true h5)]
   congr 1
   simp [Gr, h1, h2, h3, h4, h5]
  ·rw [qz (decide_eq_false h5)]
   congr 1
   simp [Gr, h5]
 ·rw [qz (by
   simp only [Bool.and_eq_false_iff, decide_eq_false_iff_not]
   grind)]
  congr 1
  rw [decide_eq_false]
  rintro rfl
  exact h ⟨rfl, rfl, rfl, rfl⟩
theorem Yl (a b : Reply) (hp : a.players.length ≤ 1000000000) (hi : a.items.length ≤ 1000000000) : By a b = some (decide (a = b)) := by
 unfold By
 rw [Ym _ _ hp, Mh _ _ hi]
 simp only [qg, De]
 congr 1
 rw [Bool.eq_iff_iff]
 simp [Gr]
end Go.Sx
