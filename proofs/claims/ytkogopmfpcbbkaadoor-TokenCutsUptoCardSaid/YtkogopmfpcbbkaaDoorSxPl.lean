/-
  SX: words for the plain laws.
-/
import Derived.Test.YtkogopmfpcbbkaaDoorSxEn
import Derived.IntWalk
set_option linter.unusedVariables false
set_option linter.unusedSimpArgs false
namespace Go.Sx
open Go

theorem iter_eq {X O : Type} {T : (X → Option O) → X → Option O} (m : X → Nat) (inv : X → Prop) (g : X → Option O)
    (h : ∀ (x : X) (rec : X → Option O), inv x → (∀ y, inv y → m y < m x → rec y = g y) → T rec x = g x) : ∀ (L : Nat) (x : X), inv x → m x < L → iter T L x = g x
  | 0, x, _, hm => by omega
  | L + 1, x, hi, hm => h x (iter T L) hi fun y hy hym => iter_eq m inv g h L y hy (by omega)
theorem iter_big {X O : Type} {T : (X → Option O) → X → Option O} (m : X → Nat) (inv : X → Prop) (g : X → Option O)
    (h : ∀ (x : X) (rec : X → Option O), inv x → (∀ y, inv y → m y < m x → rec y = g y) → T rec x = g x) {x : X} (hi : inv x) (hm : m x < 18446744073709551616) : iter T bigL x = g x :=
  iter_eq m inv g h bigL x hi hm
theorem cnd_if {α : Type} (b : Bool) (x y : α) : cnd b x y = if b = true then x else y := by cases b <;> rfl
theorem cnd_t {α : Type} {b : Bool} {x y : α} (h : b = true) : cnd b x y = x := by subst h; rfl
theorem cnd_f {α : Type} {b : Bool} {x y : α} (h : b = false) : cnd b x y = y := by subst h; rfl
theorem obind_some {α β : Type} (x : α) (f : α → Option β) : obind (some x) f = f x := rfl
theorem lget_in {α : Type} {l : List α} {j : Int} (h0 : 0 ≤ j) (h : j < l.length) : lget l j = some (l[j.toNat]'(by omega)) := by
  unfold lget
  rw [if_pos h0]
  exact List.getElem?_eq_getElem _
/-- The number at a place. -/
def gi (l : List Int) (p : Int) : Int := l.getD p.toNat 0
theorem lget_ints {l : List Int} {j : Int} (h0 : 0 ≤ j) (h : j < l.length) : lget l j = some (gi l j) := by
  rw [lget_in h0 h]
  simp [gi, List.getD, List.getElem?_eq_getElem (show j.toNat < l.length by omega)]
theorem drop_step {l : List Int} {i : Int} (h0 : 0 ≤ i) (h : i < l.length) : l.drop i.toNat = gi l i :: l.drop (i + 1).toNat := by
  rw [List.drop_eq_getElem_cons (show i.toNat < l.length by omega), show (i + 1).toNat = i.toNat + 1 by omega]
  simp [gi, List.getD, List.getElem?_eq_getElem (show i.toNat < l.length by omega)]
theorem drop_end {α : Type} {l : List α} {i : Int} (h : ¬ i < l.length) : l.drop i.toNat = [] := List.drop_eq_nil_of_le (by omega)
theorem gi_mem {l : List Int} {i : Int} (h0 : 0 ≤ i) (h : i < l.length) : gi l i ∈ l := by
  have : gi l i = l[i.toNat]'(by omega) := by simp [gi, List.getD, List.getElem?_eq_getElem (show i.toNat < l.length by omega)]
  rw [this]
  exact List.getElem_mem _
theorem gi_set {l : List Int} {p q : Int} {n : Int} (h0 : 0 ≤ p) (h1 : 0 ≤ q) (h : p < l.length) : gi (l.set p.toNat n) q = if q = p then n else gi l q := by
  unfold gi
  simp only [List.getD_eq_getElem?_getD, List.getElem?_set]
  by_cases e : q = p
  · subst e
    rw [if_pos rfl, if_pos (by omega), if_pos rfl]; rfl
  · rw [if_neg (by omega), if_neg e]
theorem lget_nat {α : Type} {l : List α} {j : Nat} (h : j < l.length) : lget l (j : Int) = some l[j] := by
  rw [lget_in (by omega) (by omega)]
  simp
theorem wrap_in {n : Int} (h : -9223372036854775808 ≤ n) (h' : n ≤ 9223372036854775807) : wrap .i64 n = n := IntWalk.i64_in n ⟨h, h'⟩
/-! What a law's inputs are like. -/
theorem wfA_cons {k : Kd} {r : List Kd} {x : Lf (k :: r)} (h : ∀ m, wfA m (k :: r) x) : (∀ m, wfL (wf m) k.kdl (k.flds x.1)) ∧ ∀ m, wfA m r x.2 := ⟨fun m => (h m).1, fun m => (h m).2⟩
theorem wf_int {k : IntKind} {y : Int} (h : ∀ m, wfL (wf m) (Kd.kdl (.int k)) ((Kd.int k).flds y)) : k.min ≤ y ∧ y ≤ k.max := (h 1).1
theorem wf_str {y : Str} (h : ∀ m, wfL (wf m) (Kd.kdl .str) (Kd.flds .str y)) : y.length ≤ 140737488351232 := (h 1).1
theorem wf_len {e : Kd} {l : List e.T} (h : ∀ m, wfL (wf m) (Kd.kdl (.sl e)) (Kd.flds (.sl e) l)) : l.length * e.bytes ≤ 140737488351232 := (h 1).1.1
theorem wf_mem {e : Kd} {l : List e.T} (h : ∀ m, wfL (wf m) (Kd.kdl (.sl e)) (Kd.flds (.sl e) l)) {y : e.T} (hy : y ∈ l) : ∀ m, wfL (wf m) e.kdl (e.flds y) := fun m => (h (m + 1)).1.2 y hy
theorem wf_i64 {y : Int} (h : ∀ m, wfL (wf m) (Kd.kdl (.int .i64)) ((Kd.int .i64).flds y)) : -9223372036854775808 ≤ y ∧ y ≤ 9223372036854775807 := wf_int h
theorem wf_u32 {y : Int} (h : ∀ m, wfL (wf m) (Kd.kdl (.int .u32)) ((Kd.int .u32).flds y)) : 0 ≤ y ∧ y ≤ 4294967295 := wf_int h
theorem wf_u16 {y : Int} (h : ∀ m, wfL (wf m) (Kd.kdl (.int .u16)) ((Kd.int .u16).flds y)) : 0 ≤ y ∧ y ≤ 65535 := wf_int h
theorem wf_u8 {y : Int} (h : ∀ m, wfL (wf m) (Kd.kdl (.int .u8)) ((Kd.int .u8).flds y)) : 0 ≤ y ∧ y ≤ 255 := wf_int h
theorem wf_len64 {l : List Int} (h : ∀ m, wfL (wf m) (Kd.kdl (.sl (.int .i64))) (Kd.flds (.sl (.int .i64)) l)) : l.length ≤ 17592186043904 := by
  have := wf_len h
  have e : (Kd.int IntKind.i64).bytes = 8 := rfl
  rw [e] at this
  omega
theorem wf_len8 {l : List Int} (h : ∀ m, wfL (wf m) (Kd.kdl (.sl (.int .u8))) (Kd.flds (.sl (.int .u8)) l)) : l.length ≤ 140737488351232 := by
  have := wf_len h
  have e : (Kd.int IntKind.u8).bytes = 1 := rfl
  rw [e] at this
  omega
theorem wf_len16 {l : List Int} (h : ∀ m, wfL (wf m) (Kd.kdl (.sl (.int .u16))) (Kd.flds (.sl (.int .u16)) l)) : l.length ≤ 70368744175616 := by
  have := wf_len h
  have e : (Kd.int IntKind.u16).bytes = 2 := rfl
  rw [e] at this
  omega
theorem cat_ok {α : Type} {x y : Str} {A B : α} (h : x.length + y.length ≤ 1000000000000) : cnd (ilt (iadd (ilen x) (ilen y)) 4611686018427387904) A B = A :=
  cnd_t (decide_eq_true (by show ilen x + ilen y < _; rw [ilen_eq, ilen_eq]; omega))
theorem bind_some' {α β : Type} (x : α) (f : α → Option β) : (some x).bind f = f x := rfl
attribute [simp] cnd obind ile ilt ieq beq' bnot band iadd isub imul irem ltake ldrop lapp lset lrep odef ois scase ilen_eq Bool.cond_eq_ite
end Go.Sx
