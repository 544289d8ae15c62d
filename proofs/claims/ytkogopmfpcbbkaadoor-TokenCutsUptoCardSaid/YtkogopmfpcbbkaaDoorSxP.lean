/-
  SX, part P: the primitives that the evaluator leaves standing.
-/
import Derived.Test.YtkogopmfpcbbkaaDoorSxK
set_option linter.unusedVariables false
set_option linter.unusedSimpArgs false
namespace Go.Sx
open Go
@[reducible] def cnd {α : Type} (b : Bool) (x y : α) : α := bif b then x else y
@[reducible] def obind {α β : Type} (o : Option α) (f : α → Option β) : Option β := o.bind f
@[reducible] def ile (a b : Int) : Bool := decide (a ≤ b)
@[reducible] def ilt (a b : Int) : Bool := decide (a < b)
@[reducible] def ieq (a b : Int) : Bool := decide (a = b)
@[reducible] def beq' (a b : Bool) : Bool := a == b
@[reducible] def bnot (a : Bool) : Bool := !a
@[reducible] def band (a b : Bool) : Bool := a && b
@[reducible] def iadd (a b : Int) : Int := a + b
@[reducible] def isub (a b : Int) : Int := a - b
@[reducible] def imul (a b : Int) : Int := a * b
@[reducible] def iquo (a b : Int) : Int := a.tdiv b
@[reducible] def irem (a b : Int) : Int := a.tmod b
@[reducible] def wrap (k : IntKind) (n : Int) : Int := k.wrap n
@[reducible] def imin (a b : Int) : Int := if b < a then b else a
@[reducible] def imax (a b : Int) : Int := if b > a then b else a
@[reducible] def seq (a b : Str) : Bool := decide (a = b)
@[reducible] def slt (a b : Str) : Bool := Op.bytesLess a b
@[reducible] def ilen {α : Type} (l : List α) : Int := l.foldr (fun _ n => n + 1) 0
@[reducible] def lget {α : Type} (l : List α) (j : Int) : Option α := if 0 ≤ j then l[j.toNat]? else none
@[reducible] def ltake {α : Type} (l : List α) (n : Int) : List α := l.take n.toNat
@[reducible] def ldrop {α : Type} (l : List α) (n : Int) : List α := l.drop n.toNat
@[reducible] def lapp {α : Type} (l r : List α) : List α := l ++ r
@[reducible] def lset {α : Type} (l : List α) (j : Int) (x : α) : List α := l.set j.toNat x
@[reducible] def lrep {α : Type} (n : Int) (x : α) : List α := List.replicate n.toNat x
@[reducible] def igetD (l : List Int) (j : Int) : Int := l.getD j.toNat 0
@[reducible] def u8i (c : UInt8) : Int := (c.toNat : Int)
def u8s (s : Str) : List Int := s.map fun b => (b.toNat : Int)
def ofU8s (l : List Int) : Str := l.map fun n => UInt8.ofNat n.toNat
@[reducible] def allU8 (l : List Int) : Bool := l.all fun n => decide (0 ≤ n ∧ n < 256)
def mfind {kk kv : Kd} (l : List (kk.T × kv.T)) (x : kk.T) : Option kv.T := (l.find? fun p => kk.beq x p.1).map (·.2)
def mins {kk kv : Kd} : List (kk.T × kv.T) → kk.T → kv.T → List (kk.T × kv.T)
  | [], x, v => [(x, v)]
  | p :: r, x, v => bif kk.beq x p.1 then (x, v) :: r else p :: mins r x v
@[reducible] def odef {α : Type} (o : Option α) (d : α) : α := o.getD d
@[reducible] def ois {α : Type} (o : Option α) : Bool := o.isSome
@[reducible] def scase {α β γ : Type} (o : α ⊕ β) (f : α → γ) (g : β → γ) : γ := match o with
  | .inl x => f x
  | .inr y => g y
/-- Rounds, L at most. -/
def iter {X O : Type} (T : (X → Option O) → X → Option O) : Nat → X → Option O
  | 0, _ => none
  | L + 1, x => T (iter T L) x
theorem ilen_eq {α : Type} : ∀ (l : List α), ilen l = (l.length : Int)
  | [] => rfl
  | _ :: r => by
    have := ilen_eq r
    show ilen r + 1 = _
    rw [this]; simp
end Go.Sx
