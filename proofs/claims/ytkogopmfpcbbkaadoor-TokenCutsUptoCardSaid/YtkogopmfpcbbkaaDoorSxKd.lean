/-
  SX: contracts' words.
-/
import Derived.Test.YtkogopmfpcbbkaaDoorSxE
set_option linter.unusedVariables false
set_option linter.unusedSimpArgs false
namespace Go.Sx
open Go
/-- A function of such kinds, one argument at a time. -/
@[reducible] def Fn : List Kd → Type → Type
  | [], Z => Z
  | k :: r, Z => k.T → Fn r Z
/-- Results of such kinds. -/
@[reducible] def Rs : List Kd → Type
  | [] => Unit
  | [k] => k.T
  | k :: q :: r => k.T × Rs (q :: r)
def rL : (kr : List Kd) → Rs kr → List AV
  | [], _ => []
  | [k], z => [k.of z]
  | k :: q :: r, z => k.of z.1 :: rL (q :: r) z.2
def rA : (kr : List Kd) → Rs kr → AV
  | [], _ => .tup []
  | [k], z => k.of z
  | k :: q :: r, z => .tup (rL (k :: q :: r) z)
def asRL : (kr : List Kd) → List AV → Option (Rs kr)
  | [], [] => some ()
  | [k], [v] => v.as k
  | k :: q :: r, v :: vs => (v.as k).bind fun x => (asRL (q :: r) vs).bind fun y => some (x, y)
  | _, _ => none
def asR : (kr : List Kd) → AV → Option (Rs kr)
  | [k], v => v.as k
  | [], .tup [] => some ()
  | k :: q :: r, .tup vs => asRL (k :: q :: r) vs
  | _, _ => none
def apK {R Z : Type} : (ks : List Kd) → Fn ks (Option Z) → List AV → (Z → Option R) → Option R
  | [], f, [], k => obind f k
  | k :: r, f, v :: vs, kk => (v.as k).bind fun x => apK r (f x) vs kk
  | _, _, _, _ => none
def ctrOf (ks kr : List Kd) (F : Fn ks (Option (Rs kr))) : Ctr := ⟨fun args k => apK ks F args fun z => k (rA kr z)⟩

end Go.Sx
