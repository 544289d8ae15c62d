/-
  SX, part A: what is done with a value comes after the value.
-/
import Derived.Test.YtkogopmfpcbbkaaDoorSxV
set_option linter.unusedVariables false
set_option linter.unusedSimpArgs false
namespace Go.Sx
open Go
variable {R : Type} {E : Env} {M : Mem}

theorem cnd_bind {α β : Type} (b : Bool) (x y : Option α) (f : α → Option β) : (cnd b x y).bind f = cnd b (x.bind f) (y.bind f) := by cases b <;> rfl
theorem cond_bind {α β : Type} (b : Bool) (x y : Option α) (f : α → Option β) : (bif b then x else y : Option α).bind f = bif b then x.bind f else y.bind f := by cases b <;> rfl

theorem loadK_nat (t : TypeId) (a : AV) (k : AV → Option R) : loadK E M t a k = (loadK E M t a some).bind k := by
  unfold loadK
  repeat' split
  all_goals simp [cond_bind, Option.bind_assoc, obind]
theorem idxK_nat (t : TypeId) (x ix : AV) (k : AV → Option R) : idxK E M t x ix k = (idxK E M t x ix some).bind k := by
  unfold idxK
  repeat' split
  all_goals simp [cond_bind, cnd_bind, Option.bind_assoc, obind, cnd]
theorem fieldAddrK_nat (t : TypeId) (x : AV) (f : Nat) (k : AV → Option R) : fieldAddrK E t x f k = (fieldAddrK E t x f some).bind k := by
  unfold fieldAddrK
  repeat' split
  all_goals simp
theorem binK_nat (op : BinOp) (t : TypeId) (c : Bool) (a b : AV) (k : AV → Option R) : binK E op t c a b k = (binK E op t c a b some).bind k := by
  unfold binK
  repeat' split
  all_goals simp [cond_bind, cnd_bind, Option.bind_assoc, obind, cnd]
theorem convK_nat (src dst : TypeId) (x : AV) (k : AV → Option R) : convK E M src dst x k = (convK E M src dst x some).bind k := by
  unfold convK
  repeat' split
  all_goals simp [cond_bind, cnd]
theorem sliceL_nat {α : Type} (l : List α) (lo hi : Option Int) (f : List α → AV) (k : AV → Option R) : sliceL l lo hi (fun l => k (f l)) = (sliceL l lo hi fun l => some (f l)).bind k := by
  unfold sliceL
  repeat' split
  all_goals simp [cond_bind, cnd]
theorem sliceV_nat (b : Nat) (n : Int) (lo hi : Option Int) (k : AV → Option R) : sliceV b n lo hi k = (sliceV b n lo hi some).bind k := by
  unfold sliceV
  repeat' split
  all_goals simp [cond_bind, cnd]
theorem sliceK_nat (t : TypeId) (x : AV) (lo hi mx : Option AV) (k : AV → Option R) : sliceK E M t x lo hi mx k = (sliceK E M t x lo hi mx some).bind k := by
  unfold sliceK
  split
  · rfl
  · rw [Option.bind_assoc]
    congr 1
    funext a
    rw [Option.bind_assoc]
    congr 1
    funext b
    repeat' split
    all_goals simp [cond_bind, cnd, Option.bind_assoc, sliceL_nat _ _ _ _ k, sliceV_nat _ _ _ _ k]
theorem lenK_nat (t : TypeId) (x : AV) (k : AV → Option R) : lenK E M t x k = (lenK E M t x some).bind k := by
  unfold lenK
  repeat' split
  all_goals simp
theorem capK_nat (t : TypeId) (x : AV) (k : AV → Option R) : capK E t x k = (capK E t x some).bind k := by
  unfold capK
  repeat' split
  all_goals simp
theorem lookA_nat (kk : IntKind) (z x : AV) (ok : Bool) (k : AV → Option R) : ∀ (ks vs : List AV), lookA kk z x ok k ks vs = (lookA kk z x ok some ks vs).bind k
  | [], [] => by simp [lookA]
  | [], _ :: _ => by simp [lookA]
  | v :: _, [] => by cases v <;> simp [lookA]
  | y :: ks, v :: vs => by
    cases y <;> simp [lookA, cond_bind, cnd_bind, Option.bind_assoc, lookA_nat kk z x ok k ks vs]
theorem lookupK_nat (t : TypeId) (m x : AV) (ok : Bool) (k : AV → Option R) : lookupK E M t m x ok k = (lookupK E M t m x ok some).bind k := by
  unfold lookupK
  repeat' split
  all_goals simp [cond_bind, cnd, lookA_nat _ _ _ _ k]
theorem calmK_nat (hctr : ∀ f c, look E.ctr f = some c → ∀ (R : Type) (args : List AV) (k : AV → Option R), c.run args k = (c.run args some).bind k) (ev : Operand → AV) (slot : Nat) (o : Oper) (k : AV → Option Blk → Option R) :
    calmK E ev M slot o k = (calmK E ev M slot o fun v b => some (v, b)).bind fun p => k p.1 p.2 := by
  unfold calmK
  split
  · rfl
  · repeat' split
    all_goals simp
  · repeat' split
    all_goals simp [cnd_bind]
  · repeat' split
    all_goals simp
  · repeat' split
    all_goals simp [cond_bind]
  · repeat' split
    all_goals simp [Option.bind_assoc]
  · repeat' split
    all_goals simp [cond_bind, Option.bind_assoc]
  · rw [loadK_nat _ _ (fun v => k v none), loadK_nat _ _ (fun v => some (v, none)), Option.bind_assoc]; rfl
  · repeat' split
    all_goals simp
  · rw [binK_nat _ _ _ _ _ (fun v => k v none), binK_nat _ _ _ _ _ (fun v => some (v, none)), Option.bind_assoc]; rfl
  · repeat' split
    all_goals simp
  · rw [convK_nat _ _ _ (fun v => k v none), convK_nat _ _ _ (fun v => some (v, none)), Option.bind_assoc]; rfl
  · rfl
  · repeat' split
    all_goals simp
  · repeat' split
    all_goals simp [cond_bind, cnd_bind]
  · rw [sliceK_nat _ _ _ _ _ (fun v => k v none), sliceK_nat _ _ _ _ _ (fun v => some (v, none)), Option.bind_assoc]; rfl
  · rw [fieldAddrK_nat _ _ _ (fun v => k v none), fieldAddrK_nat _ _ _ (fun v => some (v, none)), Option.bind_assoc]; rfl
  · repeat' split
    all_goals simp [Option.bind_assoc]
  · rw [idxK_nat _ _ _ (fun v => k v none), idxK_nat _ _ _ (fun v => some (v, none)), Option.bind_assoc]; rfl
  · repeat' split
    all_goals simp [obind, Option.bind_assoc]
  · rw [lookupK_nat _ _ _ _ (fun v => k v none), lookupK_nat _ _ _ _ (fun v => some (v, none)), Option.bind_assoc]; rfl
  · repeat' split
    all_goals simp
  · split
    · split
      · split
        · rw [lenK_nat _ _ (fun v => k v none), lenK_nat _ _ (fun v => some (v, none)), Option.bind_assoc]; rfl
        · rfl
      · repeat' split
        all_goals simp
      · repeat' split
        all_goals simp
      · split
        · rw [capK_nat _ _ (fun v => k v none), capK_nat _ _ (fun v => some (v, none)), Option.bind_assoc]; rfl
        · rfl
      · rfl
    · split
      · split
        · rename_i ct hct
          rw [Option.bind_assoc]
          congr 1
          funext vs
          rw [hctr _ _ hct _ _ (fun v => k v none), hctr _ _ hct _ _ (fun v => some (v, none)), Option.bind_assoc]; rfl
        · rfl
      · rfl
    · rfl
  · rfl
end Go.Sx
