/-
  SX, part E: the evaluator, in continuation style, over abstract values.
-/
import Derived.Test.YtkogopmfpcbbkaaDoorSxP
set_option linter.unusedVariables false
set_option linter.unusedSimpArgs false
namespace Go.Sx
open Go

/-- The shape of a type. -/
inductive Sh where
  | int (k : IntKind)
  | bool | str
  | ptr (e : TypeId)
  | sl (e : TypeId)
  | arr (n : Nat) (e : TypeId)
  | st (fs : List (Nat × TypeId))
  | map (k e : TypeId)
  | iface | func
  | oth
/-- What the evaluator knows of a type. -/
structure TyI where
  agg : Bool
  size : Nat
  bytes : Nat
  zero : List AV
  kd : Option Kd
  sh : Sh
/-- A contract, in continuation style. -/
structure Ctr where
  run : {R : Type} → List AV → (AV → Option R) → Option R
structure Env where
  ty : List (Nat × TyI)
  ctr : List (Nat × Ctr)
  inl : List (Nat × Func)
  eqs : List (Nat × Nat)
  glob : List (Nat × List AV)
  L : Nat

/-! Lookups that the kernel does in few steps. -/
noncomputable def look {α : Type _} (l : List (Nat × α)) (n : Nat) : Option α :=
  @List.rec (Nat × α) (fun _ => Option α) none (fun x _ ih => @Bool.rec (fun _ => Option α) ih (some x.2) (Nat.beq x.1 n)) l
theorem look_nil {α : Type _} (n : Nat) : look ([] : List (Nat × α)) n = none := rfl
theorem look_cons {α : Type _} (x : Nat × α) (r : List (Nat × α)) (n : Nat) : look (x :: r) n = bif Nat.beq x.1 n then some x.2 else look r n := by
  show @Bool.rec (fun _ => Option α) (look r n) (some x.2) (Nat.beq x.1 n) = _
  cases Nat.beq x.1 n <;> rfl
noncomputable def nthq (l : List AV) (n : Nat) : Option AV :=
  @List.rec AV (fun _ => Nat → Option AV) (fun _ => none) (fun v _ ih n => @Nat.rec (fun _ => Option AV) (some v) (fun m _ => ih m) n) l n
theorem nthq_eq : ∀ (l : List AV) (n : Nat), nthq l n = l[n]?
  | [], _ => by simp [nthq]
  | v :: r, 0 => rfl
  | v :: r, n + 1 => (nthq_eq r n).trans (by simp)
noncomputable def nthD (l : List AV) (n : Nat) : AV :=
  @List.rec AV (fun _ => Nat → AV) (fun _ => .junk) (fun v _ ih n => @Nat.rec (fun _ => AV) v (fun m _ => ih m) n) l n
theorem nthD_eq : ∀ (l : List AV) (n : Nat), nthD l n = (l[n]?).getD .junk
  | [], _ => by simp [nthD]
  | v :: r, 0 => rfl
  | v :: r, n + 1 => (nthD_eq r n).trans (by simp)
noncomputable def setR (l : List AV) (n : Nat) (x : AV) : List AV :=
  @List.rec AV (fun _ => Nat → List AV) (fun _ => []) (fun v r ih n => @Nat.rec (fun _ => List AV) (x :: r) (fun m _ => v :: ih m) n) l n
noncomputable def junks (n : Nat) : List AV := @Nat.rec (fun _ => List AV) [] (fun _ ih => .junk :: ih) n
theorem junks_eq : ∀ n, junks n = List.replicate n .junk
  | 0 => rfl
  | n + 1 => by
    show AV.junk :: junks n = _
    rw [junks_eq n]; rfl
theorem setR_eq : ∀ (l : List AV) (n : Nat) (x : AV), setR l n x = l.set n x
  | [], _, _ => by simp [setR]
  | v :: r, 0, _ => rfl
  | v :: r, n + 1, x => by
    show v :: setR r n x = _
    rw [setR_eq r n x]; rfl

noncomputable def Env.t (E : Env) (t : TypeId) : Option TyI := look E.ty t

noncomputable def constAV : Value → AV
  | .int k n => .int k n
  | .bool b => .bool b
  | .string s => .str s.data.toList
  | .pointer none => .nilp
  | .slice none 0 0 => .nilsl
  | .map none => .nilm
  | .nilFunc => .nilf
  | .nilIface => .nili
  | .func (.func f) a c => bif a.toList.isEmpty && c.toList.isEmpty then .func f [] [] else .junk
  | _ => .junk
noncomputable def evO (T : List AV) : Operand → AV
  | .tmp t => nthD T t
  | .const v => constAV v
  | .global g => .gp g 0
  | .func f => .func f [] []

/-! Forcing: the same, with what it names laid open. -/
noncomputable def fv {α : Type} (v : AV) (k : AV → α) : α :=
  @AV.casesOn (fun _ => α) v (k .junk) (k .undef) (fun a b => k (.int a b)) (fun a => k (.bool a)) (fun a => k (.str a)) (fun a b => k (.sl a b)) (fun a b => k (.slc a b))
    (k .nilsl) (k .nilp) (k .nilf) (k .nilm) (k .nili) (k .err) (fun a b => k (.ptr a b)) (fun a b c d => k (.pidx a b c d)) (fun a b => k (.dref a b)) (fun a b c d => k (.didx a b c d))
    (fun a => k (.vec a)) (fun a b c => k (.vsl a b c)) (fun a b c => k (.vref a b c)) (fun a b c => k (.csl a b c)) (fun a => k (.agg a)) (fun a => k (.tup a)) (fun a b c => k (.func a b c)) (fun a => k (.mref a)) (fun a b => k (.gp a b))
theorem fv_eq {α : Type} (v : AV) (k : AV → α) : fv v k = k v := by cases v <;> rfl
noncomputable def fL {α : Type} (l : List AV) : (List AV → α) → α := @List.rec AV (fun _ => (List AV → α) → α) (fun k => k []) (fun v _ ih k => fv v fun v => ih fun r => k (v :: r)) l
theorem fL_eq {α : Type} : ∀ (l : List AV) (k : List AV → α), fL l k = k l
  | [], _ => rfl
  | v :: r, k => by
    show fv v (fun v => fL r fun r => k (v :: r)) = _
    rw [fv_eq, fL_eq r]
/-- Lays open the first places, up to one. -/
noncomputable def fat {α : Type} (n : Nat) : List AV → (List AV → α) → α :=
  @Nat.rec (fun _ => List AV → (List AV → α) → α) (fun l k => @List.casesOn AV (fun _ => α) l (k []) (fun v r => fv v fun v => k (v :: r)))
    (fun _ ih l k => @List.casesOn AV (fun _ => α) l (k []) (fun v r => ih r fun r => k (v :: r))) n
theorem fat_eq {α : Type} : ∀ (n : Nat) (l : List AV) (k : List AV → α), fat n l k = k l
  | 0, [], _ => rfl
  | 0, v :: r, k => fv_eq v fun v => k (v :: r)
  | n + 1, [], _ => rfl
  | n + 1, v :: r, k => fat_eq n r fun r => k (v :: r)
noncomputable def fB {α : Type} (b : Blk) (k : Blk → α) : α :=
  @Blk.casesOn (fun _ => α) b (k .dead) (fun cs => fL cs fun cs => k (.cells cs)) (fun e l => k (.vec e l)) (fun e l => k (.fvec e l)) (fun a b l => k (.map a b l)) (fun ks vs => fL ks fun ks => fL vs fun vs => k (.amap ks vs))
theorem fB_eq {α : Type} (b : Blk) (k : Blk → α) : fB b k = k b := by
  cases b <;> first | rfl | (simp only [fB, fL_eq])
noncomputable def fM {α : Type} (l : Mem) : (Mem → α) → α := @List.rec Blk (fun _ => (List Blk → α) → α) (fun k => k []) (fun v _ ih k => fB v fun v => ih fun r => k (v :: r)) l
theorem fM_eq {α : Type} : ∀ (l : Mem) (k : Mem → α), fM l k = k l
  | [], _ => rfl
  | v :: r, k => by
    show fB v (fun v => fM r fun r => k (v :: r)) = _
    rw [fB_eq, fM_eq r]
noncomputable def fS {α : Type} (s : St) (k : St → α) : α := fL s.T fun T => fM s.M fun M => k { s with T := T, M := M }
theorem fS_eq {α : Type} (s : St) (k : St → α) : fS s k = k s := by simp only [fS, fL_eq, fM_eq]
/-- May the operation change memory? -/
noncomputable def memOp (o : Oper) : Bool :=
  match o.op with
  | .move .. | .pick .. | .load .. | .nilCheck .. | .binOp .. | .unOp .. | .convert .. | .slice .. | .fieldAddr .. | .field .. | .indexAddr .. | .index .. | .lookup .. | .extract .. => false
  | _ => true
noncomputable def fO {α : Type} (o : Oper) (s : St) (k : St → α) : α :=
  bif memOp o then fS s k else match o.dst with
  | some d => fat d s.T fun T => k { s with T := T }
  | none => k s
theorem fO_eq {α : Type} (o : Oper) (s : St) (k : St → α) : fO o s k = k s := by
  unfold fO
  cases memOp o with
  | true => exact fS_eq s k
  | false => cases o.dst with
    | none => rfl
    | some d => exact fat_eq d s.T _

variable {R : Type}

/-- A part of cells: one value of a type. -/
noncomputable def partA (i : TyI) (cs : List AV) (off : Nat) : Option AV :=
  bif i.agg then (bif Nat.ble (off + i.size) cs.length then some (.agg ((cs.drop off).take i.size)) else none) else cs[off]?

noncomputable def selInt (k : IntKind) : List AV → Option (List Int)
  | [] => some []
  | v :: r => (v.asInt k).bind fun n => (selInt k r).bind fun l => some (n :: l)

noncomputable def intOfSh : Sh → Option IntKind
  | .int k => some k
  | _ => none

/-- Reading memory. -/
noncomputable def loadK (E : Env) (M : Mem) (t : TypeId) (a : AV) (k : AV → Option R) : Option R :=
  match E.t t with
  | none => none
  | some i =>
    match a with
    | .ptr b off => match M[b]? with
      | some (.cells cs) => (partA i cs off).bind k
      | _ => none
    | .dref cs off => (partA i cs off).bind k
    | .vref b j off => match M[b]? with
      | some (.vec e l) => obind (lget l j) fun x => (partA i (e.cells x) off).bind k
      | some (.fvec e l) => obind (lget l j) fun x => (partA i (e.cells x) off).bind k
      | _ => none
    | .didx cs off n j => match intOfSh i.sh with
      | some kk => bif Nat.ble (off + n) cs.length then (selInt kk ((cs.drop off).take n)).bind fun l => k (.int kk (igetD l j)) else none
      | none => none
    | .pidx b off n j => match intOfSh i.sh, M[b]? with
      | some kk, some (.cells cs) => bif Nat.ble (off + n) cs.length then (selInt kk ((cs.drop off).take n)).bind fun l => k (.int kk (igetD l j)) else none
      | _, _ => none
    | .gp g off => (look E.glob g).bind fun cs => (partA i cs off).bind k
    | _ => none

noncomputable def litOf : Int → Option Nat
  | .ofNat n => some n
  | .negSucc _ => none

/-- Are elements of this type as great as those of a kind? -/
noncomputable def esz (E : Env) (e : TypeId) (k : Kd) : Bool :=
  match E.t e with
  | some i => Nat.beq i.size k.size
  | none => false
/-- The address of an element. -/
noncomputable def idxK (E : Env) (M : Mem) (t : TypeId) (x ix : AV) (k : AV → Option R) : Option R :=
  match E.t t, ix with
  | some i, .int _ j =>
    match i.sh, x with
    | .sl et, .sl e l => bif esz E et e then obind (lget l j) fun y => k (.dref (e.cells y) 0) else none
    | .sl et, .slc e l => bif esz E et e then obind (lget l j) fun y => k (.dref (e.cells y) 0) else none
    | .sl et, .vec b => match M[b]? with
      | some (.vec e l) => bif esz E et e then cnd (ile 0 j) (cnd (ilt j (ilen l)) (k (.vref b j 0)) none) none else none
      | some (.fvec e l) => bif esz E et e then cnd (ile 0 j) (cnd (ilt j (ilen l)) (k (.vref b j 0)) none) none else none
      | _ => none
    | .sl et, .vsl b lo hi => match M[b]? with
      | some (.vec e l) => bif esz E et e then cnd (ile 0 j) (cnd (ilt j (ilen (ldrop (ltake l hi) lo))) (k (.vref b (iadd lo j) 0)) none) none else none
      | some (.fvec e l) => bif esz E et e then cnd (ile 0 j) (cnd (ilt j (ilen (ldrop (ltake l hi) lo))) (k (.vref b (iadd lo j) 0)) none) none else none
      | _ => none
    | .sl e, .csl b off len => match E.t e with
      | some ei => match j with
        | .ofNat n => bif Nat.blt n len then k (.ptr b (off + n * ei.size)) else none
        | _ => none
      | none => none
    | .arr n e, .ptr b off => match E.t e with
      | some ei => bif Nat.beq ei.size 1 then (cnd (ile 0 j) (cnd (ilt j n) (k (.pidx b off n j)) none) none) else none
      | none => none
    | .arr n e, .dref cs off => match E.t e with
      | some ei => bif Nat.beq ei.size 1 then (cnd (ile 0 j) (cnd (ilt j n) (k (.didx cs off n j)) none) none) else none
      | none => none
    | _, _ => none
  | _, _ => none

noncomputable def fieldOf : Sh → Nat → Option (Nat × TypeId)
  | .st fs, f => fs[f]?
  | _, _ => none

noncomputable def fieldAddrK (E : Env) (t : TypeId) (x : AV) (f : Nat) (k : AV → Option R) : Option R :=
  match E.t t with
  | none => none
  | some i => match fieldOf i.sh f with
    | none => none
    | some p => match x with
      | .ptr b off => k (.ptr b (off + p.1))
      | .dref cs off => k (.dref cs (off + p.1))
      | .vref b j off => k (.vref b j (off + p.1))
      | .gp g off => k (.gp g (off + p.1))
      | _ => none

/-- A value read as data. -/
noncomputable def dataOf (M : Mem) : AV → Option AV
  | .int k n => some (.int k n)
  | .bool b => some (.bool b)
  | .str s => some (.str s)
  | .sl e l => some (.sl e l)
  | .slc e l => some (.sl e l)
  | .nilsl => some .nilsl
  | .nilp => some .nilp
  | .nilf => some .nilf
  | .nilm => some .nilm
  | .nili => some .nili
  | .err => some .err
  | .vec b => match M[b]? with
    | some (.fvec e l) => some (.sl e l)
    | _ => none
  | .vsl b lo hi => match M[b]? with
    | some (.fvec e l) => some (.sl e (ldrop (ltake l hi) lo))
    | _ => none
  | _ => none
noncomputable def datasOf (M : Mem) : List AV → Option (List AV)
  | [] => some []
  | v :: r => (dataOf M v).bind fun v => (datasOf M r).bind fun r => some (v :: r)
noncomputable def dataArg (M : Mem) : AV → Option AV
  | .agg cs => (datasOf M cs).bind fun cs => some (.agg cs)
  | v => dataOf M v
noncomputable def dataArgs (M : Mem) : List AV → Option (List AV)
  | [] => some []
  | v :: r => (dataArg M v).bind fun v => (dataArgs M r).bind fun r => some (v :: r)

/-- Every slice of the call's own that a value holds is frozen from here on. -/
noncomputable def frzB : Blk → Blk
  | .vec e l => .fvec e l
  | b => b
noncomputable def frz1 (M : Mem) : AV → Mem
  | .vec b => M.modify b frzB
  | .vsl b _ _ => M.modify b frzB
  | _ => M
noncomputable def frzs (M : Mem) : List AV → Mem
  | [] => M
  | v :: r => frzs (frz1 M v) r
noncomputable def frz (M : Mem) : AV → Mem
  | .agg cs => frzs M cs
  | v => frz1 M v
noncomputable def frzArgs (M : Mem) : List AV → Mem
  | [] => M
  | v :: r => frzArgs (frz M v) r

noncomputable def cmpI (op : BinOp) (x y : Int) : Option Bool :=
  match op with
  | .eql => some (ieq x y)
  | .neq => some (bnot (ieq x y))
  | .lss => some (ilt x y)
  | .leq => some (ile x y)
  | .gtr => some (ilt y x)
  | .geq => some (ile y x)
  | _ => none
noncomputable def cellEq : AV → AV → Option Bool
  | .int k a, .int k' b => if k = k' then some (ieq a b) else none
  | .bool a, .bool b => some (beq' a b)
  | .str a, .str b => some (seq a b)
  | _, _ => none
noncomputable def cellsEq : List AV → List AV → Option Bool
  | [], [] => some true
  | [a], [b] => cellEq a b
  | a :: r, b :: s => (cellEq a b).bind fun x => (cellsEq r s).bind fun y => some (band x y)
  | _, _ => none
noncomputable def isConstO : Operand → Bool
  | .const _ => true
  | _ => false
noncomputable def nilEq (cst : Bool) : Sh → AV → AV → Option Bool
  | .iface, .nili, .nili => bif cst then some true else none
  | .iface, .nili, .err => some false
  | .iface, .err, .nili => some false
  | .ptr _, .nilp, .nilp => some true
  | .ptr _, .nilp, .ptr _ _ => some false
  | .ptr _, .ptr _ _, .nilp => some false
  | .func, .nilf, .nilf => some true
  | .func, .func _ _ _, .nilf => some false
  | _, _, _ => none

noncomputable def binK (E : Env) (op : BinOp) (t : TypeId) (cst : Bool) (a b : AV) (k : AV → Option R) : Option R :=
  match a, b with
  | .int kx x, .int ky y =>
    if kx = ky then
      match op with
      | .add => k (.int kx (wrap kx (iadd x y)))
      | .sub => k (.int kx (wrap kx (isub x y)))
      | .mul => k (.int kx (wrap kx (imul x y)))
      | .quo => cnd (ieq y 0) none (k (.int kx (wrap kx (iquo x y))))
      | .rem => cnd (ieq y 0) none (k (.int kx (irem x y)))
      | op => (cmpI op x y).bind fun b => k (.bool b)
    else none
  | .bool x, .bool y =>
    match E.t t with
    | some i => match i.sh, op with
      | .bool, .eql => k (.bool (beq' x y))
      | .bool, .neq => k (.bool (bnot (beq' x y)))
      | _, _ => none
    | none => none
  | .str x, .str y =>
    match op with
    | .add => cnd (ilt (iadd (ilen x) (ilen y)) 4611686018427387904) (k (.str (lapp x y))) none
    | .eql => k (.bool (seq x y))
    | .neq => k (.bool (bnot (seq x y)))
    | .lss => k (.bool (slt x y))
    | .geq => k (.bool (bnot (slt x y)))
    | _ => none
  | .agg x, .agg y =>
    match look E.eqs t with
    | some n => bif Nat.beq x.length n && Nat.beq y.length n then
      (match op with
       | .eql => (cellsEq x y).bind fun b => k (.bool b)
       | .neq => (cellsEq x y).bind fun b => k (.bool (bnot b))
       | _ => none) else none
    | none => none
  | x, y =>
    match E.t t with
    | some i => match op with
      | .eql => (nilEq cst i.sh x y).bind fun b => k (.bool b)
      | .neq => (nilEq cst i.sh x y).bind fun b => k (.bool (bnot b))
      | _ => none
    | none => none


/-- A conversion that makes no memory. -/
noncomputable def convK (E : Env) (M : Mem) (src dst : TypeId) (x : AV) (k : AV → Option R) : Option R :=
  match E.t src, E.t dst with
  | some j, some i => match i.sh, x with
    | .int kk, .int _ n => k (.int kk (wrap kk n))
    | .str, .str s => k (.str s)
    | .str, .vec b => match j.sh with
      | .sl e => match (E.t e).map TyI.sh, M[b]? with
        | some (Sh.int .u8), some (Blk.vec (.int .u8) l) => cnd (allU8 l) (k (.str (ofU8s l))) none
        | some (Sh.int .u8), some (Blk.fvec (.int .u8) l) => cnd (allU8 l) (k (.str (ofU8s l))) none
        | _, _ => none
      | _ => none
    | _, _ => none
  | _, _ => none

/-- x[lo:hi:max]. A bound behind the length is not taken. -/
noncomputable def natOf : AV → Option Int
  | .int _ n => some n
  | _ => none
noncomputable def optNat : Option AV → Option (Option Int)
  | none => some none
  | some v => (natOf v).bind fun n => some (some n)
noncomputable def sliceL {α : Type} (l : List α) (lo hi : Option Int) (k : List α → Option R) : Option R :=
  match lo, hi with
  | none, none => k l
  | some a, none => cnd (ile 0 a) (cnd (ile a (ilen l)) (k (ldrop l a)) none) none
  | none, some b => cnd (ile 0 b) (cnd (ile b (ilen l)) (k (ltake l b)) none) none
  | some a, some b => cnd (ile 0 a) (cnd (ile a b) (cnd (ile b (ilen l)) (k (ldrop (ltake l b) a)) none) none) none
noncomputable def sliceV (b : Nat) (n : Int) (lo hi : Option Int) (k : AV → Option R) : Option R :=
  match lo, hi with
  | none, none => k (.vec b)
  | some a, none => cnd (ile 0 a) (cnd (ile a n) (k (.vsl b a n)) none) none
  | none, some c => cnd (ile 0 c) (cnd (ile c n) (k (.vsl b 0 c)) none) none
  | some a, some c => cnd (ile 0 a) (cnd (ile a c) (cnd (ile c n) (k (.vsl b a c)) none) none) none
noncomputable def sameO : Option AV → Option AV → Bool
  | some (.int _ a), some (.int _ b) => decide (a = b)
  | _, _ => false
noncomputable def strsOf : List AV → Option (List Str)
  | [] => some []
  | v :: r => v.asStr.bind fun s => (strsOf r).bind fun l => some (s :: l)
noncomputable def sliceK (E : Env) (M : Mem) (t : TypeId) (x : AV) (lo hi mx : Option AV) (k : AV → Option R) : Option R :=
  match E.t t with
  | none => none
  | some i => (optNat lo).bind fun lo => (optNat hi).bind fun hi' =>
    match i.sh, x, mx with
    | .str, .str s, none => sliceL s lo hi' fun l => k (.str l)
    | .sl et, .sl e l, none => bif esz E et e then sliceL l lo hi' fun l => k (.sl e l) else none
    | .sl et, .slc e l, none => bif esz E et e then sliceL l lo hi' fun l => k (.sl e l) else none
    | .sl et, .sl e l, some m => bif esz E et e then (match hi', natOf m with
      | some h, some m => cnd (ieq m h) (sliceL l lo (some h) fun l => k (.slc e l)) none
      | _, _ => none) else none
    | .sl et, .vec b, none => match M[b]? with
      | some (.vec e l) => bif esz E et e then sliceV b (ilen l) lo hi' k else none
      | some (.fvec e l) => bif esz E et e then sliceV b (ilen l) lo hi' k else none
      | _ => none
    | .sl e, .nilsl, none => match lo, hi', E.t e with
      | none, none, some _ => k .nilsl
      | none, some n, some _ => cnd (ieq n 0) (k .nilsl) none
      | _, _, _ => none
    | .arr n e, .ptr b off, none => match lo, hi', E.t e with
      | none, none, some _ => k (.csl b off n)
      | _, _, _ => none
    | .arr n e, .gp g off, none => match lo, hi', E.t e with
      | none, none, some ei => match ei.kd, look E.glob g with
        | some .str, some cs => bif Nat.beq off 0 && Nat.beq cs.length n && Nat.beq ei.size 1 then (strsOf cs).bind fun l => k (.sl .str l) else none
        | _, _ => none
      | _, _, _ => none
    | _, _, _ => none

/-- The elements of a slice literal. -/
noncomputable def elemsOf (e : Kd) : List AV → Option (List e.T)
  | [] => some []
  | v :: r => (v.as e).bind fun x => (elemsOf e r).bind fun l => some (x :: l)
/-- All places of a literal, in order. -/
noncomputable def inOrder : Nat → List (Nat × Operand) → Bool
  | _, [] => true
  | n, p :: r => Nat.beq p.1 n && inOrder (n + 1) r
noncomputable def fillA (cs : List AV) (off : Nat) (v : AV) : List AV :=
  match v with
  | .agg vs => cs.take off ++ vs ++ cs.drop (off + vs.length)
  | v => cs.set off v
/-- Does a value fill just so many cells? -/
noncomputable def fitsA (size : Nat) : AV → Bool
  | .agg vs => Nat.beq vs.length size
  | .tup _ => false
  | .junk => false
  | .undef => false
  | _ => Nat.beq size 1
noncomputable def buildA (E : Env) (fs : List (Nat × TypeId)) (ev : Operand → AV) : List AV → List (Nat × Operand) → Option (List AV)
  | cs, [] => some cs
  | cs, p :: r => match fs[p.1]? with
    | some f => match E.t f.2 with
      | some fi => bif fitsA fi.size (ev p.2) && Nat.ble (f.1 + fi.size) cs.length then buildA E fs ev (fillA cs f.1 (ev p.2)) r else none
      | none => none
    | none => none
noncomputable def buildArr (size : Nat) (ev : Operand → AV) : List AV → List (Nat × Operand) → Option (List AV)
  | cs, [] => some cs
  | cs, p :: r => bif fitsA size (ev p.2) && Nat.ble (p.1 * size + size) cs.length then buildArr size ev (fillA cs (p.1 * size) (ev p.2)) r else none

/-- Values' cells, one behind the other. -/
noncomputable def flatA : List AV → List AV
  | [] => []
  | .agg cs :: r => cs ++ flatA r
  | v :: r => v :: flatA r

noncomputable def mapOps (o : Option Operand) (ev : Operand → AV) : Option AV := o.map ev

noncomputable def lenK (E : Env) (M : Mem) (t : TypeId) (x : AV) (k : AV → Option R) : Option R :=
  match E.t t with
  | none => none
  | some i => match i.sh, x with
    | .str, .str s => k (.int .i64 (ilen s))
    | .sl _, .sl _ l => k (.int .i64 (ilen l))
    | .sl _, .slc _ l => k (.int .i64 (ilen l))
    | .sl _, .nilsl => k (.int .i64 0)
    | .sl _, .csl _ _ n => k (.int .i64 n)
    | .sl _, .vec b => match M[b]? with
      | some (.vec _ l) => k (.int .i64 (ilen l))
      | some (.fvec _ l) => k (.int .i64 (ilen l))
      | _ => none
    | .sl _, .vsl b lo hi => match M[b]? with
      | some (.vec _ l) => k (.int .i64 (ilen (ldrop (ltake l hi) lo)))
      | some (.fvec _ l) => k (.int .i64 (ilen (ldrop (ltake l hi) lo)))
      | _ => none
    | .map _ _, .mref b => match M[b]? with
      | some (.map _ _ l) => k (.int .i64 (ilen l))
      | _ => none
    | _, _ => none

noncomputable def capK (E : Env) (t : TypeId) (x : AV) (k : AV → Option R) : Option R :=
  match E.t t with
  | none => none
  | some i => match i.sh, x with
    | .sl _, .nilsl => k (.int .i64 0)
    | _, _ => none

noncomputable def callFn : AV → List AV → Option (Nat × List AV)
  | .func f first cap, args => some (f, first ++ args ++ cap)
  | _, _ => none

noncomputable def lookA (kk : IntKind) (zero : AV) (x : AV) (ok : Bool) (k : AV → Option R) : List AV → List AV → Option R
  | .int kk' y :: ks, v :: vs => bif decide (kk = kk') then (x.asInt kk).bind fun n => cnd (ieq n y) (k (bif ok then .tup [v, .bool true] else v)) (lookA kk zero x ok k ks vs) else none
  | [], [] => k (bif ok then .tup [zero, .bool false] else zero)
  | _, _ => none
noncomputable def lookupK (E : Env) (M : Mem) (t : TypeId) (m x : AV) (ok : Bool) (k : AV → Option R) : Option R :=
  match E.t t with
  | none => none
  | some i => match i.sh, m, x with
    | .map kt et, .mref b, .int kk n => match E.t kt, E.t et with
      | some ki, some ei => match ki.sh with
        | .int kk1 => bif decide (kk1 = kk) && bnot ei.agg then (match M[b]? with
          | some (Blk.map (.int kk') kv l) => bif decide (kk' = kk) && decide (ei.kd = some kv) then
              (bif ok then k (.tup [kv.of (odef (mfind l n) kv.zero), .bool (ois (mfind l n))]) else k (kv.of (odef (mfind l n) kv.zero))) else none
          | some (Blk.amap ks vs) => match ei.zero with
            | [z] => lookA kk z (.int kk n) ok k ks vs
            | _ => none
          | _ => none) else none
        | _ => none
      | _, _ => none
    | _, _, _ => none

/-- An operation that writes nothing that is there: its value, and the content of its own new block, if it makes one ('slot' is its number). -/
noncomputable def calmK (E : Env) (ev : Operand → AV) (M : Mem) (slot : Nat) (o : Oper) (k : AV → Option Blk → Option R) : Option R :=
  match o.op with
  | .move x => k (ev x) none
  | .assign x => match ev x with
    | .nilsl => match (E.t o.type).bind fun i => match i.sh with | .sl e => (E.t e).bind fun j => j.kd | _ => none with
      | some kd => k (.vec slot) (some (.vec kd []))
      | none => k .nilsl none
    | v => k v none
  | .pick c a b => match ev c with
    | .bool t => cnd t (k (ev a) none) (k (ev b) none)
    | _ => none
  | .alloc t => match E.t t with
    | some i => k (.ptr slot 0) (some (.cells i.zero))
    | none => none
  | .box t v => match E.t t with
    | some i => match ev v with
      | .agg cs => bif Nat.beq cs.length i.size then k (.ptr slot 0) (some (.cells cs)) else none
      | .tup _ => none
      | .junk => none
      | .undef => none
      | x => bif Nat.beq i.size 1 then k (.ptr slot 0) (some (.cells [x])) else none
    | none => none
  | .build t parts => match E.t t with
    | some i => match i.sh with
      | .st fs => (buildA E fs ev i.zero parts.toList).bind fun cs => k (.agg cs) none
      | .arr _ e => match E.t e with
        | some ei => (buildArr ei.size ev i.zero parts.toList).bind fun cs => k (.agg cs) none
        | none => none
      | _ => none
    | none => none
  | .buildSlice t len parts => match E.t t with
    | some i => match i.sh with
      | .sl e => match E.t e with
        | some ei => bif inOrder 0 parts.toList && Nat.beq parts.toList.length len && Nat.ble (len * ei.size) 1000 && Nat.blt 0 ei.size && parts.toList.all (fun p => fitsA ei.size (ev p.2)) then
            (match ei.kd with
             | some kd => (dataArgs M (parts.toList.map fun p => ev p.2)).bind fun vs => (elemsOf kd vs).bind fun l => k (.vec slot) (some (.vec kd l))
             | none => k (.csl slot 0 len) (some (.cells (flatA (parts.toList.map fun p => ev p.2)))))
            else none
        | none => none
      | _ => none
    | none => none
  | .load t a => loadK E M t (ev a) fun v => k v none
  | .nilCheck x => match ev x with
    | .ptr b off => k (.ptr b off) none
    | .dref cs off => k (.dref cs off) none
    | .vref b j off => k (.vref b j off) none
    | .gp g off => k (.gp g off) none
    | .func f a c => k (.func f a c) none
    | _ => none
  | .binOp op t x y _ => binK E op t (isConstO x || isConstO y) (ev x) (ev y) fun v => k v none
  | .unOp op _ x => match op, ev x with
    | .not, .bool b => k (.bool (bnot b)) none
    | .neg, .int kk n => k (.int kk (wrap kk (isub 0 n))) none
    | _, _ => none
  | .convert src dst x => convK E M src dst (ev x) fun v => k v none
  | .makeFunc (.func f) first cap => k (.func f (first.toList.map ev) (cap.toList.map ev)) none
  | .makeMap t none => match E.t t with
    | some i => match i.sh with
      | .map kt et => match E.t kt, E.t et with
        | some ki, some ei => match ki.kd, ei.kd with
          | some kk, some kv => k (.mref slot) (some (.map kk kv []))
          | _, _ => k (.mref slot) (some (.amap [] []))
        | _, _ => none
      | _ => none
    | none => none
  | .makeSlice t l c => match E.t t with
    | some i => match i.sh with
      | .sl e => match E.t e with
        | some ei => match ei.kd, ev l, ev c with
          | some kd, .int .i64 n, .int .i64 m => bif Nat.blt 0 ei.bytes then cnd (ile 0 n) (cnd (ile n m) (cnd (ilt (imul m ei.bytes) 281474976710657) (k (.vec slot) (some (.vec kd (lrep n kd.zero)))) none) none) none else none
          | _, _, _ => none
        | none => none
      | _ => none
    | none => none
  | .slice t x lo hi mx => sliceK E M t (ev x) (mapOps lo ev) (mapOps hi ev) (mapOps mx ev) fun v => k v none
  | .fieldAddr t x f => fieldAddrK E t (ev x) f fun v => k v none
  | .field t x f => match E.t t with
    | some i => match fieldOf i.sh f, ev x with
      | some p, .agg cs => match E.t p.2 with
        | some fi => (partA fi cs p.1).bind fun v => k v none
        | none => none
      | _, _ => none
    | none => none
  | .indexAddr t x ix => idxK E M t (ev x) (ev ix) fun v => k v none
  | .index t x ix => match E.t t with
    | some i => match i.sh, ev x, ev ix with
      | .str, .str s, .int _ j => obind (lget s j) fun c => k (.int .u8 (u8i c)) none
      | _, _, _ => none
    | none => none
  | .lookup t m x ok => lookupK E M t (ev m) (ev x) ok fun v => k v none
  | .extract t ix => match ev t with
    | .tup vs => match vs[ix]? with
      | some v => k v none
      | none => none
    | _ => none
  | .call c => match c.callee with
    | .builtin b => match b with
      | .len => match c.args.toList, c.argTypes.toList with
        | x :: _, t :: _ => lenK E M t (ev x) fun v => k v none
        | _, _ => none
      | .min => match c.args.toList.map ev with
        | [.int kx x, .int _ y] => k (.int kx (imin x y)) none
        | _ => none
      | .max => match c.args.toList.map ev with
        | [.int kx x, .int _ y] => k (.int kx (imax x y)) none
        | _ => none
      | .cap => match c.args.toList, c.argTypes.toList with
        | x :: _, t :: _ => capK E t (ev x) fun v => k v none
        | _, _ => none
      | _ => none
    | .value f => match callFn (ev f) (c.args.toList.map ev) with
      | some p => match look E.ctr p.1 with
        | some ct => (dataArgs M p.2).bind fun vs => ct.run vs fun v => k v none
        | none => none
      | none => none
    | _ => none
  | _ => none

/-- Is it an operation that writes, or a call of a function that is walked in place? -/
noncomputable def isCallIn (E : Env) (ev : Operand → AV) (o : Oper) : Option (Nat × Func × List AV) :=
  match o.op with
  | .call c => match c.callee with
    | .value f => match callFn (ev f) (c.args.toList.map ev) with
      | some p => match look E.inl p.1 with
        | some fn => some (p.1, fn, p.2)
        | none => none
      | none => none
    | _ => none
  | _ => none

mutual
/-- A value without what is said of a slice of the call's own. -/
noncomputable def AV.kill (b : Nat) : AV → AV
  | .vec c => bif Nat.beq c b then .junk else .vec c
  | .vsl c i j => bif Nat.beq c b then .junk else .vsl c i j
  | .vref c i j => bif Nat.beq c b then .junk else .vref c i j
  | .agg cs => .agg (AV.kills b cs)
  | .tup cs => .tup (AV.kills b cs)
  | .func f x y => .func f (AV.kills b x) (AV.kills b y)
  | v => v
noncomputable def AV.kills (b : Nat) : List AV → List AV
  | [] => []
  | v :: r => AV.kill b v :: AV.kills b r
end
noncomputable def Blk.kill (b : Nat) : Blk → Blk
  | .cells cs => .cells (AV.kills b cs)
  | .amap ks vs => .amap (AV.kills b ks) (AV.kills b vs)
  | x => x
noncomputable def St.kill (b : Nat) (s : St) : St := { s with T := AV.kills b s.T, M := s.M.map (Blk.kill b) }

/-- A slice of the call's own, shorter: whoever else knows it knows it no more. -/
noncomputable def St.cutV (b : Nat) (kd : Kd) (l : List kd.T) (s : St) : St := { s.kill b with M := (s.kill b).M.set b (.vec kd l) }

/-- A slice's elements, as of a kind. -/
noncomputable def listOf (M : Mem) (e : Kd) : AV → Option (List e.T)
  | .vec b => match M[b]? with
    | some (.vec e' l) => if h : e' = e then some (castL h l) else none
    | some (.fvec e' l) => if h : e' = e then some (castL h l) else none
    | _ => none
  | .vsl b lo hi => match M[b]? with
    | some (.vec e' l) => if h : e' = e then some (ldrop (ltake (castL h l) hi) lo) else none
    | some (.fvec e' l) => if h : e' = e then some (ldrop (ltake (castL h l) hi) lo) else none
    | _ => none
  | .str s => if h : e = .int .u8 then some (h ▸ (u8s s : List (Kd.int .u8).T)) else none
  | v => v.asSl e

noncomputable def St.put (s : St) (d : Option Nat) (v : AV) : St :=
  match d with
  | some d => { s with T := setR s.T d v }
  | none => s

noncomputable def storeCells (cs : List AV) (off : Nat) : AV → Option (List AV)
  | .agg vs => bif Nat.ble (off + vs.length) cs.length then some (cs.take off ++ vs ++ cs.drop (off + vs.length)) else none
  | .tup _ => none
  | .junk => none
  | .undef => none
  | v => bif Nat.blt off cs.length then some (cs.set off v) else none

noncomputable def setInt (k : IntKind) (j : Int) (v : Int) : Nat → List AV → List AV
  | _, [] => []
  | i, .int k' n :: r => .int k' (cnd (ieq j i) v n) :: setInt k j v (i + 1) r
  | i, x :: r => x :: setInt k j v (i + 1) r

/-- Is it a key of that kind, and another one? -/
noncomputable def newKey (kk : IntKind) (n : Int) : AV → Bool
  | .int k m => decide (k = kk) && bnot (decide (n = m))
  | _ => false
/-- A value of one cell. -/
noncomputable def oneA : AV → Bool
  | .agg _ => false
  | .tup _ => false
  | .junk => false
  | .undef => false
  | _ => true
/-- Is it a type of which 'append' takes elements? -/
noncomputable def srcSh : Sh → Bool
  | .sl _ => true
  | .str => true
  | _ => false
/-- An operation that writes. -/
noncomputable def wildK (E : Env) (o : Oper) (s : St) (k : St → Option R) : Option R :=
  match o.op with
  | .store t a x => match E.t t with
    | none => none
    | some i => bif fitsA i.size (evO s.T x) then (match evO s.T a with
      | .ptr b off => match s.M[b]? with
        | some (.cells cs) => (storeCells cs off (evO s.T x)).bind fun cs => k (({ s with M := s.M.set b (.cells cs) } : St).put o.dst .junk)
        | _ => none
      | .vref b j off => match (frz s.M (evO s.T x))[b]? with
        | some (.vec e l) => obind (lget l j) fun y => (dataArg (frz s.M (evO s.T x)) (evO s.T x)).bind fun v => (storeCells (e.cells y) off v).bind fun cs => (e.ofCells cs).bind fun y' =>
            k (({ s with M := (frz s.M (evO s.T x)).set b (.vec e (lset l j y')) } : St).put o.dst .junk)
        | _ => none
      | .pidx b off n j => match s.M[b]?, evO s.T x with
        | some (.cells cs), .int kk v => bif Nat.ble (off + n) cs.length then ((selInt kk ((cs.drop off).take n)).bind fun _ =>
            k (({ s with M := s.M.set b (.cells (cs.take off ++ setInt kk j v 0 ((cs.drop off).take n) ++ cs.drop (off + n))) } : St).put o.dst .junk)) else none
        | _, _ => none
      | _ => none) else none
  | .mapUpdate t m x v | .insert t m x v => match E.t t with
    | none => none
    | some i => match i.sh with
      | .map kt _ => match (E.t kt).map TyI.sh, evO s.T m, evO s.T x with
        | some (.int kk), .mref b, .int kk' n => bif decide (kk' = kk) then (match (frz s.M (evO s.T v))[b]? with
          | some (.map (.int kk1) kv l) => bif decide (kk1 = kk) then ((dataArg (frz s.M (evO s.T v)) (evO s.T v)).bind fun z => (z.as kv).bind fun z => k (({ s with M := (frz s.M (evO s.T v)).set b (.map (.int kk1) kv (mins l n z)) } : St).put o.dst .junk)) else none
          | some (.amap ks vs) => bif ks.all (newKey kk n) && oneA (evO s.T v) then k (({ s with M := (frz s.M (evO s.T v)).set b (.amap (ks ++ [.int kk n]) (vs ++ [evO s.T v])) } : St).put o.dst .junk) else none
          | _ => none) else none
        | _, _, _ => none
      | _ => none
  | .call c => match c.callee with
    | .builtin .append => match c.args.toList, c.argTypes.toList with
      | [x, y], [t, u] => match (E.t t).map TyI.sh, (E.t u).map TyI.sh with
        | some (.sl e), some us => match E.t e with
          | some ei => match ei.kd with
            | some kd => bif srcSh us && Nat.blt 0 ei.bytes then (match evO s.T x with
              | .vec b => match s.M[b]? with
                | some (.vec e' l) => if h : e' = kd then
                    (listOf s.M kd (evO s.T y)).bind fun l2 =>
                    bif s.lock.any (Nat.beq b) then none else cnd (ilt (imul (iadd (ilen l) (ilen l2)) ei.bytes) 140737488355329)
                      (k (({ (s.kill b) with M := (s.kill b).M.set b (.vec kd (lapp (castL h l) l2)) } : St).put o.dst (.vec b))) none
                  else none
                | _ => none
              | .slc e' l => if h : e' = kd then
                    (listOf s.M kd (evO s.T y)).bind fun l2 =>
                    cnd (ilt 0 (ilen l2)) (cnd (ilt (imul (iadd (ilen l) (ilen l2)) ei.bytes) 140737488355329)
                      (k (({ s with M := s.M ++ [.vec kd (lapp (castL h l) l2)] } : St).put o.dst (.vec s.M.length))) none) none
                  else none
              | .vsl b lo hi => match s.M[b]?, evO s.T y with
                | some (.vec e' l), .sl e2 l2 => if h : e' = kd ∧ e2 = kd then
                    bif s.lock.any (Nat.beq b) then none else cnd (ieq lo 0) (cnd (ilt (imul (iadd (ilen (ltake (castL h.1 l) hi)) (ilen (castL h.2 l2))) ei.bytes) 140737488355329)
                      (k (({ ((s.cutV b kd (ltake (castL h.1 l) hi)).kill b) with M := ((s.cutV b kd (ltake (castL h.1 l) hi)).kill b).M.set b (.vec kd (lapp (ltake (castL h.1 l) hi) (castL h.2 l2))) } : St).put o.dst (.vec b))) none) none
                  else none
                | _, _ => none
              | .nilsl => (listOf s.M kd (evO s.T y)).bind fun l2 =>
                    cnd (ilt (imul (ilen l2) ei.bytes) 140737488355329)
                      (k (({ s with M := s.M ++ [.vec kd l2] } : St).put o.dst (.vec s.M.length))) none
              | _ => none) else none
            | none => none
          | none => none
        | _, _ => none
      | _, _ => none
    | .builtin .copy => match c.args.toList, c.argTypes.toList with
      | [x, y], [t, _] => match (E.t t).map TyI.sh with
        | some (.sl e) => match E.t e with
          | some ei => match ei.kd, evO s.T x with
            | some kd, .vec b => match s.M[b]? with
              | some (.vec e' l) => if h : e' = kd then
                  (listOf s.M kd (evO s.T y)).bind fun l2 =>
                    k (({ s with M := s.M.set b (.vec kd (lapp (ltake l2 (ilen l)) (ldrop (castL h l) (ilen l2)))) } : St).put o.dst (.int .i64 (imin (ilen l2) (ilen l))))
                else none
              | _ => none
            | _, _ => none
          | none => none
        | _ => none
      | _, _ => none
    | _ => none
  | _ => none

noncomputable def isWild (o : Oper) : Bool :=
  match o.op with
  | .store .. | .mapUpdate .. | .insert .. => true
  | .call c => match c.callee with
    | .builtin .append | .builtin .copy => true
    | _ => false
  | _ => false

/-- What a calm operation's arguments freeze. -/
noncomputable def frzOp (ev : Operand → AV) (M : Mem) (o : Oper) : Mem :=
  match o.op with
  | .call c => match c.callee with
    | .value _ => frzArgs M (c.args.toList.map ev)
    | _ => M
  | .buildSlice _ _ ps => frzArgs M (ps.toList.map fun p => ev p.2)
  | _ => M

noncomputable def pushO (M : Mem) : Option Blk → Mem
  | some b => M ++ [b]
  | none => M

noncomputable def res1 (E : Env) (s : St) : ResultVar → Option AV
  | .tmp t => s.T[t]?
  | .cell a t => match E.t t, s.T[a]? with
    | some i, some (.ptr b 0) => match s.M[b]? with
      | some (.cells cs) => partA i cs 0
      | _ => none
    | _, _ => none
noncomputable def resL (E : Env) (s : St) : List ResultVar → Option (List AV)
  | [] => some []
  | r :: rs => (res1 E s r).bind fun v => (resL E s rs).bind fun vs => some (v :: vs)
noncomputable def resAV (E : Env) (fn : Func) (s : St) : Option AV :=
  (resL E s fn.results.toList).bind fun vs => match vs with
    | [v] => some v
    | vs => some (.tup vs)

/-- The operation's guard. -/
noncomputable def guardK (ops : Array Oper) (o : Oper) (s : St) (yes no : St → Option R) : Option R :=
  match o.guard with
  | none => yes s
  | some (j, want) => match (ops[j]?).bind (·.dst) with
    | none => none
    | some g => match nthq s.T g with
      | some (.bool t) => cnd t (bif want then yes { s with T := setR s.T g (.bool true) } else no { s with T := setR s.T g (.bool true) })
          (bif want then no { s with T := setR s.T g (.bool false) } else yes { s with T := setR s.T g (.bool false) })
      | some .undef => no s
      | _ => none

abbrev RunIn (R : Type) := Nat → Func → List AV → St → (AV → St → Option R) → Option R

/-- A value without references. -/
noncomputable def plain1 : AV → Bool
  | .int _ _ => true
  | .bool _ => true
  | .str _ => true
  | _ => false
noncomputable def plainA : AV → Bool
  | .tup cs => cs.all plain1
  | v => plain1 v
/-- One operation, of a region that keeps its order. -/
noncomputable def opK (E : Env) (run : RunIn R) (ops : Array Oper) (o : Oper) (s : St) (k : St → Option R) : Option R :=
  guardK ops o s (fun s =>
    bif isWild o then wildK E o s k else
    match isCallIn E (evO s.T) o with
    | some (f, fn, args) => run f fn args s fun v s => k (s.put o.dst v)
    | none => calmK E (evO s.T) (frzOp (evO s.T) s.M o) s.M.length o fun v b => k (({ s with M := bif plainA v && b.isNone then s.M else pushO (frzOp (evO s.T) s.M o) b } : St).put o.dst v))
    (fun s => k (s.put o.dst .undef))
noncomputable def opsK (E : Env) (run : RunIn R) (ops : Array Oper) : List Oper → St → (St → Option R) → Option R
  | [], s, k => k s
  | o :: r, s, k => opK E run ops o s fun s => fO o s fun s => opsK E run ops r s k

/-! Regions that draw their order: calm operations first, each in memory that has only what it waits for; then the rest, each behind all ahead of it. -/
noncomputable def isT (t : Nat) : Operand → Bool
  | .tmp u => Nat.beq u t
  | _ => false
/-- What an operation names. -/
noncomputable def evM (T : List AV) (o : Oper) : Operand → AV
  | .tmp t => bif o.op.operands.toList.any (isT t) then evO T (.tmp t) else .junk
  | x => evO T x
/-- What an operation waits for, one number's bits for each. -/
noncomputable def bef1 (acc : List Nat) : List Edge → Nat
  | [] => 0
  | e :: r => bif Region.binds .any e then Nat.lor (Nat.lor (2 ^ e.on) (acc.getD e.on 0)) (bef1 acc r) else bef1 acc r
noncomputable def befL : List Oper → List Nat → List Nat
  | [], acc => acc
  | o :: r, acc => befL r (acc ++ [bef1 acc o.after.toList])
/-- The memory that operation i sees: of the region's own blocks just those of operations that are ahead of it for sure. -/
noncomputable def restr (n0 : Nat) (bits : Nat) : Nat → Mem → Mem
  | _, [] => []
  | i, b :: r => (bif Nat.blt i n0 then b else bif Nat.testBit bits (i - n0) then b else .dead) :: restr n0 bits (i + 1) r
noncomputable def frzV : Option Blk → Blk
  | some b => frzB b
  | none => .dead
noncomputable def calmsK (E : Env) (ops : Array Oper) (bf : List Nat) (n0 : Nat) : Nat → List Oper → St → (St → Option R) → Option R
  | _, [], s, k => k s
  | i, o :: r, s, k =>
    guardK ops o s (fun s =>
      calmK E (evM s.T o) (restr n0 (bf.getD i 0) 0 s.M) (n0 + i) o fun v b =>
        fS (({ s with M := s.M.set (n0 + i) (frzV b) } : St).put o.dst v) fun s => calmsK E ops bf n0 (i + 1) r s k)
      (fun s => fO o (s.put o.dst .undef) fun s => calmsK E ops bf n0 (i + 1) r s k)
noncomputable def isTail (E : Env) (o : Oper) : Bool :=
  isWild o || (match o.op with
    | .call c => match c.callee with
      | .value (.func f) => (look E.inl f).isSome
      | .value (.tmp _) => true
      | _ => false
    | _ => false)
/-- How many operations stand ahead of the first one that writes. -/
noncomputable def headLen (E : Env) : List Oper → Nat
  | [] => 0
  | o :: r => bif isTail E o then 0 else headLen E r + 1
noncomputable def apartAt (ops : Array Oper) (i j : Nat) : Bool :=
  match ops[i]?, ops[j]? with
  | some x, some y => x.apart ops y
  | _, _ => false
/-- Of two of the first m operations one waits for the other one, or neither looks at what the other one gives; from place m on each waits for all that stand ahead of it. -/
noncomputable def drawOK (ops : Array Oper) (bf : List Nat) (m n : Nat) : Bool :=
  (List.range n).all fun j => Nat.blt (bf.getD j 0) (2 ^ j) && (bif Nat.blt j m then (List.range j).all (fun i => Nat.testBit (bf.getD j 0) i || apartAt ops i j) else Nat.beq (bf.getD j 0 + 1) (2 ^ j))
noncomputable def frzAll (T : List AV) : List Oper → Mem → Mem
  | [], M => M
  | o :: r, M => frzAll T r (frzOp (evO T) M o)

noncomputable def drawK (E : Env) (run : RunIn R) (ops : Array Oper) (s : St) (k : St → Option R) : Option R :=
  bif drawOK ops (befL ops.toList []) (headLen E ops.toList) ops.toList.length then
    calmsK E ops (befL ops.toList []) s.M.length 0 (ops.toList.take (headLen E ops.toList)) { s with M := frzAll s.T (ops.toList.take (headLen E ops.toList)) s.M ++ List.replicate (headLen E ops.toList) .dead } fun s =>
      opsK E run ops (ops.toList.drop (headLen E ops.toList)) s k
  else none

inductive Ex where
  | normal
  | exit (id : Nat)
  | goto (l : Nat)
  | ret

noncomputable def firstReg : Code → Option Nat
  | .region id _ _ => some id
  | .seq a b => match firstReg a with
    | some i => some i
    | none => firstReg b
  | .cond _ a b => match firstReg a with
    | some i => some i
    | none => firstReg b
  | .block _ c => firstReg c
  | .loop c => firstReg c
  | .scope c => firstReg c
  | _ => none

/-! Patterns of states: what is said of a loop's head and of its ends. -/
inductive Pt where
  | int (k : IntKind)
  | bool | str
  | sl (e : Kd)
  | ptr (b off : Nat)
  | vec (b : Nat)
  | mref (b : Nat)
  | nilsl
  | func (f : Nat) (first cap : List (Nat × Nat))
  | agg (n : Nat)
  | csl (b off n : Nat)
  | lit (k : IntKind) (n : Int)
  | junk
inductive BP where
  | dead
  | cells (ps : List Pt)
  | vec (e : Kd)
  | fvec (e : Kd)
  | map (kk kv : Kd)
@[reducible] def PTs : List Pt → Type
  | [] => Unit
  | .int _ :: ps => Int × PTs ps
  | .bool :: ps => Bool × PTs ps
  | .str :: ps => Str × PTs ps
  | .sl e :: ps => List e.T × PTs ps
  | _ :: ps => PTs ps
@[reducible] def BTs : List BP → Type
  | [] => Unit
  | .cells ps :: r => PTs ps × BTs r
  | .vec e :: r => List e.T × BTs r
  | .fvec e :: r => List e.T × BTs r
  | .map kk kv :: r => List (kk.T × kv.T) × BTs r
  | .dead :: r => BTs r
structure SPat where
  nt : Nat
  ix : List Nat
  tp : List Pt
  mp : List BP
  lock : List Nat
  lo : Nat
@[reducible] def SPat.X (p : SPat) : Type := PTs p.tp × BTs p.mp

noncomputable def isPtr (b off : Nat) : AV → Bool
  | .ptr b' o' => Nat.beq b' b && Nat.beq o' off
  | _ => false
noncomputable def arePtrs : List (Nat × Nat) → List AV → Bool
  | [], [] => true
  | p :: r, v :: s => isPtr p.1 p.2 v && arePtrs r s
  | _, _ => false
noncomputable def isVec (b : Nat) : AV → Bool
  | .vec b' => Nat.beq b' b
  | _ => false
noncomputable def isMref (b : Nat) : AV → Bool
  | .mref b' => Nat.beq b' b
  | _ => false
noncomputable def isNilsl : AV → Bool
  | .nilsl => true
  | _ => false
noncomputable def isFunc (f : Nat) (x y : List (Nat × Nat)) : AV → Bool
  | .func g a c => Nat.beq g f && arePtrs x a && arePtrs y c
  | _ => false
noncomputable def isCsl (b off n : Nat) : AV → Bool
  | .csl b' o' n' => Nat.beq b' b && (Nat.beq o' off && Nat.beq n' n)
  | _ => false
noncomputable def isLit (k : IntKind) (n : Int) : AV → Bool
  | .int k' m => decide (k' = k) && ieq m n
  | _ => false
noncomputable def matchP : (ps : List Pt) → List AV → Option (PTs ps)
  | [], [] => some ()
  | .int k :: ps, v :: vs => (v.asInt k).bind fun n => (matchP ps vs).bind fun r => some (n, r)
  | .bool :: ps, v :: vs => v.asBool.bind fun n => (matchP ps vs).bind fun r => some (n, r)
  | .str :: ps, v :: vs => v.asStr.bind fun n => (matchP ps vs).bind fun r => some (n, r)
  | .sl e :: ps, v :: vs => (v.asSl e).bind fun n => (matchP ps vs).bind fun r => some (n, r)
  | .ptr b off :: ps, v :: vs => bif isPtr b off v then matchP ps vs else none
  | .vec b :: ps, v :: vs => bif isVec b v then matchP ps vs else none
  | .mref b :: ps, v :: vs => bif isMref b v then matchP ps vs else none
  | .nilsl :: ps, v :: vs => bif isNilsl v then matchP ps vs else none
  | .func f x y :: ps, v :: vs => bif isFunc f x y v then matchP ps vs else none
  | .agg n :: ps, v :: vs => match v with
    | .agg cs => bif Nat.beq cs.length n then matchP ps (cs ++ vs) else none
    | _ => none
  | .csl b off n :: ps, v :: vs => bif isCsl b off n v then matchP ps vs else none
  | .lit k n :: ps, v :: vs => bif isLit k n v then matchP ps vs else none
  | .junk :: ps, _ :: vs => matchP ps vs
  | _, _ => none
noncomputable def ptrs (l : List (Nat × Nat)) : List AV := l.map fun p => .ptr p.1 p.2
noncomputable def buildP : (ps : List Pt) → PTs ps → List AV
  | [], _ => []
  | .int k :: ps, x => .int k x.1 :: buildP ps x.2
  | .bool :: ps, x => .bool x.1 :: buildP ps x.2
  | .str :: ps, x => .str x.1 :: buildP ps x.2
  | .sl e :: ps, x => .sl e x.1 :: buildP ps x.2
  | .ptr b off :: ps, x => .ptr b off :: buildP ps x
  | .vec b :: ps, x => .vec b :: buildP ps x
  | .mref b :: ps, x => .mref b :: buildP ps x
  | .nilsl :: ps, x => .nilsl :: buildP ps x
  | .func f a c :: ps, x => .func f (ptrs a) (ptrs c) :: buildP ps x
  | .agg n :: ps, x => .agg ((buildP ps x).take n) :: (buildP ps x).drop n
  | .csl b off n :: ps, x => .csl b off n :: buildP ps x
  | .lit k n :: ps, x => .int k n :: buildP ps x
  | .junk :: ps, x => .junk :: buildP ps x
noncomputable def matchB : (bs : List BP) → List Blk → Option (BTs bs)
  | [], _ => some ()
  | .dead :: bs, _ :: r => matchB bs r
  | .cells ps :: bs, .cells cs :: r => (matchP ps cs).bind fun x => (matchB bs r).bind fun y => some (x, y)
  | .vec e :: bs, .vec e' l :: r => if h : e' = e then (matchB bs r).bind fun y => some (castL h l, y) else none
  | .fvec e :: bs, .fvec e' l :: r => if h : e' = e then (matchB bs r).bind fun y => some (castL h l, y) else none
  | .map kk kv :: bs, .map kk' kv' l :: r => if h : kk' = kk ∧ kv' = kv then (matchB bs r).bind fun y => some (h.1 ▸ h.2 ▸ l, y) else none
  | _, _ => none
noncomputable def buildB : (bs : List BP) → BTs bs → List Blk
  | [], _ => []
  | .dead :: bs, x => .dead :: buildB bs x
  | .cells ps :: bs, x => .cells (buildP ps x.1) :: buildB bs x.2
  | .vec e :: bs, x => .vec e x.1 :: buildB bs x.2
  | .fvec e :: bs, x => .fvec e x.1 :: buildB bs x.2
  | .map kk kv :: bs, x => .map kk kv x.1 :: buildB bs x.2
noncomputable def pickT (T : List AV) : List Nat → List AV
  | [] => []
  | i :: r => nthD T i :: pickT T r
noncomputable def putT : List AV → List Nat → List AV → List AV
  | T, i :: r, v :: vs => putT (setR T i v) r vs
  | T, _, _ => T
noncomputable def natsEq : List Nat → List Nat → Bool
  | [], [] => true
  | a :: r, b :: s => Nat.beq a b && natsEq r s
  | _, _ => false
mutual
/-- The blocks that a value names. -/
noncomputable def AV.ids : AV → List Nat
  | .ptr b _ => [b]
  | .pidx b _ _ _ => [b]
  | .vec b => [b]
  | .vsl b _ _ => [b]
  | .vref b _ _ => [b]
  | .csl b _ _ => [b]
  | .mref b => [b]
  | .agg cs => AV.idss cs
  | .tup cs => AV.idss cs
  | .func _ x y => AV.idss x ++ AV.idss y
  | _ => []
noncomputable def AV.idss : List AV → List Nat
  | [] => []
  | v :: r => AV.ids v ++ AV.idss r
end
/-- Every block that is named is there. -/
noncomputable def Blk.ids : Blk → List Nat
  | .cells cs => AV.idss cs
  | .amap ks vs => AV.idss ks ++ AV.idss vs
  | _ => []
/-- Blocks that a pattern has dead are frozen, slices of them read as data. -/
noncomputable def deadsOf : Nat → List BP → List Nat
  | _, [] => []
  | i, .dead :: r => i :: deadsOf (i + 1) r
  | i, _ :: r => deadsOf (i + 1) r
noncomputable def frzAt : List Nat → Mem → Mem
  | [], M => M
  | i :: r, M => frzAt r (M.modify i frzB)
noncomputable def toD (M : Mem) (v : AV) : AV :=
  match v with
  | .vec b => (dataOf M (.vec b)).getD (.vec b)
  | .vsl b i j => (dataOf M (.vsl b i j)).getD (.vsl b i j)
  | v => v
/-- Slices that hold nothing yet and are nobody's, behind the memory's end, where the pattern has some. -/
noncomputable def growB : List BP → List Blk
  | [] => []
  | .vec e :: r => .vec e [] :: growB r
  | _ :: r => .dead :: growB r
noncomputable def isVecAt (M : Mem) (b : Nat) : Bool :=
  match M[b]? with
  | some (.vec _ _) => true
  | _ => false
noncomputable def convV (n0 : Nat) (M : Mem) (p : Pt) (v : AV) : AV :=
  match p, v with
  | .sl _, v => toD M v
  | .vec b, .nilsl => bif Nat.ble n0 b && isVecAt M b then .vec b else .nilsl
  | _, v => v
noncomputable def convC (n0 : Nat) (M : Mem) : List Pt → List AV → List AV
  | p :: ps, v :: vs => convV n0 M p v :: convC n0 M ps vs
  | _, vs => vs
noncomputable def convA (n0 : Nat) (M : Mem) (ps : List Pt) (v : AV) : AV :=
  match v with
  | .agg cs => .agg (convC n0 M ps cs)
  | v => v
noncomputable def convT (n0 : Nat) (M : Mem) : List Nat → List Pt → List AV → List AV
  | i :: ix, .sl e :: ps, T => convT n0 M ix ps (setR T i (convV n0 M (.sl e) (nthD T i)))
  | i :: ix, .vec b :: ps, T => convT n0 M ix ps (setR T i (convV n0 M (.vec b) (nthD T i)))
  | i :: ix, .agg n :: ps, T => convT n0 M ix (ps.drop n) (setR T i (convA n0 M ps (nthD T i)))
  | _ :: ix, _ :: ps, T => convT n0 M ix ps T
  | _, _, T => T
noncomputable def convM (n0 : Nat) (M : Mem) : List BP → Mem → Mem
  | .cells ps :: bs, .cells cs :: r => .cells (convC n0 M ps cs) :: convM n0 M bs r
  | _ :: bs, x :: r => x :: convM n0 M bs r
  | _, r => r
noncomputable def SPat.prepM (p : SPat) (s : St) : Mem := frzAt (deadsOf 0 p.mp) s.M ++ growB (p.mp.drop (frzAt (deadsOf 0 p.mp) s.M).length)
noncomputable def SPat.prep (p : SPat) (s : St) : St :=
  { s with T := convT (frzAt (deadsOf 0 p.mp) s.M).length (p.prepM s) p.ix p.tp s.T, M := convM (frzAt (deadsOf 0 p.mp) s.M).length (p.prepM s) p.mp (p.prepM s) }
noncomputable def SPat.match0 (p : SPat) (s : St) : Option p.X :=
  bif Nat.beq s.T.length p.nt && natsEq s.lock p.lock && Nat.beq s.lo p.lo && Nat.ble p.lo p.mp.length then
    (matchP p.tp (pickT s.T p.ix)).bind fun x => (matchB p.mp s.M).bind fun y => some (x, y)
  else none
noncomputable def SPat.match (p : SPat) (s : St) : Option p.X := p.match0 (p.prep s)
noncomputable def SPat.build (p : SPat) (x : p.X) : St :=
  { T := putT (junks p.nt) p.ix (buildP p.tp x.1), M := buildB p.mp x.2, lock := p.lock, lo := p.lo }
/-- No value of the state names a block from its memory's end on. -/
noncomputable def SPat.closed (p : SPat) : Bool :=
  (p.tp.all (ok p.mp.length)) && p.mp.all fun b => match b with
    | .cells ps => ps.all (ok p.mp.length)
    | _ => true
where ok (n : Nat) : Pt → Bool
  | .ptr b _ => Nat.blt b n
  | .vec b => Nat.blt b n
  | .mref b => Nat.blt b n
  | .func _ x y => x.all (fun p => Nat.blt p.1 n) && y.all (fun p => Nat.blt p.1 n)
  | .csl b _ _ => Nat.blt b n
  | _ => true

noncomputable def Ex.beq : Ex → Ex → Bool
  | .normal, .normal => true
  | .exit i, .exit j => Nat.beq i j
  | .ret, .ret => true
  | .goto i, .goto j => Nat.beq i j
  | _, _ => false

@[reducible] def XS : List (Ex × SPat) → Type
  | [] => Empty
  | [p] => p.2.X
  | p :: r => p.2.X ⊕ XS r
/-- What a loop's end tells. -/
noncomputable def exK : (es : List (Ex × SPat)) → Ex → St → Option (XS es)
  | [], _, _ => none
  | [p], e, s => bif Ex.beq p.1 e then p.2.match s else none
  | p :: q :: r, e, s => match (bif Ex.beq p.1 e then p.2.match s else none : Option p.2.X) with
    | some x => some (.inl x)
    | none => (exK (q :: r) e s).bind fun y => some (.inr y)
noncomputable def exsK : (es : List (Ex × SPat)) → XS es → (Ex → St → Option R) → Option R
  | [], x, _ => nomatch x
  | [p], x, k => k p.1 (p.2.build x)
  | p :: q :: r, x, k => scase x (fun x => k p.1 (p.2.build x)) (fun y => exsK (q :: r) y k)

/-- A loop told: its head, its ends, one round. -/
structure Alt where
  sp : SPat
  es : List (Ex × SPat)
  fu : Nat
  T : (sp.X → Option (XS es)) → sp.X → Option (XS es)
/-- Where ways meet: a state ahead of code whose ways meet behind it, and what is told of its ends. -/
structure Join where
  sp : SPat
  on : Bool
  es : List (Ex × SPat)
structure Hints where
  al : List (Nat × List (Nat × List Alt))
  jn : List (Nat × List (Nat × List Join))
noncomputable def pickJ : List Join → St → Option Join
  | [], _ => none
  | j :: r, s => bif (j.sp.match s).isSome && j.es.all (fun p => p.2.closed) then some j else pickJ r s

/-- Rounds of a loop that is walked as it stands. -/
noncomputable def unrollK (body : St → (Ex → St → Option R) → Option R) (k : Ex → St → Option R) : Nat → St → Option R
  | 0, _ => none
  | L + 1, s => body s fun e s => match e with
    | .normal => unrollK body k L s
    | e => k e s

noncomputable def altK (m : Nat) (L : Nat) : List Alt → St → (Ex → St → Option R) → Option R
  | [], _, _ => none
  | a :: r, s, k => match (bif Nat.ble a.fu m && a.sp.closed && a.es.all (fun p => p.2.closed) then a.sp.match s else none : Option a.sp.X) with
    | some x => obind (iter a.T L x) fun o => exsK a.es o k
    | none => altK m L r s k

/-- Code of function f. -/
noncomputable def evalC (E : Env) (H : Hints) : Nat → {R : Type} → Nat → Code → St → (Ex → St → Option R) → Option R
  | 0, _, _, _, _, _ => none
  | n + 1, R, f, c, s, k =>
    let run : RunIn R := fun g fn args s k => match fn.body with
      | some c => fS { T := args ++ junks (fn.ntmps - args.length), M := s.M, lock := AV.idss s.T ++ s.lock, lo := s.M.length } fun s1 => evalC E H n g c s1 fun e s' =>
          match e with
          | .ret => (resAV E fn s').bind fun v => k v { s with M := s'.M }
          | .normal => (resAV E fn s').bind fun v => k v { s with M := s'.M }
          | _ => none
      | none => none
    match c with
    | .skip => k .normal s
    | .label _ => k .normal s
    | .ret => k .ret s
    | .exit id => k (.exit id) s
    | .goto l => k (.goto l) s
    | .region _ ops draw => bif draw then drawK E run ops s (k .normal) else opsK E run ops ops.toList s (k .normal)
    | .seq a b =>
      let kb : Ex → St → Option R := fun e s => match e with
        | .normal => evalC E H n f b s k
        | e => k e s
      match (look H.jn f).bind fun hs => (firstReg b).bind fun i => look hs i with
      | some js => match pickJ js s with
        | some j => bif j.on then (obind (evalC E H n f a s (exK j.es)) fun o => exsK j.es o fun e s => fS s fun s => kb e s) else evalC E H n f a s kb
        | none => evalC E H n f a s kb
      | none => evalC E H n f a s kb
    | .cond c a b => match evO s.T c with
      | .bool t => cnd t (evalC E H n f a s k) (evalC E H n f b s k)
      | _ => none
    | .block id c => evalC E H n f c s fun e s => match e with
      | .exit i => bif Nat.beq i id then k .normal s else k (.exit i) s
      | e => k e s
    | .loop c => match (look H.al f).bind fun hs => (firstReg c).bind fun i => look hs i with
      | some alts => altK n E.L alts s fun e s => fS s fun s => k e s
      | none => unrollK (fun s k => evalC E H n f c s k) k 70 s
    | .scope c => evalC E H n f c s fun e s => match e with
      | .goto _ => none
      | e => k e s
    | _ => none

/-- A function, from its arguments to its result. -/
noncomputable def evalF (E : Env) (H : Hints) (f : Nat) (fn : Func) (args : List AV) (fin : AV → Option R) : Option R :=
  match fn.body with
  | some c => fS { T := args ++ junks (fn.ntmps - args.length), M := [], lock := [], lo := 0 } fun s1 => evalC E H 400 f c s1 fun e s =>
      match e with
      | .ret => (resAV E fn s).bind fun v => (dataRes (frzRes s.M v) v).bind fin
      | .normal => (resAV E fn s).bind fun v => (dataRes (frzRes s.M v) v).bind fin
      | _ => none
  | none => none
where
  frzRes (M : Mem) : AV → Mem
    | .tup vs => frzArgs M vs
    | v => frz M v
  dataRes (M : Mem) : AV → Option AV
    | .tup vs => (dataArgs M vs).bind fun vs => some (.tup vs)
    | v => dataArg M v

/-- One round of a loop's body, as its alternative tells it. -/
noncomputable def Alt.Round (E : Env) (H : Hints) (f : Nat) (c : Code) (a : Alt) : Prop :=
  ∀ (rec : a.sp.X → Option (XS a.es)) (x : a.sp.X), (fS (a.sp.build x) fun s1 => evalC E H a.fu f c s1 (fun e s => match e with
    | .normal => (a.sp.match s).bind rec
    | e => exK a.es e s)) = a.T rec x

end Go.Sx
