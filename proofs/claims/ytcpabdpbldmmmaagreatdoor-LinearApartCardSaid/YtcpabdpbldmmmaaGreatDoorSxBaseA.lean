/-
  SX: a symbolic evaluator over the model and its soundness: part 1 of 4.
-/
import Derived.Orders
import Derived.ScopeJumps
import Derived.Below
import Derived.KernelRfl
import Derived.Laws.CopyRow
import Derived.Laws.Rows
import Derived.Laws.Strings
import Derived.Laws.Concat
import Derived.Laws.BytesString
set_option linter.unusedVariables false
set_option linter.unusedSimpArgs false
namespace Go.Sx
open Go
structure Place where
 kind : Int
 id : Int
 deriving DecidableEq
structure Seen where
 item : Int
 at_ : Place
 deriving DecidableEq
structure Exits where
 e0 : Int
 e1 : Int
 e2 : Int
 e3 : Int
 deriving DecidableEq
structure Desc where
 exits : List Exits
 players : List Int
 coins : List Int
 items : List Int
 boxes : List Bool
 room : Int
 player : Int
 box : Int
 deriving DecidableEq
structure World where
 desc : Desc
 at_ : List Int
 coins : List Int
 where_ : List Place
 deriving DecidableEq
structure Key where
 kind : Int
 id : Int
 deriving DecidableEq
structure Write where
 kind : Int
 id : Int
 num : Int
 place : Place
 deriving DecidableEq
structure Cmd where
 kind : Int
 dir : Int
 item : Int
 box : Int
 who : Int
 gives : List Int
 pay : Int
 wants : List Int
 fee : Int
 deriving DecidableEq
structure Reply where
 err : Int
 kind : Int
 room : Int
 players : List Int
 items : List Seen
 coins : Int
 deriving DecidableEq
abbrev Str := List UInt8
structure Sess where
 player : Int
 lines : List Str
 next : Int
 phase : Int
 step : Int
 cmd : Cmd
 foot : List Key
 has : Int
 plan : List Write
 reply : Reply
 stale : Bool
 tries : Int
 ver : Int
 room : Int
 copies : List Place
 heads : List Int
 purse : Int
 deriving DecidableEq
structure Call where
 player : Int
 cmd : Cmd
 frm : Int
 to : Int
 reply : Reply
 deriving DecidableEq
structure Script where
 player : Int
 lines : List Str
 deriving DecidableEq
inductive SN where
 | place | seen | exits | desc | world | key | write | cmd | reply | sess | call | script
 deriving DecidableEq
@[reducible] def SN.T : SN → Type
  | .place => Place | .seen => Seen | .exits => Exits | .desc => Desc | .world => World | .key => Key | .write => Write
  | .cmd => Cmd | .reply => Reply | .sess => Sess | .call => Call | .script => Script
inductive Kd where
 | int (k : IntKind)
 | bool
 | str
 | sl (e : Kd)
 | st (s : SN)
 deriving DecidableEq
@[reducible] def Kd.T : Kd → Type
  | .int _ => Int
  | .bool => Bool
  | .str => Str
  | .sl e => List e.T
  | .st s => s.T
inductive AV where
 | junk
 | undef
 | int (k : IntKind) (n : Int)
 | bool (b : Bool)
 | str (s : Str)
 | sl (e : Kd) (l : List e.T)
 | slc (e : Kd) (l : List e.T)
 | nilsl | nilp | nilf | nilm | nili | err
 | ptr (b off : Nat)
 | pidx (b off n : Nat) (i : Int)
 | dref (cs : List AV) (off : Nat)
 | didx (cs : List AV) (off n : Nat) (i : Int)
 | vec (b : Nat)
 | vsl (b : Nat) (lo hi : Int)
 | vref (b : Nat) (i : Int) (off : Nat)
 | csl (b off len : Nat)
 | agg (cs : List AV)
 | tup (cs : List AV)
 | func (f : FuncId) (first cap : List AV)
 | mref (b : Nat)
 | gp (g off : Nat)
 deriving Inhabited
def SN.size : SN → Nat
 | .place => 2 | .seen => 3 | .exits => 4 | .desc => 8 | .world => 11 | .key => 2 | .write => 5
 | .cmd => 9 | .reply => 6 | .sess => 30 | .call => 18 | .script => 2
def Kd.size : Kd → Nat
 | .st s => s.size
 | _ => 1
def i64 (n : Int) : AV := .int .i64 n
def Place.cells (p : Place) : List AV := [.int .i64 p.kind, .int .i64 p.id]
def Seen.cells (p : Seen) : List AV := [.int .i64 p.item, .int .i64 p.at_.kind, .int .i64 p.at_.id]
def Exits.cells (p : Exits) : List AV := [.int .i64 p.e0, .int .i64 p.e1, .int .i64 p.e2, .int .i64 p.e3]
def Desc.cells (d : Desc) : List AV := [.sl (.st .exits) d.exits, .sl (.int .i64) d.players, .sl (.int .i64) d.coins, .sl (.int .i64) d.items, .sl .bool d.boxes, .int .i64 d.room, .int .i64 d.player, .int .i64 d.box]
def World.cells (w : World) : List AV := [.sl (.st .exits) w.desc.exits, .sl (.int .i64) w.desc.players, .sl (.int .i64) w.desc.coins, .sl (.int .i64) w.desc.items, .sl .bool w.desc.boxes, .int .i64 w.desc.room, .int .i64 w.desc.player, .int .i64 w.desc.box, .sl (.int .i64) w.at_, .sl (.int .i64) w.coins, .sl (.st .place) w.where_]
def Key.cells (p : Key) : List AV := [.int .i64 p.kind, .int .i64 p.id]
def Write.cells (p : Write) : List AV := [.int .i64 p.kind, .int .i64 p.id, .int .i64 p.num, .int .i64 p.place.kind, .int .i64 p.place.id]
def Cmd.cells (c : Cmd) : List AV := [.int .i64 c.kind, .int .i64 c.dir, .int .i64 c.item, .int .i64 c.box, .int .i64 c.who, .sl (.int .i64) c.gives, .int .i64 c.pay, .sl (.int .i64) c.wants, .int .i64 c.fee]
def Reply.cells (r : Reply) : List AV := [.int .i64 r.err, .int .i64 r.kind, .int .i64 r.room, .sl (.int .i64) r.players, .sl (.st .seen) r.items, .int .i64 r.coins]
def Sess.cells (s : Sess) : List AV := [.int .i64 s.player, .sl .str s.lines, .int .i64 s.next, .int .i64 s.phase, .int .i64 s.step,
 .int .i64 s.cmd.kind, .int .i64 s.cmd.dir, .int .i64 s.cmd.item, .int .i64 s.cmd.box, .int .i64 s.cmd.who, .sl (.int .i64) s.cmd.gives, .int .i64 s.cmd.pay, .sl (.int .i64) s.cmd.wants, .int .i64 s.cmd.fee,
 .sl (.st .key) s.foot, .int .i64 s.has, .sl (.st .write) s.plan,
 .int .i64 s.reply.err, .int .i64 s.reply.kind, .int .i64 s.reply.room, .sl (.int .i64) s.reply.players, .sl (.st .seen) s.reply.items, .int .i64 s.reply.coins,
 .bool s.stale, .int .i64 s.tries, .int .i64 s.ver, .int .i64 s.room, .sl (.st .place) s.copies, .sl (.int .i64) s.heads, .int .i64 s.purse]
def Call.cells (c : Call) : List AV := [.int .i64 c.player,
 .int .i64 c.cmd.kind, .int .i64 c.cmd.dir, .int .i64 c.cmd.item, .int .i64 c.cmd.box, .int .i64 c.cmd.who, .sl (.int .i64) c.cmd.gives, .int .i64 c.cmd.pay, .sl (.int .i64) c.cmd.wants, .int .i64 c.cmd.fee,
 .int .i64 c.frm, .int .i64 c.to,
 .int .i64 c.reply.err, .int .i64 c.reply.kind, .int .i64 c.reply.room, .sl (.int .i64) c.reply.players, .sl (.st .seen) c.reply.items, .int .i64 c.reply.coins]
def Script.cells (s : Script) : List AV := [.int .i64 s.player, .sl .str s.lines]
def SN.cells : (s : SN) → s.T → List AV
 | .place, x => Place.cells x | .seen, x => Seen.cells x | .exits, x => Exits.cells x | .desc, x => Desc.cells x | .world, x => World.cells x
 | .key, x => Key.cells x | .write, x => Write.cells x | .cmd, x => Cmd.cells x | .reply, x => Reply.cells x | .sess, x => Sess.cells x
 | .call, x => Call.cells x | .script, x => Script.cells x
def Kd.cells : (k : Kd) → k.T → List AV
 | .int k, n => [.int k n]
 | .bool, b => [.bool b]
 | .str, s => [.str s]
 | .sl e, l => [.sl e l]
 | .st s, x => s.cells x
theorem SN.cells_length (s : SN) (x : s.T) : (s.cells x).length = s.size := by cases s <;> rfl
theorem Kd.cells_length (k : Kd) (x : k.T) : (k.cells x).length = k.size := by
 cases k <;> first | rfl | exact SN.cells_length _ _
def Kd.of : (k : Kd) → k.T → AV
 | .int k, n => .int k n
 | .bool, b => .bool b
 | .str, s => .str s
 | .sl e, l => .sl e l
 | .st s, x => .agg (s.cells x)
def zk {e e' : Kd} (h : e' = e) (l : List e'.T) : List e.T := h ▸ l
def AV.asInt (k : IntKind) : AV → Option Int
 | .int k' n => if k' = k then some n else none
 | _ => none
def AV.asBool : AV → Option Bool
 | .bool b => some b
 | _ => none
def AV.asStr : AV → Option Str
 | .str s => some s
 | _ => none
def AV.asSl (e : Kd) : AV → Option (List e.T)
 | .sl e' l => if h : e' = e then some (zk h l) else none
 | .slc e' l => if h : e' = e then some (zk h l) else none
 | .nilsl => some []
 | _ => none
def Place.of : List AV → Option Place
 | [a, b] => (a.asInt .i64).bind fun a => (b.asInt .i64).bind fun b => some ⟨a, b⟩
 | _ => none
def Seen.of : List AV → Option Seen
 | [a, b, c] => (a.asInt .i64).bind fun a => (b.asInt .i64).bind fun b => (c.asInt .i64).bind fun c => some ⟨a, ⟨b, c⟩⟩
 | _ => none
def Exits.of : List AV → Option Exits
 | [a, b, c, d] => (a.asInt .i64).bind fun a => (b.asInt .i64).bind fun b => (c.asInt .i64).bind fun c => (d.asInt .i64).bind fun d => some ⟨a, b, c, d⟩
 | _ => none
def Desc.of : List AV → Option Desc
 | [a, b, c, d, e, f, g, h] => (a.asSl (.st .exits)).bind fun a => (b.asSl (.int .i64)).bind fun b => (c.asSl (.int .i64)).bind fun c => (d.asSl (.int .i64)).bind fun d => (e.asSl .bool).bind fun e => (f.asInt .i64).bind fun f => (g.asInt .i64).bind fun g => (h.asInt .i64).bind fun h => some ⟨a, b, c, d, e, f, g, h⟩
 | _ => none
def World.of : List AV → Option World
 | a :: b :: c :: d :: e :: f :: g :: h :: [i, j, l] => (Desc.of [a, b, c, d, e, f, g, h]).bind fun d => (i.asSl (.int .i64)).bind fun i => (j.asSl (.int .i64)).bind fun j => (l.asSl (.st .place)).bind fun l => some ⟨d, i, j, l⟩
 | _ => none
def Key.of : List AV → Option Key
 | [a, b] => (a.asInt .i64).bind fun a => (b.asInt .i64).bind fun b => some ⟨a, b⟩
 | _ => none
def Write.of : List AV → Option Write
 | [a, b, c, d, e] => (a.asInt .i64).bind fun a => (b.asInt .i64).bind fun b => (c.asInt .i64).bind fun c => (d.asInt .i64).bind fun d => (e.asInt .i64).bind fun e => some ⟨a, b, c, ⟨d, e⟩⟩
 | _ => none
def Cmd.of : List AV → Option Cmd
 | [a, b, c, d, e, f, g, h, i] => (a.asInt .i64).bind fun a => (b.asInt .i64).bind fun b => (c.asInt .i64).bind fun c => (d.asInt .i64).bind fun d => (e.asInt .i64).bind fun e => (f.asSl (.int .i64)).bind fun f => (g.asInt .i64).bind fun g => (h.asSl (.int .i64)).bind fun h => (i.asInt .i64).bind fun i => some ⟨a, b, c, d, e, f, g, h, i⟩
 | _ => none
def Reply.of : List AV → Option Reply
 | [a, b, c, d, e, f] => (a.asInt .i64).bind fun a => (b.asInt .i64).bind fun b => (c.asInt .i64).bind fun c => (d.asSl (.int .i64)).bind fun d => (e.asSl (.st .seen)).bind fun e => (f.asInt .i64).bind fun f => some ⟨a, b, c, d, e, f⟩
 | _ => none
def Sess.of : List AV → Option Sess
 | a :: b :: c :: d :: e :: f1 :: f2 :: f3 :: f4 :: f5 :: f6 :: f7 :: f8 :: f9 :: g :: h :: i :: r1 :: r2 :: r3 :: r4 :: r5 :: r6 :: [j, l, m, n, o, p, q] =>
   (a.asInt .i64).bind fun a => (b.asSl .str).bind fun b => (c.asInt .i64).bind fun c => (d.asInt .i64).bind fun d => (e.asInt .i64).bind fun e =>
   (Cmd.of [f1, f2, f3, f4, f5, f6, f7, f8, f9]).bind fun f => (g.asSl (.st .key)).bind fun g => (h.asInt .i64).bind fun h => (i.asSl (.st .write)).bind fun i =>
   (Reply.of [r1, r2, r3, r4, r5, r6]).bind fun r => j.asBool.bind fun j => (l.asInt .i64).bind fun l => (m.asInt .i64).bind fun m => (n.asInt .i64).bind fun n =>
   (o.asSl (.st .place)).bind fun o => (p.asSl (.int .i64)).bind fun p => (q.asInt .i64).bind fun q => some ⟨a, b, c, d, e, f, g, h, i, r, j, l, m, n, o, p, q⟩
 | _ => none
def Call.of : List AV → Option Call
 | a :: f1 :: f2 :: f3 :: f4 :: f5 :: f6 :: f7 :: f8 :: f9 :: g :: h :: [r1, r2, r3, r4, r5, r6] =>
   (a.asInt .i64).bind fun a => (Cmd.of [f1, f2, f3, f4, f5, f6, f7, f8, f9]).bind fun f => (g.asInt .i64).bind fun g => (h.asInt .i64).bind fun h =>
   (Reply.of [r1, r2, r3, r4, r5, r6]).bind fun r => some ⟨a, f, g, h, r⟩
 | _ => none
def Script.of : List AV → Option Script
 | [a, b] => (a.asInt .i64).bind fun a => (b.asSl .str).bind fun b => some ⟨a, b⟩
 | _ => none
def SN.of : (s : SN) → List AV → Option s.T
 | .place, x => Place.of x | .seen, x => Seen.of x | .exits, x => Exits.of x | .desc, x => Desc.of x | .world, x => World.of x
 | .key, x => Key.of x | .write, x => Write.of x | .cmd, x => Cmd.of x | .reply, x => Reply.of x | .sess, x => Sess.of x
 | .call, x => Call.of x | .script, x => Script.of x
def AV.as : (k : Kd) → AV → Option k.T
 | .int k, v => v.asInt k
 | .bool, v => v.asBool
 | .str, v => v.asStr
 | .sl e, v => v.asSl e
 | .st s, .agg cs => s.of cs
 | _, _ => none
def Kd.ofCells : (k : Kd) → List AV → Option k.T
 | .st s, cs => s.of cs
 | k, [v] => v.as k
 | _, _ => none
def Ny : Place := ⟨0, 0⟩
def zCmd : Cmd := ⟨0, 0, 0, 0, 0, [], 0, [], 0⟩
def Nx : Reply := ⟨0, 0, 0, [], [], 0⟩
def SN.zero : (s : SN) → s.T
 | .place => Ny | .seen => ⟨0, Ny⟩ | .exits => ⟨0, 0, 0, 0⟩ | .desc => ⟨[], [], [], [], [], 0, 0, 0⟩ | .world => ⟨⟨[], [], [], [], [], 0, 0, 0⟩, [], [], []⟩
 | .key => ⟨0, 0⟩ | .write => ⟨0, 0, 0, Ny⟩ | .cmd => zCmd | .reply => Nx
 | .sess => ⟨0, [], 0, 0, 0, zCmd, [], 0, [], Nx, false, 0, 0, 0, [], [], 0⟩
 | .call => ⟨0, zCmd, 0, 0, Nx⟩ | .script => ⟨0, []⟩
def Kd.zero : (k : Kd) → k.T
 | .int _ => (0 : Int)
 | .bool => false
 | .str => ([] : Str)
 | .sl e => ([] : List e.T)
 | .st s => s.zero
def Kd.beq : (k : Kd) → k.T → k.T → Bool
 | .int _, (a : Int), b => decide (a = b)
 | .bool, (a : Bool), b => decide (a = b)
 | .str, (a : Str), b => decide (a = b)
 | .st .place, (a : Place), b => decide (a = b)
 | .st .key, (a : Key), b => decide (a = b)
 | _, _, _ => false
inductive Blk where
 | dead
 | cells (cs : List AV)
 | vec (e : Kd) (l : List e.T)
 | fvec (e : Kd) (l : List e.T)
 | map (kk kv : Kd) (l : List (kk.T × kv.T))
 | amap (ks vs : List AV)
 | gmap
 deriving Inhabited
abbrev Mem := List Blk
structure St where
 T : List AV
 M : Mem
 lock : List Nat
 lo : Nat
end Go.Sx
namespace Go.Sx
open Go
@[reducible] def cnd {α : Type} (b : Bool) (x y : α) : α := bif b then x else y
@[reducible] def obind {α β : Type} (o : Option α) (f : α → Option β) : Option β := o.bind f
@[reducible] def ile (a b : Int) : Bool := decide (a ≤ b)
@[reducible] def ilt (a b : Int) : Bool := decide (a < b)
@[reducible] def ieq (a b : Int) : Bool := decide (a = b)
@[reducible] def beq' (a b : Bool) : Bool := a == b
@[reducible] def bnot (a : Bool) : Bool := !a
@[reducible] def band (a b : Bool) : Bool := a && b
@[reducible] def iadd (a b : Int) : Int := a + b
@[reducible] def isub (a b : Int) : Int := a - b
@[reducible] def imul (a b : Int) : Int := a * b
@[reducible] def iquo (a b : Int) : Int := a.tdiv b
@[reducible] def irem (a b : Int) : Int := a.tmod b
@[reducible] def wrap (k : IntKind) (n : Int) : Int := k.wrap n
@[reducible] def imin (a b : Int) : Int := if b < a then b else a
@[reducible] def BK (a b : Int) : Int := if b > a then b else a
@[reducible] def seq (a b : Str) : Bool := decide (a = b)
@[reducible] def slt (a b : Str) : Bool := Op.bytesLess a b
@[reducible] def qh {α : Type} (l : List α) : Int := l.foldr (fun _ n => n + 1) 0
@[reducible] def lget {α : Type} (l : List α) (j : Int) : Option α := if 0 ≤ j then l[j.toNat]? else none
@[reducible] def ltake {α : Type} (l : List α) (n : Int) : List α := l.take n.toNat
@[reducible] def ldrop {α : Type} (l : List α) (n : Int) : List α := l.drop n.toNat
@[reducible] def lapp {α : Type} (l r : List α) : List α := l ++ r
@[reducible] def lset {α : Type} (l : List α) (j : Int) (x : α) : List α := l.set j.toNat x
@[reducible] def lrep {α : Type} (n : Int) (x : α) : List α := List.replicate n.toNat x
@[reducible] def jQ (l : List Int) (j : Int) : Int := l.getD j.toNat 0
@[reducible] def u8i (c : UInt8) : Int := (c.toNat : Int)
def u8s (s : Str) : List Int := s.map fun b => (b.toNat : Int)
def KI (l : List Int) : Str := l.map fun n => UInt8.ofNat n.toNat
@[reducible] def qit (l : List Int) : Bool := l.all fun n => decide (0 ≤ n ∧ n < 256)
def jo {kk kv : Kd} (l : List (kk.T × kv.T)) (x : kk.T) : Option kv.T := (l.find? fun p => kk.beq x p.1).map (·.2)
def gV {kk kv : Kd} : List (kk.T × kv.T) → kk.T → kv.T → List (kk.T × kv.T)
 | [], x, v => [(x, v)]
 | p :: r, x, v => bif kk.beq x p.1 then (x, v) :: r else p :: gV r x v
@[reducible] def odef {α : Type} (o : Option α) (d : α) : α := o.getD d
@[reducible] def ois {α : Type} (o : Option α) : Bool := o.isSome
@[reducible] def scase {α β γ : Type} (o : α ⊕ β) (f : α → γ) (g : β → γ) : γ := match o with
  | .inl x => f x
  | .inr y => g y
def qr {X O : Type} (T : (X → Option O) → X → Option O) : Nat → X → Option O
 | 0, _ => none
 | L + 1, x => T (qr T L) x
open Classical in
noncomputable def q6 {α : Type} (x y : Option α) : Option α := if x = y then x else none
theorem zn {α : Type} (x : Option α) : q6 x x = x := if_pos rfl
theorem Gg {α : Type} {x y : Option α} {r : α} (h : q6 x y = some r) : x = some r ∧ y = some r := by
 unfold q6 at h
 split at h
 ·rename_i e
  exact ⟨h, e ▸ h⟩
 ·cases h
theorem ilen_eq {α : Type} : ∀ (l : List α), qh l = (l.length : Int)
 | [] => rfl
 | _ :: r => by
   have := ilen_eq r
   show qh r + 1 = _
   rw [this]; simp
end Go.Sx
namespace Go.Sx
open Go
inductive Sh where
 | int (k : IntKind)
 | bool | str
 | ptr (e : TypeId)
 | sl (e : TypeId)
 | arr (n : Nat) (e : TypeId)
 | st (fs : List (Nat × TypeId))
 | map (k e : TypeId)
 | iface | func
 | oth
structure TyI where
 agg : Bool
 size : Nat
 bytes : Nat
 zero : List AV
 kd : Option Kd
 sh : Sh
structure Ctr where
 run : {R : Type} → List AV → (AV → Option R) → Option R
structure Env where
 ty : List (Nat × TyI)
 ctr : List (Nat × Ctr)
 inl : List (Nat × Func)
 eqs : List (Nat × List Kd)
 glob : List (Nat × List AV)
 L : Nat
 get : List (Nat × Nat) := []
 split : Bool := false
 both : Bool := false
 own : List (Nat × Ctr) := []
 all : Bool := false
 scope : List (Nat × Nat) := []
noncomputable def look {α : Type _} (l : List (Nat × α)) (n : Nat) : Option α :=
 @List.rec (Nat × α) (fun _ => Option α) none (fun x _ ih => @Bool.rec (fun _ => Option α) ih (some x.2) (Nat.beq x.1 n)) l
theorem qgt {α : Type _} (n : Nat) : look ([] : List (Nat × α)) n = none := rfl
theorem qdd {α : Type _} (x : Nat × α) (r : List (Nat × α)) (n : Nat) : look (x :: r) n = bif Nat.beq x.1 n then some x.2 else look r n := by
 show @Bool.rec (fun _ => Option α) (look r n) (some x.2) (Nat.beq x.1 n) = _
 cases Nat.beq x.1 n <;> rfl
noncomputable def nthq (l : List AV) (n : Nat) : Option AV :=
 @List.rec AV (fun _ => Nat → Option AV) (fun _ => none) (fun v _ ih n => @Nat.rec (fun _ => Option AV) (some v) (fun m _ => ih m) n) l n
theorem qa4 : ∀ (l : List AV) (n : Nat), nthq l n = l[n]?
 | [], _ => by simp [nthq]
 | v :: r, 0 => rfl
 | v :: r, n + 1 => (qa4 r n).trans (by simp)
noncomputable def Kh (l : List AV) (n : Nat) : AV :=
 @List.rec AV (fun _ => Nat → AV) (fun _ => .junk) (fun v _ ih n => @Nat.rec (fun _ => AV) v (fun m _ => ih m) n) l n
theorem vF : ∀ (l : List AV) (n : Nat), Kh l n = (l[n]?).getD .junk
 | [], _ => by simp [Kh]
 | v :: r, 0 => rfl
 | v :: r, n + 1 => (vF r n).trans (by simp)
noncomputable def Js (l : List AV) (n : Nat) (x : AV) : List AV :=
 @List.rec AV (fun _ => Nat → List AV) (fun _ => []) (fun v r ih n => @Nat.rec (fun _ => List AV) (x :: r) (fun m _ => v :: ih m) n) l n
noncomputable def Zp (n : Nat) : List AV := @Nat.rec (fun _ => List AV) [] (fun _ ih => .junk :: ih) n
theorem gz : ∀ n, Zp n = List.replicate n .junk
 | 0 => rfl
 | n + 1 => by
   show AV.junk :: Zp n = _
   rw [gz n]; rfl
theorem z5 : ∀ (l : List AV) (n : Nat) (x : AV), Js l n x = l.set n x
 | [], _, _ => by simp [Js]
 | v :: r, 0, _ => rfl
 | v :: r, n + 1, x => by
   show v :: Js r n x = _
   rw [z5 r n x]; rfl
noncomputable def Env.t (E : Env) (t : TypeId) : Option TyI := look E.ty t
noncomputable def qbs : Value → AV
 | .int k n => .int k n
 | .bool b => .bool b
 | .string s => .str s.data.toList
 | .pointer none => .nilp
 | .slice none 0 0 => .nilsl
 | .map none => .nilm
 | .nilFunc => .nilf
 | .nilIface => .nili
 | .func (.func f) a c => bif a.toList.isEmpty && c.toList.isEmpty then .func f [] [] else .junk
 | _ => .junk
noncomputable def evO (T : List AV) : Operand → AV
 | .tmp t => Kh T t
 | .const v => qbs v
 | .global g => .gp g 0
 | .func f => .func f [] []
noncomputable def fv {α : Type} (v : AV) (k : AV → α) : α :=
 @AV.casesOn (fun _ => α) v (k .junk) (k .undef) (fun a b => k (.int a b)) (fun a => k (.bool a)) (fun a => k (.str a)) (fun a b => k (.sl a b)) (fun a b => k (.slc a b))
  (k .nilsl) (k .nilp) (k .nilf) (k .nilm) (k .nili) (k .err) (fun a b => k (.ptr a b)) (fun a b c d => k (.pidx a b c d)) (fun a b => k (.dref a b)) (fun a b c d => k (.didx a b c d))
  (fun a => k (.vec a)) (fun a b c => k (.vsl a b c)) (fun a b c => k (.vref a b c)) (fun a b c => k (.csl a b c)) (fun a => k (.agg a)) (fun a => k (.tup a)) (fun a b c => k (.func a b c)) (fun a => k (.mref a)) (fun a b => k (.gp a b))
theorem fv_eq {α : Type} (v : AV) (k : AV → α) : fv v k = k v := by cases v <;> rfl
noncomputable def fL {α : Type} (l : List AV) : (List AV → α) → α := @List.rec AV (fun _ => (List AV → α) → α) (fun k => k []) (fun v _ ih k => fv v fun v => ih fun r => k (v :: r)) l
theorem qhu {α : Type} : ∀ (l : List AV) (k : List AV → α), fL l k = k l
 | [], _ => rfl
 | v :: r, k => by
   show fv v (fun v => fL r fun r => k (v :: r)) = _
   rw [fv_eq, qhu r]
noncomputable def fat {α : Type} (n : Nat) : List AV → (List AV → α) → α :=
 @Nat.rec (fun _ => List AV → (List AV → α) → α) (fun l k => @List.casesOn AV (fun _ => α) l (k []) (fun v r => fv v fun v => k (v :: r)))
  (fun _ ih l k => @List.casesOn AV (fun _ => α) l (k []) (fun v r => ih r fun r => k (v :: r))) n
theorem qhs {α : Type} : ∀ (n : Nat) (l : List AV) (k : List AV → α), fat n l k = k l
 | 0, [], _ => rfl
 | 0, v :: r, k => fv_eq v fun v => k (v :: r)
 | n + 1, [], _ => rfl
 | n + 1, v :: r, k => qhs n r fun r => k (v :: r)
noncomputable def fB {α : Type} (b : Blk) (k : Blk → α) : α :=
 @Blk.casesOn (fun _ => α) b (k .dead) (fun cs => fL cs fun cs => k (.cells cs)) (fun e l => k (.vec e l)) (fun e l => k (.fvec e l)) (fun a b l => k (.map a b l)) (fun ks vs => fL ks fun ks => fL vs fun vs => k (.amap ks vs)) (k .gmap)
theorem fB_eq {α : Type} (b : Blk) (k : Blk → α) : fB b k = k b := by
 cases b <;> first | rfl | (simp only [fB, qhu])
noncomputable def fM {α : Type} (l : Mem) : (Mem → α) → α := @List.rec Blk (fun _ => (List Blk → α) → α) (fun k => k []) (fun v _ ih k => fB v fun v => ih fun r => k (v :: r)) l
theorem fM_eq {α : Type} : ∀ (l : Mem) (k : Mem → α), fM l k = k l
 | [], _ => rfl
 | v :: r, k => by
   show fB v (fun v => fM r fun r => k (v :: r)) = _
   rw [fB_eq, fM_eq r]
noncomputable def fN {α : Type} (n : Nat) (k : Nat → α) : α := @Nat.casesOn (fun _ => α) n (k 0) (fun m => k (m + 1))
theorem qht {α : Type} (n : Nat) (k : Nat → α) : fN n k = k n := by cases n <;> rfl
noncomputable def fNs {α : Type} (l : List Nat) : (List Nat → α) → α := @List.rec Nat (fun _ => (List Nat → α) → α) (fun k => k []) (fun v _ ih k => fN v fun v => ih fun r => k (v :: r)) l
theorem Uc {α : Type} : ∀ (l : List Nat) (k : List Nat → α), fNs l k = k l
 | [], _ => rfl
 | v :: r, k => by
   show fN v (fun v => fNs r fun r => k (v :: r)) = _
   rw [qht, Uc r]
noncomputable def fS {α : Type} (s : St) (k : St → α) : α := fL s.T fun T => fM s.M fun M => k { s with T := T, M := M }
theorem gC {α : Type} (s : St) (k : St → α) : fS s k = k s := by simp only [fS, qhu, fM_eq]
noncomputable def memOp (o : Oper) : Bool :=
 match o.op with
 | .move .. | .pick .. | .load .. | .nilCheck .. | .binOp .. | .unOp .. | .convert .. | .slice .. | .fieldAddr .. | .field .. | .indexAddr .. | .index .. | .lookup .. | .extract .. => false
 | _ => true
noncomputable def fO {α : Type} (o : Oper) (s : St) (k : St → α) : α :=
 bif memOp o then fS s k else match o.dst with
 | some d => fat d s.T fun T => k { s with T := T }
 | none => k s
theorem qbm {α : Type} (o : Oper) (s : St) (k : St → α) : fO o s k = k s := by
 unfold fO
 cases memOp o with
 | true => exact gC s k
 | false => cases o.dst with
   | none => rfl
   | some d => exact qhs d s.T _
variable {R : Type}
noncomputable def zg (i : TyI) (cs : List AV) (off : Nat) : Option AV :=
 bif i.agg then (bif Nat.ble (off + i.size) cs.length then some (.agg ((cs.drop off).take i.size)) else none) else cs[off]?
noncomputable def vd (k : IntKind) : List AV → Option (List Int)
 | [] => some []
 | v :: r => (v.asInt k).bind fun n => (vd k r).bind fun l => some (n :: l)
noncomputable def Zr : Sh → Option IntKind
 | .int k => some k
 | _ => none
noncomputable def Jw (E : Env) (M : Mem) (t : TypeId) (a : AV) (k : AV → Option R) : Option R :=
 match E.t t with
 | none => none
 | some i =>
   match a with
   | .ptr b off => match M[b]? with
     | some (.cells cs) => (zg i cs off).bind k
     | _ => none
   | .dref cs off => (zg i cs off).bind k
   | .vref b j off => match M[b]? with
     | some (.vec e l) => obind (lget l j) fun x => (zg i (e.cells x) off).bind k
     | some (.fvec e l) => obind (lget l j) fun x => (zg i (e.cells x) off).bind k
     | _ => none
   | .didx cs off n j => match Zr i.sh with
     | some kk => bif Nat.ble (off + n) cs.length then (vd kk ((cs.drop off).take n)).bind fun l => k (.int kk (jQ l j)) else none
     | none => none
   | .pidx b off n j => match Zr i.sh, M[b]? with
     | some kk, some (.cells cs) => bif Nat.ble (off + n) cs.length then (vd kk ((cs.drop off).take n)).bind fun l => k (.int kk (jQ l j)) else none
     | none, some (.cells cs) => match j with
       | .ofNat m => (zg i cs (off + m)).bind k
       | _ => none
     | _, _ => none
   | .gp g off => (look E.glob g).bind fun cs => (zg i cs off).bind k
   | _ => none
noncomputable def esz (E : Env) (e : TypeId) (k : Kd) : Bool :=
 match E.t e with
 | some i => Nat.beq i.size k.size
 | none => false
noncomputable def ZR : List AV → Option (List Str)
 | [] => some []
 | v :: r => v.asStr.bind fun s => (ZR r).bind fun l => some (s :: l)
noncomputable def idxK (E : Env) (M : Mem) (t : TypeId) (x ix : AV) (k : AV → Option R) : Option R :=
 match E.t t, ix with
 | some i, .int _ j =>
   match i.sh, x with
   | .sl et, .sl e l => bif esz E et e then obind (lget l j) fun y => k (.dref (e.cells y) 0) else none
   | .sl et, .slc e l => bif esz E et e then obind (lget l j) fun y => k (.dref (e.cells y) 0) else none
   | .sl et, .vec b => match M[b]? with
     | some (.vec e l) => bif esz E et e then cnd (ile 0 j) (cnd (ilt j (qh l)) (k (.vref b j 0)) none) none else none
     | some (.fvec e l) => bif esz E et e then cnd (ile 0 j) (cnd (ilt j (qh l)) (k (.vref b j 0)) none) none else none
     | _ => none
   | .sl et, .vsl b lo hi => match M[b]? with
     | some (.vec e l) => bif esz E et e then cnd (ile 0 j) (cnd (ilt j (qh (ldrop (ltake l hi) lo))) (k (.vref b (iadd lo j) 0)) none) none else none
     | some (.fvec e l) => bif esz E et e then cnd (ile 0 j) (cnd (ilt j (qh (ldrop (ltake l hi) lo))) (k (.vref b (iadd lo j) 0)) none) none else none
     | _ => none
   | .sl e, .csl b off len => match E.t e with
     | some ei => match j with
       | .ofNat n => bif Nat.blt n len then k (.ptr b (off + n * ei.size)) else none
       | _ => none
     | none => none
   | .arr n e, .ptr b off => match E.t e with
     | some ei => bif Nat.beq ei.size 1 then (cnd (ile 0 j) (cnd (ilt j n) (k (.pidx b off n j)) none) none) else none
     | none => none
   | .arr n e, .dref cs off => match E.t e with
     | some ei => bif Nat.beq ei.size 1 then (cnd (ile 0 j) (cnd (ilt j n) (k (.didx cs off n j)) none) none) else none
     | none => none
   | .arr n e, .gp g off => match E.t e with
     | some ei => match ei.kd, look E.glob g with
       | some .str, some cs => bif Nat.beq off 0 && Nat.beq cs.length n && Nat.beq ei.size 1 then (ZR cs).bind fun l => obind (lget l j) fun y => k (.dref [.str y] 0) else none
       | _, _ => none
     | none => none
   | _, _ => none
 | _, _ => none
noncomputable def Je : Sh → Nat → Option (Nat × TypeId)
 | .st fs, f => fs[f]?
 | _, _ => none
noncomputable def jB (E : Env) (t : TypeId) (x : AV) (f : Nat) (k : AV → Option R) : Option R :=
 match E.t t with
 | none => none
 | some i => match Je i.sh f with
   | none => none
   | some p => match x with
     | .ptr b off => k (.ptr b (off + p.1))
     | .dref cs off => k (.dref cs (off + p.1))
     | .vref b j off => k (.vref b j (off + p.1))
     | .gp g off => k (.gp g (off + p.1))
     | _ => none
noncomputable def ga (M : Mem) : AV → Option AV
 | .int k n => some (.int k n)
 | .bool b => some (.bool b)
 | .str s => some (.str s)
 | .sl e l => some (.sl e l)
 | .slc e l => some (.sl e l)
 | .nilsl => some .nilsl
 | .nilp => some .nilp
 | .nilf => some .nilf
 | .nilm => some .nilm
 | .nili => some .nili
 | .err => some .err
 | .vec b => match M[b]? with
   | some (.fvec e l) => some (.sl e l)
   | _ => none
 | .vsl b lo hi => match M[b]? with
   | some (.fvec e l) => some (.sl e (ldrop (ltake l hi) lo))
   | _ => none
 | _ => none
noncomputable def Jh (M : Mem) : List AV → Option (List AV)
 | [] => some []
 | v :: r => (ga M v).bind fun v => (Jh M r).bind fun r => some (v :: r)
noncomputable def ka (M : Mem) : AV → Option AV
 | .agg cs => (Jh M cs).bind fun cs => some (.agg cs)
 | v => ga M v
noncomputable def jU (M : Mem) : List AV → Option (List AV)
 | [] => some []
 | v :: r => (ka M v).bind fun v => (jU M r).bind fun r => some (v :: r)
noncomputable def Vl : Blk → Blk
 | .vec e l => .fvec e l
 | b => b
noncomputable def frz1 (M : Mem) : AV → Mem
 | .vec b => M.modify b Vl
 | .vsl b _ _ => M.modify b Vl
 | _ => M
noncomputable def frzs (M : Mem) : List AV → Mem
 | [] => M
 | v :: r => frzs (frz1 M v) r
noncomputable def frz (M : Mem) : AV → Mem
 | .agg cs => frzs M cs
 | v => frz1 M v
noncomputable def frzArgs (M : Mem) : List AV → Mem
 | [] => M
 | v :: r => frzArgs (frz M v) r
noncomputable def cmpI (op : BinOp) (x y : Int) : Option Bool :=
 match op with
 | .eql => some (ieq x y)
 | .neq => some (bnot (ieq x y))
 | .lss => some (ilt x y)
 | .leq => some (ile x y)
 | .gtr => some (ilt y x)
 | .geq => some (ile y x)
 | _ => none
noncomputable def QK : AV → AV → Option Bool
 | .int k a, .int k' b => if k = k' then some (ieq a b) else none
 | .bool a, .bool b => some (beq' a b)
 | .str a, .str b => some (seq a b)
 | _, _ => none
noncomputable def jy : List AV → List AV → Option Bool
 | [], [] => some true
 | [a], [b] => QK a b
 | a :: r, b :: s => (QK a b).bind fun x => (jy r s).bind fun y => some (band x y)
 | _, _ => none
noncomputable def Vg : List Kd → List AV → Bool
 | [], [] => true
 | .int k :: r, .int k' _ :: vs => bif decide (k' = k) then Vg r vs else false
 | .bool :: r, .bool _ :: vs => Vg r vs
 | .str :: r, .str _ :: vs => Vg r vs
 | _, _ => false
noncomputable def kq : Operand → Bool
 | .const _ => true
 | _ => false
noncomputable def qa5 (cst : Bool) : Sh → AV → AV → Option Bool
 | .iface, .nili, .nili => bif cst then some true else none
 | .iface, .nili, .err => some false
 | .iface, .err, .nili => some false
 | .ptr _, .nilp, .nilp => some true
 | .ptr _, .nilp, .ptr _ _ => some false
 | .ptr _, .ptr _ _, .nilp => some false
 | .func, .nilf, .nilf => some true
 | .func, .func _ _ _, .nilf => some false
 | _, _, _ => none
noncomputable def binK (E : Env) (op : BinOp) (t : TypeId) (cst : Bool) (a b : AV) (k : AV → Option R) : Option R :=
 match a, b with
 | .int kx x, .int ky y =>
   if kx = ky then
    match op with
    | .add => k (.int kx (wrap kx (iadd x y)))
    | .sub => k (.int kx (wrap kx (isub x y)))
    | .mul => k (.int kx (wrap kx (imul x y)))
    | .quo => cnd (ieq y 0) none (k (.int kx (wrap kx (iquo x y))))
    | .rem => cnd (ieq y 0) none (k (.int kx (irem x y)))
    | op => (cmpI op x y).bind fun b => k (.bool b)
   else none
 | .bool x, .bool y =>
   match E.t t with
   | some i => match i.sh, op with
     | .bool, .eql => k (.bool (beq' x y))
     | .bool, .neq => k (.bool (bnot (beq' x y)))
     | _, _ => none
   | none => none
 | .str x, .str y =>
   match op with
   | .add => cnd (ilt (iadd (qh x) (qh y)) 4611686018427387904) (k (.str (lapp x y))) none
   | .eql => k (.bool (seq x y))
   | .neq => k (.bool (bnot (seq x y)))
   | .lss => k (.bool (slt x y))
   | .geq => k (.bool (bnot (slt x y)))
   | _ => none
 | .agg x, .agg y =>
   match look E.eqs t with
   | some ks => bif Vg ks x && Vg ks y then
     (match op with
      | .eql => (jy x y).bind fun b => k (.bool b)
      | .neq => (jy x y).bind fun b => k (.bool (bnot b))
      | _ => none) else none
   | none => none
 | x, y =>
   match E.t t with
   | some i => match op with
     | .eql => (qa5 cst i.sh x y).bind fun b => k (.bool b)
     | .neq => (qa5 cst i.sh x y).bind fun b => k (.bool (bnot b))
     | _ => none
   | none => none
noncomputable def YG (E : Env) (M : Mem) (src dst : TypeId) (x : AV) (k : AV → Option R) : Option R :=
 match E.t src, E.t dst with
 | some j, some i => match i.sh, x with
   | .int kk, .int _ n => k (.int kk (wrap kk n))
   | .str, .str s => k (.str s)
   | .str, .vec b => match j.sh with
     | .sl e => match (E.t e).map TyI.sh, M[b]? with
       | some (Sh.int .u8), some (Blk.vec (.int .u8) l) => cnd (qit l) (k (.str (KI l))) none
       | some (Sh.int .u8), some (Blk.fvec (.int .u8) l) => cnd (qit l) (k (.str (KI l))) none
       | _, _ => none
     | _ => none
   | _, _ => none
 | _, _ => none
noncomputable def Rg : AV → Option Int
 | .int _ n => some n
 | _ => none
noncomputable def JE : Option AV → Option (Option Int)
 | none => some none
 | some v => (Rg v).bind fun n => some (some n)
noncomputable def vR {α : Type} (l : List α) (lo hi : Option Int) (k : List α → Option R) : Option R :=
 match lo, hi with
 | none, none => k l
 | some a, none => cnd (ile 0 a) (cnd (ile a (qh l)) (k (ldrop l a)) none) none
 | none, some b => cnd (ile 0 b) (cnd (ile b (qh l)) (k (ltake l b)) none) none
 | some a, some b => cnd (ile 0 a) (cnd (ile a b) (cnd (ile b (qh l)) (k (ldrop (ltake l b) a)) none) none) none
noncomputable def Qx (b : Nat) (n : Int) (lo hi : Option Int) (k : AV → Option R) : Option R :=
 match lo, hi with
 | none, none => k (.vec b)
 | some a, none => cnd (ile 0 a) (cnd (ile a n) (k (.vsl b a n)) none) none
 | none, some c => cnd (ile 0 c) (cnd (ile c n) (k (.vsl b 0 c)) none) none
 | some a, some c => cnd (ile 0 a) (cnd (ile a c) (cnd (ile c n) (k (.vsl b a c)) none) none) none
noncomputable def va (E : Env) (M : Mem) (t : TypeId) (x : AV) (lo hi mx : Option AV) (k : AV → Option R) : Option R :=
 match E.t t with
 | none => none
 | some i => (JE lo).bind fun lo => (JE hi).bind fun hi' =>
   match i.sh, x, mx with
   | .str, .str s, none => vR s lo hi' fun l => k (.str l)
   | .sl et, .sl e l, none => bif esz E et e then vR l lo hi' fun l => k (.sl e l) else none
   | .sl et, .slc e l, none => bif esz E et e then vR l lo hi' fun l => k (.sl e l) else none
   | .sl et, .sl e l, some m => bif esz E et e then (match hi', Rg m with
     | some h, some m => cnd (ieq m h) (vR l lo (some h) fun l => k (.slc e l)) none
     | _, _ => none) else none
   | .sl et, .vec b, none => match M[b]? with
     | some (.vec e l) => bif esz E et e then Qx b (qh l) lo hi' k else none
     | some (.fvec e l) => bif esz E et e then Qx b (qh l) lo hi' k else none
     | _ => none
   | .sl e, .nilsl, none => match lo, hi', E.t e with
     | none, none, some _ => k .nilsl
     | none, some n, some _ => cnd (ieq n 0) (k .nilsl) none
     | _, _, _ => none
   | .arr n e, .ptr b off, none => match lo, hi', E.t e with
     | none, none, some _ => k (.csl b off n)
     | _, _, _ => none
   | .arr n e, .gp g off, none => match lo, hi', E.t e with
     | none, none, some ei => match ei.kd, look E.glob g with
       | some .str, some cs => bif Nat.beq off 0 && Nat.beq cs.length n && Nat.beq ei.size 1 then (ZR cs).bind fun l => k (.sl .str l) else none
       | _, _ => none
     | _, _, _ => none
   | _, _, _ => none
noncomputable def Jf (e : Kd) : List AV → Option (List e.T)
 | [] => some []
 | v :: r => (v.as e).bind fun x => (Jf e r).bind fun l => some (x :: l)
noncomputable def Zv : Nat → List (Nat × Operand) → Bool
 | _, [] => true
 | n, p :: r => Nat.beq p.1 n && Zv (n + 1) r
noncomputable def za (cs : List AV) (off : Nat) (v : AV) : List AV :=
 match v with
 | .agg vs => cs.take off ++ vs ++ cs.drop (off + vs.length)
 | v => cs.set off v
noncomputable def jI (size : Nat) : AV → Bool
 | .agg vs => Nat.beq vs.length size
 | .tup _ => false
 | .junk => false
 | .undef => false
 | _ => Nat.beq size 1
noncomputable def QM (E : Env) (fs : List (Nat × TypeId)) (ev : Operand → AV) : List AV → List (Nat × Operand) → Option (List AV)
 | cs, [] => some cs
 | cs, p :: r => match fs[p.1]? with
   | some f => match E.t f.2 with
     | some fi => bif jI fi.size (ev p.2) && Nat.ble (f.1 + fi.size) cs.length then QM E fs ev (za cs f.1 (ev p.2)) r else none
     | none => none
   | none => none
noncomputable def kD (size : Nat) (ev : Operand → AV) : List AV → List (Nat × Operand) → Option (List AV)
 | cs, [] => some cs
 | cs, p :: r => bif jI size (ev p.2) && Nat.ble (p.1 * size + size) cs.length then kD size ev (za cs (p.1 * size) (ev p.2)) r else none
noncomputable def Zz : List AV → List AV
 | [] => []
 | .agg cs :: r => cs ++ Zz r
 | v :: r => v :: Zz r
noncomputable def Q8 (o : Option Operand) (ev : Operand → AV) : Option AV := o.map ev
noncomputable def lenK (E : Env) (M : Mem) (t : TypeId) (x : AV) (k : AV → Option R) : Option R :=
 match E.t t with
 | none => none
 | some i => match i.sh, x with
   | .str, .str s => k (.int .i64 (qh s))
   | .sl _, .sl _ l => k (.int .i64 (qh l))
   | .sl _, .slc _ l => k (.int .i64 (qh l))
   | .sl _, .nilsl => k (.int .i64 0)
   | .sl _, .csl _ _ n => k (.int .i64 n)
   | .sl _, .vec b => match M[b]? with
     | some (.vec _ l) => k (.int .i64 (qh l))
     | some (.fvec _ l) => k (.int .i64 (qh l))
     | _ => none
   | .sl _, .vsl b lo hi => match M[b]? with
     | some (.vec _ l) => k (.int .i64 (qh (ldrop (ltake l hi) lo)))
     | some (.fvec _ l) => k (.int .i64 (qh (ldrop (ltake l hi) lo)))
     | _ => none
   | .map _ _, .mref b => match M[b]? with
     | some (.map _ _ l) => k (.int .i64 (qh l))
     | _ => none
   | _, _ => none
noncomputable def capK (E : Env) (t : TypeId) (x : AV) (k : AV → Option R) : Option R :=
 match E.t t with
 | none => none
 | some i => match i.sh, x with
   | .sl _, .nilsl => k (.int .i64 0)
   | _, _ => none
noncomputable def Df : AV → List AV → Option (Nat × List AV)
 | .func f first cap, args => some (f, first ++ args ++ cap)
 | _, _ => none
noncomputable def Qr (kk : IntKind) (zero : AV) (x : AV) (ok : Bool) (k : AV → Option R) : List AV → List AV → Option R
 | .int kk' y :: ks, v :: vs => bif decide (kk = kk') then (x.asInt kk).bind fun n => cnd (ieq n y) (k (bif ok then .tup [v, .bool true] else v)) (Qr kk zero x ok k ks vs) else none
 | [], [] => k (bif ok then .tup [zero, .bool false] else zero)
 | _, _ => none
noncomputable def QY (E : Env) (M : Mem) (t : TypeId) (m x : AV) (ok : Bool) (k : AV → Option R) : Option R :=
 match E.t t with
 | none => none
 | some i => match i.sh, m, x with
   | .map kt et, .mref b, .int kk n => match E.t kt, E.t et with
     | some ki, some ei => match ki.sh with
       | .int kk1 => bif decide (kk1 = kk) && !ei.agg then (match M[b]? with
         | some (Blk.map (.int kk') kv l) => bif decide (kk' = kk) && decide (ei.kd = some kv) then
           (bif ok then k (.tup [kv.of (odef (jo l n) kv.zero), .bool (ois (jo l n))]) else k (kv.of (odef (jo l n) kv.zero))) else none
         | some (Blk.amap ks vs) => match ei.zero with
           | [z] => Qr kk z (.int kk n) ok k ks vs
           | _ => none
         | _ => none) else none
       | _ => none
     | _, _ => none
   | _, _, _ => none
noncomputable def ownK (slot : Nat) (v : AV) (k : AV → Option Blk → Option R) : Option R :=
 match v with
 | .sl e l => k (.vec slot) (some (.vec e l))
 | _ => none
noncomputable def zu (E : Env) (ev : Operand → AV) (M : Mem) (slot : Nat) (o : Oper) (k : AV → Option Blk → Option R) : Option R :=
 match o.op with
 | .move x => k (ev x) none
 | .assign x => match ev x with
   | .nilsl => match (E.t o.type).bind fun i => match i.sh with | .sl e => (E.t e).bind fun j => j.kd | _ => none with
     | some kd => k (.vec slot) (some (.vec kd []))
     | none => k .nilsl none
   | .bool t => bif E.split then cnd t (k (.bool true) none) (k (.bool false) none) else k (.bool t) none
   | v => k v none
 | .pick c a b => match ev c with
   | .bool t => cnd t (k (ev a) none) (k (ev b) none)
   | _ => none
 | .alloc t => match E.t t with
   | some i => k (.ptr slot 0) (some (.cells i.zero))
   | none => none
 | .box t v => match E.t t with
   | some i => match ev v with
     | .agg cs => bif Nat.beq cs.length i.size then k (.ptr slot 0) (some (.cells cs)) else none
     | .tup _ => none
     | .junk => none
     | .undef => none
     | x => bif Nat.beq i.size 1 then k (.ptr slot 0) (some (.cells [x])) else none
   | none => none
 | .build t parts => match E.t t with
   | some i => match i.sh with
     | .st fs => (QM E fs ev i.zero parts.toList).bind fun cs => k (.agg cs) none
     | .arr _ e => match E.t e with
       | some ei => (kD ei.size ev i.zero parts.toList).bind fun cs => k (.agg cs) none
       | none => none
     | _ => none
   | none => none
 | .buildSlice t len parts => match E.t t with
   | some i => match i.sh with
     | .sl e => match E.t e with
       | some ei => bif Zv 0 parts.toList && Nat.beq parts.toList.length len && Nat.ble (len * ei.size) 1000 && Nat.blt 0 ei.size && parts.toList.all (fun p => jI ei.size (ev p.2)) then
         (match ei.kd with
          | some kd => (jU M (parts.toList.map fun p => ev p.2)).bind fun vs => (Jf kd vs).bind fun l => k (.vec slot) (some (.vec kd l))
          | none => k (.csl slot 0 len) (some (.cells (Zz (parts.toList.map fun p => ev p.2)))))
         else none
       | none => none
     | _ => none
   | none => none
 | .load t a => Jw E M t (ev a) fun v => k v none
 | .nilCheck x => match ev x with
   | .ptr b off => k (.ptr b off) none
   | .dref cs off => k (.dref cs off) none
   | .vref b j off => k (.vref b j off) none
   | .gp g off => k (.gp g off) none
   | .func f a c => k (.func f a c) none
   | _ => none
 | .binOp op t x y _ => binK E op t (kq x || kq y) (ev x) (ev y) fun v => k v none
 | .unOp op _ x => match op, ev x with
   | .not, .bool b => k (.bool (bnot b)) none
   | .neg, .int kk n => k (.int kk (wrap kk (isub 0 n))) none
   | _, _ => none
 | .convert src dst x => YG E M src dst (ev x) fun v => k v none
 | .makeFunc (.func f) first cap => k (.func f (first.toList.map ev) (cap.toList.map ev)) none
 | .makeMap t none => match E.t t with
   | some i => match i.sh with
     | .map kt et => match E.t kt, E.t et with
       | some ki, some ei => match ki.kd, ei.kd with
         | some kk, some kv => k (.mref slot) (some (.map kk kv []))
         | _, _ => k (.mref slot) (some (.amap [] []))
       | _, _ => none
     | _ => none
   | none => none
 | .makeSlice t l c => match E.t t with
   | some i => match i.sh with
     | .sl e => match E.t e with
       | some ei => match ei.kd, ev l, ev c with
         | some kd, .int .i64 n, .int .i64 m => bif Nat.blt 0 ei.bytes then cnd (ile 0 n) (cnd (ile n m) (cnd (ilt (imul m ei.bytes) 281474976710657) (k (.vec slot) (some (.vec kd (lrep n kd.zero)))) none) none) none else none
         | _, _, _ => none
       | none => none
     | _ => none
   | none => none
 | .slice t x lo hi mx => va E M t (ev x) (Q8 lo ev) (Q8 hi ev) (Q8 mx ev) fun v => k v none
 | .fieldAddr t x f => jB E t (ev x) f fun v => k v none
 | .field t x f => match E.t t with
   | some i => match Je i.sh f, ev x with
     | some p, .agg cs => match E.t p.2 with
       | some fi => (zg fi cs p.1).bind fun v => k v none
       | none => none
     | _, _ => none
   | none => none
 | .indexAddr t x ix => idxK E M t (ev x) (ev ix) fun v => k v none
 | .index t x ix => match E.t t with
   | some i => match i.sh, ev x, ev ix with
     | .str, .str s, .int _ j => obind (lget s j) fun c => k (.int .u8 (u8i c)) none
     | _, _, _ => none
   | none => none
 | .lookup t m x ok => QY E M t (ev m) (ev x) ok fun v => k v none
 | .extract t ix => match ev t with
   | .tup vs => match vs[ix]? with
     | some v => k v none
     | none => none
   | _ => none
 | .call c => match c.callee with
   | .builtin b => match b with
     | .len => match c.args.toList, c.argTypes.toList with
       | x :: _, t :: _ => lenK E M t (ev x) fun v => k v none
       | _, _ => none
     | .min => match c.args.toList.map ev with
       | [.int kx x, .int _ y] => k (.int kx (imin x y)) none
       | _ => none
     | .max => match c.args.toList.map ev with
       | [.int kx x, .int _ y] => k (.int kx (BK x y)) none
       | _ => none
     | .cap => match c.args.toList, c.argTypes.toList with
       | x :: _, t :: _ => capK E t (ev x) fun v => k v none
       | _, _ => none
     | _ => none
   | .value f => match Df (ev f) (c.args.toList.map ev) with
     | some p => match look E.own p.1 with
       | some ct => (jU M p.2).bind fun vs => ct.run vs fun v => ownK slot v k
       | none => match look E.ctr p.1 with
       | some ct => (jU M p.2).bind fun vs => ct.run vs fun v => k v none
       | none => match look E.get p.1, p.2 with
         | some d, [.ptr b off] => k (.ptr b (off + d)) none
         | _, _ => none
     | none => none
   | _ => none
 | _ => none
noncomputable def zi (E : Env) (ev : Operand → AV) (o : Oper) : Option (Nat × Func × List AV) :=
 match o.op with
 | .call c => match c.callee with
   | .value f => match Df (ev f) (c.args.toList.map ev) with
     | some p => match look E.inl p.1 with
       | some fn => some (p.1, fn, p.2)
       | none => none
     | none => none
   | _ => none
 | _ => none
mutual
noncomputable def AV.kill (b : Nat) : AV → AV
 | .vec c => bif Nat.beq c b then .junk else .vec c
 | .vsl c i j => bif Nat.beq c b then .junk else .vsl c i j
 | .vref c i j => bif Nat.beq c b then .junk else .vref c i j
 | .agg cs => .agg (AV.kills b cs)
 | .tup cs => .tup (AV.kills b cs)
 | .func f x y => .func f (AV.kills b x) (AV.kills b y)
 | v => v
noncomputable def AV.kills (b : Nat) : List AV → List AV
 | [] => []
 | v :: r => AV.kill b v :: AV.kills b r
end
noncomputable def Blk.kill (b : Nat) : Blk → Blk
 | .cells cs => .cells (AV.kills b cs)
 | .amap ks vs => .amap (AV.kills b ks) (AV.kills b vs)
 | x => x
noncomputable def St.kill (b : Nat) (s : St) : St := { s with T := AV.kills b s.T, M := s.M.map (Blk.kill b) }
noncomputable def St.cutV (b : Nat) (kd : Kd) (l : List kd.T) (s : St) : St := { s.kill b with M := (s.kill b).M.set b (.vec kd l) }
noncomputable def zo (M : Mem) (e : Kd) : AV → Option (List e.T)
 | .vec b => match M[b]? with
   | some (.vec e' l) => if h : e' = e then some (zk h l) else none
   | some (.fvec e' l) => if h : e' = e then some (zk h l) else none
   | _ => none
 | .vsl b lo hi => match M[b]? with
   | some (.vec e' l) => if h : e' = e then some (ldrop (ltake (zk h l) hi) lo) else none
   | some (.fvec e' l) => if h : e' = e then some (ldrop (ltake (zk h l) hi) lo) else none
   | _ => none
 | .str s => if h : e = .int .u8 then some (h ▸ (u8s s : List (Kd.int .u8).T)) else none
 | v => v.asSl e
noncomputable def St.put (s : St) (d : Option Nat) (v : AV) : St :=
 match d with
 | some d => { s with T := Js s.T d v }
 | none => s
noncomputable def storeCells (cs : List AV) (off : Nat) : AV → Option (List AV)
 | .agg vs => bif Nat.ble (off + vs.length) cs.length then some (cs.take off ++ vs ++ cs.drop (off + vs.length)) else none
 | .tup _ => none
 | .junk => none
 | .undef => none
 | v => bif Nat.blt off cs.length then some (cs.set off v) else none
noncomputable def vc (k : IntKind) (j : Int) (v : Int) : Nat → List AV → List AV
 | _, [] => []
 | i, .int k' n :: r => .int k' (cnd (ieq j i) v n) :: vc k j v (i + 1) r
 | i, x :: r => x :: vc k j v (i + 1) r
noncomputable def G6 (kk : IntKind) (n : Int) : AV → Bool
 | .int k m => decide (k = kk) && !(decide (n = m))
 | _ => false
noncomputable def oneA : AV → Bool
 | .agg _ => false
 | .tup _ => false
 | .junk => false
 | .undef => false
 | _ => true
noncomputable def JV : Sh → Bool
 | .sl _ => true
 | .str => true
 | _ => false
noncomputable def appZ (kd : Kd) (ei : TyI) (us : Sh) (x y : AV) (s : St) (d : Option Nat) (k : St → Option R) : Option R :=
 match us, x, y with
 | .int _, .nilsl, .int .i64 n => bif Nat.blt 0 ei.bytes && Nat.blt 0 kd.size then cnd (ile 0 n) (cnd (ilt (imul n ei.bytes) 140737488355329)
   (k (({ s with M := s.M ++ [.vec kd (lrep n kd.zero)] } : St).put d (.vec s.M.length))) none) none else none
 | _, _, _ => none
noncomputable def qez (E : Env) (o : Oper) (s : St) (k : St → Option R) : Option R :=
  match o.op with
  | .store t a x => match E.t t with
    | none => none
    | some i => bif jI i.size (evO s.T x) then (match evO s.T a with
      | .ptr b off => match s.M[b]? with
        | some (.cells cs) => (storeCells cs off (evO s.T x)).bind fun cs => k (({ s with M := s.M.set b (.cells cs) } : St).put o.dst .junk)
        | _ => none
      | .vref b j off => match (frz s.M (evO s.T x))[b]? with
        | some (.vec e l) => obind (lget l j) fun y => (ka (frz s.M (evO s.T x)) (evO s.T x)).bind fun v => (storeCells (e.cells y) off v).bind fun cs => (e.ofCells cs).bind fun y' =>
            k (({ s with M := (frz s.M (evO s.T x)).set b (.vec e (lset l j y')) } : St).put o.dst .junk)
        | _ => none
      | .pidx b off n j => match s.M[b]?, evO s.T x with
        | some (.cells cs), .int kk v => bif Nat.ble (off + n) cs.length then ((vd kk ((cs.drop off).take n)).bind fun _ =>
            k (({ s with M := s.M.set b (.cells (cs.take off ++ vc kk j v 0 ((cs.drop off).take n) ++ cs.drop (off + n))) } : St).put o.dst .junk)) else none
        | _, _ => none
      | _ => none) else none
  | .mapUpdate t m x v | .insert t m x v => match E.t t with
    | none => none
    | some i => match i.sh with
      | .map kt _ => match (E.t kt).map TyI.sh, evO s.T m, evO s.T x with
        | some (.int kk), .mref b, .int kk' n => bif decide (kk' = kk) then (match (frz s.M (evO s.T v))[b]? with
          | some (.map (.int kk1) kv l) => bif decide (kk1 = kk) then ((ka (frz s.M (evO s.T v)) (evO s.T v)).bind fun z => (z.as kv).bind fun z => k (({ s with M := (frz s.M (evO s.T v)).set b (.map (.int kk1) kv (gV l n z)) } : St).put o.dst .junk)) else none
          | some (.amap ks vs) => bif ks.all (G6 kk n) && oneA (evO s.T v) then k (({ s with M := (frz s.M (evO s.T v)).set b (.amap (ks ++ [.int kk n]) (vs ++ [evO s.T v])) } : St).put o.dst .junk) else none
          | _ => none) else none
        | _, _, _ => none
      | _ => none
  | .call c => match c.callee with
    | .builtin .append => match c.args.toList, c.argTypes.toList with
      | [x, y], [t, u] => match (E.t t).map TyI.sh, (E.t u).map TyI.sh with
        | some (.sl e), some us => match E.t e with
          | some ei => match ei.kd with
            | some kd => bif JV us && Nat.blt 0 ei.bytes then (match evO s.T x with
              | .vec b => match s.M[b]? with
                | some (.vec e' l) => if h : e' = kd then
                    (zo s.M kd (evO s.T y)).bind fun l2 =>
                    bif s.lock.any (Nat.beq b) then none else cnd (ilt (imul (iadd (qh l) (qh l2)) ei.bytes) 140737488355329)
                      (k (({ (s.kill b) with M := (s.kill b).M.set b (.vec kd (lapp (zk h l) l2)) } : St).put o.dst (.vec b))) none
                  else none
                | _ => none
              | .slc e' l => if h : e' = kd then
                    (zo s.M kd (evO s.T y)).bind fun l2 =>
                    cnd (ilt 0 (qh l2)) (cnd (ilt (imul (iadd (qh l) (qh l2)) ei.bytes) 140737488355329)
                      (k (({ s with M := s.M ++ [.vec kd (lapp (zk h l) l2)] } : St).put o.dst (.vec s.M.length))) none) none
                  else none
              | .vsl b lo hi => match s.M[b]?, evO s.T y with
                | some (.vec e' l), .sl e2 l2 => if h : e' = kd ∧ e2 = kd then
                    bif s.lock.any (Nat.beq b) then none else cnd (ieq lo 0) (cnd (ilt (imul (iadd (qh (ltake (zk h.1 l) hi)) (qh (zk h.2 l2))) ei.bytes) 140737488355329)
                      (k (({ ((s.cutV b kd (ltake (zk h.1 l) hi)).kill b) with M := ((s.cutV b kd (ltake (zk h.1 l) hi)).kill b).M.set b (.vec kd (lapp (ltake (zk h.1 l) hi) (zk h.2 l2))) } : St).put o.dst (.vec b))) none) none
                  else none
                | _, _ => none
              | .nilsl => (zo s.M kd (evO s.T y)).bind fun l2 =>
                    cnd (ilt (imul (qh l2) ei.bytes) 140737488355329)
                      (k (({ s with M := s.M ++ [.vec kd l2] } : St).put o.dst (.vec s.M.length))) none
              | _ => none) else appZ kd ei us (evO s.T x) (evO s.T y) s o.dst k
            | none => none
          | none => none
        | _, _ => none
      | _, _ => none
    | .builtin .copy => match c.args.toList, c.argTypes.toList with
      | [x, y], [t, _] => match (E.t t).map TyI.sh with
        | some (.sl e) => match E.t e with
          | some ei => match ei.kd, evO s.T x with
            | some kd, .vec b => match s.M[b]? with
              | some (.vec e' l) => if h : e' = kd then
                  (zo s.M kd (evO s.T y)).bind fun l2 =>
                    k (({ s with M := s.M.set b (.vec kd (lapp (ltake l2 (qh l)) (ldrop (zk h l) (qh l2)))) } : St).put o.dst (.int .i64 (imin (qh l2) (qh l))))
                else none
              | _ => none
            | _, _ => none
          | none => none
        | _ => none
      | _, _ => none
    | _ => none
  | _ => none
noncomputable def vn (o : Oper) : Bool :=
 match o.op with
 | .store .. | .mapUpdate .. | .insert .. => true
 | .call c => match c.callee with
   | .builtin .append | .builtin .copy => true
   | _ => false
 | _ => false
noncomputable def frzOp (ev : Operand → AV) (M : Mem) (o : Oper) : Mem :=
 match o.op with
 | .call c => match c.callee with
   | .value _ => frzArgs M (c.args.toList.map ev)
   | _ => M
 | .buildSlice _ _ ps => frzArgs M (ps.toList.map fun p => ev p.2)
 | _ => M
noncomputable def Gw (M : Mem) : Option Blk → Mem
 | some b => M ++ [b]
 | none => M
noncomputable def res1 (E : Env) (s : St) : ResultVar → Option AV
 | .tmp t => s.T[t]?
 | .cell a t => match E.t t, s.T[a]? with
   | some i, some (.ptr b 0) => match s.M[b]? with
     | some (.cells cs) => zg i cs 0
     | _ => none
   | _, _ => none
noncomputable def resL (E : Env) (s : St) : List ResultVar → Option (List AV)
 | [] => some []
 | r :: rs => (res1 E s r).bind fun v => (resL E s rs).bind fun vs => some (v :: vs)
noncomputable def gv (E : Env) (fn : Func) (s : St) : Option AV :=
 (resL E s fn.results.toList).bind fun vs => match vs with
  | [v] => some v
  | vs => some (.tup vs)
noncomputable def GQ (ops : Array Oper) (o : Oper) (s : St) (yes no : St → Option R) : Option R :=
 match o.guard with
 | none => yes s
 | some (j, want) => match (ops[j]?).bind (·.dst) with
   | none => none
   | some g => match nthq s.T g with
     | some (.bool t) => cnd t (bif want then yes { s with T := Js s.T g (.bool true) } else no { s with T := Js s.T g (.bool true) })
       (bif want then no { s with T := Js s.T g (.bool false) } else yes { s with T := Js s.T g (.bool false) })
     | some .undef => no s
     | _ => none
abbrev zC (R : Type) := Nat → Func → List AV → St → (AV → St → Option R) → Option R
noncomputable def JD : AV → Bool
 | .int _ _ => true
 | .bool _ => true
 | .str _ => true
 | _ => false
noncomputable def B1 : AV → Bool
 | .tup cs => cs.all JD
 | v => JD v
noncomputable def qfb (E : Env) (ev : Operand → AV) (op : BinOp) (t : TypeId) (x y : Operand) : Option (Int × Bool) :=
 match E.t t with
 | some i => match i.sh, op, ev x, ev y with
   | .sl _, .eql, .sl _ l, .nilsl => some (qh l, true)
   | .sl _, .neq, .sl _ l, .nilsl => some (qh l, false)
   | _, _, _, _ => none
 | none => none
noncomputable def Qz (E : Env) (ev : Operand → AV) (o : Oper) : Option (Int × Bool) :=
 match o.op with
 | .binOp op t x y _ => qfb E ev op t x y
 | _ => none
noncomputable def Uf (E : Env) (s : St) (o : Oper) : Option Nat :=
 match o.op with
 | .slice t x none (some hi) none => match E.t t, evO s.T x, evO s.T hi with
   | some i, .vec b, .int _ (.ofNat 0) => match i.sh, s.M[b]? with
     | .sl et, some (.vec e _) => bif esz E et e && !(s.lock.any (Nat.beq b)) then some b else none
     | _, _ => none
   | _, _, _ => none
 | _ => none
noncomputable def cutK (s : St) (b : Nat) (d : Option Nat) (k : St → Option R) : Option R :=
 match s.M[b]? with
 | some (.vec e _) => k ((s.cutV b e []).put d (.vec b))
 | _ => none
noncomputable def opK (E : Env) (run : zC R) (ops : Array Oper) (o : Oper) (s : St) (k : St → Option R) : Option R :=
 GQ ops o s (fun s =>
  bif vn o then qez E o s k else
  match zi E (evO s.T) o with
  | some (f, fn, args) => run f fn args s fun v s => k (s.put o.dst v)
  | none => match Uf E s o with
    | some b => cutK s b o.dst k
    | none => match Qz E (evO s.T) o with
    | some (n, t) => cnd (ilt 0 n) (k (s.put o.dst (.bool (bnot t)))) (q6 (k (s.put o.dst (.bool t))) (k (s.put o.dst (.bool (bnot t)))))
    | none => zu E (evO s.T) (frzOp (evO s.T) s.M o) s.M.length o fun v b => k (({ s with M := bif B1 v && b.isNone then s.M else Gw (frzOp (evO s.T) s.M o) b } : St).put o.dst v))
  (fun s => k (s.put o.dst .undef))
noncomputable def opsK (E : Env) (run : zC R) (ops : Array Oper) : List Oper → St → (St → Option R) → Option R
 | [], s, k => k s
 | o :: r, s, k => opK E run ops o s fun s => fO o s fun s => opsK E run ops r s k
noncomputable def vr (E : Env) (ops : Array Oper) : List Oper → St → (St → Option R) → Option R
  | [], s, k => k s
  | o :: r, s, k => GQ ops o s (fun s =>
      zu E (evO s.T) (frzOp (evO s.T) s.M o) s.M.length o fun v b => fS (({ s with M := Gw (frzOp (evO s.T) s.M o) b } : St).put o.dst v) fun s => vr E ops r s k)
    (fun s => fS (s.put o.dst .undef) fun s => vr E ops r s k)
noncomputable def KC (ds : List Nat) : Nat → List AV → List AV → List AV
 | i, u :: r, v :: q => (bif ds.any (Nat.beq i) then (bif JD v then v else .junk) else u) :: KC ds (i + 1) r q
 | _, _, _ => []
noncomputable def thaw (ds : List Nat) (s s2 : St) : St := { s with T := KC ds 0 s.T s2.T }
noncomputable def qat (E : Env) (f : Nat) (a b : Code) : Option (Array Oper × Array Oper × Code × Code) :=
 match E.scope with
 | [] => none
 | l => match a, b with
   | .region i o1 false, .seq (.seq (.region _ o2 false) d) q => bif l.any (fun p => Nat.beq p.1 f && Nat.beq p.2 i) then some (o1, o2, d, q) else none
   | _, _ => none
noncomputable def isT (t : Nat) : Operand → Bool
 | .tmp u => Nat.beq u t
 | _ => false
noncomputable def evM (T : List AV) (o : Oper) : Operand → AV
 | .tmp t => bif o.op.operands.toList.any (isT t) then evO T (.tmp t) else .junk
 | x => evO T x
noncomputable def QO (acc : List Nat) : List Edge → Nat
 | [] => 0
 | e :: r => bif Region.binds .any e then Nat.lor (Nat.lor (2 ^ e.on) (acc.getD e.on 0)) (QO acc r) else QO acc r
noncomputable def zB : List Oper → List Nat → List Nat
 | [], acc => acc
 | o :: r, acc => zB r (acc ++ [QO acc o.after.toList])
noncomputable def gu (n0 : Nat) (bits : Nat) : Nat → Mem → Mem
 | _, [] => []
 | i, b :: r => (bif Nat.blt i n0 then b else bif Nat.testBit bits (i - n0) then b else .dead) :: gu n0 bits (i + 1) r
noncomputable def frzV : Option Blk → Blk
 | some b => Vl b
 | none => .dead
noncomputable def M5 : AV → Bool
 | .dref _ _ => true
 | _ => false
noncomputable def Yx (L : List Nat) (i : Nat) (o : Oper) (ev : Operand → AV) : Bool :=
 bif L.any (Nat.beq i) then (match o.op with
  | .load _ a => M5 (ev a)
  | _ => false) else true
noncomputable def isDrefU : AV → Bool
 | .dref _ _ => true
 | .undef => true
 | _ => false
noncomputable def M2 (L : List Nat) (i : Nat) (o : Oper) (ev : Operand → AV) : Bool :=
 bif L.any (Nat.beq i) then (match o.op with
  | .load _ a => isDrefU (ev a)
  | _ => false) else true
noncomputable def jP (o : Oper) : Bool :=
 match o.op with
 | .insert _ (.tmp _) (.const (.int _ _)) _ => o.guard.isNone && o.dst.isNone
 | _ => false
noncomputable def isLook (o : Oper) : Bool :=
 match o.op with
 | .lookup _ _ _ _ => true
 | _ => false
noncomputable def QB (o : Oper) : Option (IntKind × Int) :=
 match o.op with
 | .insert _ _ (.const (.int kk n)) _ => bif jP o then some (kk, n) else none
 | _ => none
noncomputable def zX : List Oper → Bool
 | [] => true
 | o :: r => (match QB o with
   | some p => r.all fun o' => match QB o' with
     | some q => decide (p.1 = q.1) && !(decide (p.2 = q.2))
     | none => true
   | none => true) && zX r
noncomputable def gY : List Oper → Bool
 | [] => true
 | o :: r => (match o.op with
   | .insert _ m _ v => bif jP o then (o :: r).all fun o' => match o'.dst with
     | some d => !(isT d m) && !(isT d v)
     | none => true else true
   | _ => true) && gY r
noncomputable def isMr (b : Nat) : AV → Bool
 | .mref c => Nat.beq c b
 | _ => false
noncomputable def insAt (T : List AV) (b : Nat) (o : Oper) : Option (AV × AV) :=
 match o.op with
 | .insert _ m x v => bif jP o && isMr b (evO T m) then some (evO T x, evO T v) else none
 | _ => none
noncomputable def Qt (T : List AV) (b : Nat) (l : List Oper) : List (AV × AV) := l.filterMap (insAt T b)
noncomputable def gmB (T : List AV) (hd : List Oper) (n0 i : Nat) : Blk → Blk
 | .gmap => bif Nat.ble n0 i then .amap ((Qt T i hd).map Prod.fst) ((Qt T i hd).map Prod.snd) else .gmap
 | b => b
noncomputable def gmM (T : List AV) (hd : List Oper) (n0 : Nat) : Nat → Mem → Mem
 | _, [] => []
 | i, b :: r => gmB T hd n0 i b :: gmM T hd n0 (i + 1) r
noncomputable def Vj : Option Blk → Bool
 | some .gmap => true
 | _ => false
noncomputable def Zx (E : Env) (n0 : Nat) (ev : Operand → AV) (M : Mem) (slot : Nat) (o : Oper) (k : AV → Option Blk → Option R) : Option R :=
 match o.op with
 | .makeMap _ none => k (.mref slot) (some .gmap)
 | .insert t m x v => bif jP o then (match E.t t with
   | none => none
   | some i => match i.sh with
     | .map kt _ => match (E.t kt).map TyI.sh, ev m, ev x with
       | some (.int kk), .mref b, .int kk' _ => bif decide (kk' = kk) && (Nat.ble n0 b && oneA (ev v)) then (bif Vj (M[b]?) then k .junk none else none) else none
       | _, _, _ => none
     | _ => none) else none
 | _ => zu E ev M slot o fun v b => bif Vj b then none else k v b
noncomputable def gmK (n0 : Nat) (hd : List Oper) (s : St) (k : St → Option R) : Option R :=
 bif zX hd && gY hd then fS { s with M := gmM s.T hd n0 0 s.M } k else none
noncomputable def D2 (E : Env) (run : zC R) (ops : Array Oper) (L : List Nat) : Nat → List Oper → St → (St → Option R) → Option R
 | _, [], s, k => k s
 | i, o :: r, s, k => bif M2 L i o (evO s.T) then (opK E run ops o s fun s => fO o s fun s => D2 E run ops L (i + 1) r s k) else none
noncomputable def Uo (E : Env) (ops : Array Oper) (bf : List Nat) (L : List Nat) (n0 : Nat) : Nat → List Oper → St → (St → Option R) → Option R
 | _, [], s, k => k s
 | i, o :: r, s, k =>
   GQ ops o s (fun s =>
    bif Yx L i o (evM s.T o) then Zx E n0 (evM s.T o) (gu n0 (bf.getD i 0) 0 s.M) (n0 + i) o fun v b =>
     fS (({ s with M := s.M.set (n0 + i) (frzV b) } : St).put o.dst v) fun s => Uo E ops bf L n0 (i + 1) r s k else none)
    (fun s => fO o (s.put o.dst .undef) fun s => Uo E ops bf L n0 (i + 1) r s k)
noncomputable def M3 (E : Env) (g : Bool) (o : Oper) : Bool :=
 (vn o && !(jP o)) || (g && isLook o) || (match o.op with
  | .buildSlice _ 0 _ => true
  | .call c => match c.callee with
    | .value (.func f) => (look E.inl f).isSome
    | .value (.tmp _) => true
    | _ => false
  | _ => false)
noncomputable def Jb (E : Env) (g : Bool) : List Oper → Nat
 | [] => 0
 | o :: r => bif M3 E g o then 0 else Jb E g r + 1
noncomputable def Qm (ops : Array Oper) (i j : Nat) : Bool :=
 match ops[i]?, ops[j]? with
 | some x, some y => x.apart ops y
 | _, _ => false
noncomputable def vi (o : Oper) : Bool :=
 match o.op with
 | .move _ => true
 | .fieldAddr _ _ _ => true
 | .slice _ (.global _) none none none => true
 | .build _ _ => true
 | .extract _ _ => true
 | _ => false
noncomputable def Gx (ops : Array Oper) (i : Nat) : Bool :=
 match ops[i]? with
 | some x => vi x
 | none => false
noncomputable def Vo (ops : Array Oper) (k i : Nat) : Bool :=
 match ops[k]? with
 | some o => o.after.toList.any fun e => Region.binds .any e && Nat.beq e.on i
 | none => false
noncomputable def GI (o : Oper) : Bool :=
 match o.op with
 | .load _ _ => true
 | _ => false
noncomputable def Zm (ops : Array Oper) (i : Nat) : Bool :=
 match ops[i]? with
 | some x => GI x
 | none => false
noncomputable def Vu (ops : Array Oper) (m n i : Nat) : Bool := (Gx ops i || Zm ops i) && (List.range n).all fun k => Nat.ble k i || (Vo ops k i || Qm ops i k)
noncomputable def B4 (o : Oper) : Bool :=
 match o.op with
 | .select _ _ => false
 | _ => true
noncomputable def MQ (ops : Array Oper) (bf : List Nat) (m n : Nat) : Bool :=
 ops.toList.all B4 && (List.range n).all fun j => Nat.blt (bf.getD j 0) (2 ^ j) && (bif Nat.blt j m then (List.range j).all (fun i => Nat.testBit (bf.getD j 0) i || Qm ops i j)
  else (Nat.beq (bf.getD j 0 + 1) (2 ^ j) || (List.range j).all (fun i => Nat.testBit (bf.getD j 0) i || Vu ops m n i)))
noncomputable def lagsAt (bf : List Nat) (m n i : Nat) : Bool := (List.range n).any fun j => Nat.ble m j && (Nat.blt i j && !(Nat.testBit (bf.getD j 0) i))
noncomputable def lags (ops : Array Oper) (bf : List Nat) (m n : Nat) : List Nat := (List.range n).filter fun i => Zm ops i && lagsAt bf m n i
noncomputable def drefV (b : Nat) (cs : List AV) (v : AV) : AV :=
 match v with
 | .ptr c off => bif Nat.beq c b then .dref cs off else .ptr c off
 | v => v
noncomputable def St.fz (s : St) (v : AV) : St :=
 match v with
 | .ptr b _ => match s.M[b]? with
   | some (.cells cs) => match Jh s.M cs with
     | some ds => { s with T := s.T.map (drefV b ds), M := s.M.set b .dead }
     | none => s
   | _ => s
 | _ => s
noncomputable def gF (t : Nat) : List Oper → Nat
 | [] => t
 | o :: r => match o.dst, o.op with
   | some d, .fieldAddr _ (.tmp u) _ => bif Nat.beq d t then u else gF t r
   | some d, .nilCheck (.tmp u) => bif Nat.beq d t then u else gF t r
   | some d, .move (.tmp u) => bif Nat.beq d t then u else gF t r
   | _, _ => gF t r
noncomputable def fzs (ops : Array Oper) : List Nat → St → St
 | [], s => s
 | i :: r, s => match ops[i]? with
   | some o => match o.op with
     | .load _ (.tmp t) => fzs ops r (s.fz (Kh s.T (gF (gF (gF t ops.toList) ops.toList) ops.toList)))
     | _ => fzs ops r s
   | none => fzs ops r s
noncomputable def fzsK (ops : Array Oper) (L : List Nat) (s : St) (k : St → Option R) : Option R :=
 match L with
 | [] => k s
 | _ => fS (fzs ops L s) k
noncomputable def BU (T : List AV) : List Oper → Mem → Mem
 | [], M => M
 | o :: r, M => BU T r (frzOp (evO T) M o)
noncomputable def qhk (bits : Nat) (l : List Nat) : Bool := l.all fun q => !(Nat.testBit bits q)
noncomputable def ZQ (p : Nat → Bool) : List Nat → Option (Nat × List Nat)
 | [] => none
 | i :: r => bif p i then some (i, r) else (ZQ p r).map fun x => (x.1, i :: x.2)
noncomputable def Gf (ops : Array Oper) (bf : List Nat) : Nat → List Nat → List Nat
 | 0, l => l
 | n + 1, l =>
   match ZQ (fun i => Gx ops i && qhk (bf.getD i 0) l) l with
   | some x => x.1 :: Gf ops bf n x.2
   | none => match ZQ (fun i => qhk (bf.getD i 0) l) l with
     | some x => x.1 :: Gf ops bf n x.2
     | none => l
noncomputable def qar (E : Env) (g : Bool) (bf : List Nat) : Nat → List Oper → List Nat → List Nat
 | _, [], acc => acc
 | i, o :: r, acc => qar E g bf (i + 1) r (bif M3 E g o || acc.any (fun q => Nat.testBit (bf.getD i 0) q) then acc ++ [i] else acc)
noncomputable def Vq (E : Env) (ops : Array Oper) : List Nat :=
 (List.range ops.toList.length).filter (fun i => !((qar E (ops.toList.any jP) (zB ops.toList []) 0 ops.toList []).any (Nat.beq i))) ++
  Gf ops (zB ops.toList []) ops.toList.length (qar E (ops.toList.any jP) (zB ops.toList []) 0 ops.toList [])
noncomputable def posOf (i : Nat) : List Nat → Nat
 | [] => 0
 | j :: r => bif Nat.beq j i then 0 else posOf i r + 1
noncomputable def Yi (π : List Nat) (o : Oper) : Oper :=
 { o with after := (o.after.toList.map fun e => { e with on := posOf e.on π }).toArray, guard := o.guard.map fun p => (posOf p.1 π, p.2) }
noncomputable def jW (π : List Nat) (ops : Array Oper) : Array Oper := (π.map fun i => Yi π (ops.toList.getD i default)).toArray
noncomputable def isId : Nat → List Nat → Bool
 | _, [] => true
 | n, i :: r => Nat.beq i n && isId (n + 1) r
noncomputable def qa3 : List Nat → Bool
 | [] => true
 | i :: r => !(r.any (Nat.beq i)) && qa3 r
noncomputable def M4 (n : Nat) (π : List Nat) : Bool := Nat.beq π.length n && (List.range n).all (fun i => π.any (Nat.beq i)) && π.all (fun i => Nat.blt i n) && qa3 π
noncomputable def Vr (n : Nat) (o : Oper) : Bool := o.after.toList.all (fun e => Nat.blt e.on n) && (match o.guard with
 | some p => Nat.blt p.1 n
 | none => true)
noncomputable def Bs (ops : Array Oper) (done : Nat) : List Nat := (List.range ops.toList.length).filter fun i => !(Nat.testBit done i) && (match ops[i]? with
 | some o => o.after.toList.all fun e => !(Region.binds .any e) || Nat.testBit done e.on
 | none => false)
noncomputable def qho (ops : Array Oper) (done p : Nat) : Bool := Gx ops p && (List.range ops.toList.length).all fun k => Nat.beq k p || (Nat.testBit done k || (Vo ops k p || Qm ops p k))
noncomputable def exL (f : Nat → Option R) : List Nat → Option R
 | [] => none
 | [p] => f p
 | p :: q :: r => q6 (f p) (exL f (q :: r))
noncomputable def Ku (p : Nat → Bool) : List Nat → Option Nat
 | [] => none
 | i :: r => bif p i then some i else Ku p r
noncomputable def ordK (E : Env) (run : zC R) (ops : Array Oper) : Nat → Nat → St → (St → Option R) → Option R
 | 0, _, s, k => k s
 | n + 1, done, s, k => fNs (Bs ops done) fun rd =>
   match rd with
   | [] => none
   | _ => match Ku (qho ops done) rd with
     | some p => match ops[p]? with
       | some o => opK E run ops o s fun s => fO o s fun s => fN (Nat.lor done (2 ^ p)) fun done => ordK E run ops n done s k
       | none => none
     | none => exL (fun p => match ops[p]? with
       | some o => opK E run ops o s fun s => fO o s fun s => fN (Nat.lor done (2 ^ p)) fun done => ordK E run ops n done s k
       | none => none) rd
noncomputable def base3 (ops : Array Oper) (t : Nat) : Nat := gF (gF (gF t ops.toList) ops.toList) ops.toList
noncomputable def boxy (ops : Array Oper) : Bool := ops.toList.any fun o => match o.op with
 | .load _ (.tmp t) => ops.toList.any fun o' => match o'.op with
   | .store _ (.tmp u) _ => Nat.beq (base3 ops t) (base3 ops u)
   | _ => false
 | _ => false
noncomputable def exR (E : Env) (run : zC R) (ops : Array Oper) (s : St) (k : St → Option R) : Option R :=
 bif ops.toList.all B4 then ordK E run ops ops.toList.length 0 s k else none
noncomputable def BZ (E : Env) (run : zC R) (ops : Array Oper) (s : St) (k : St → Option R) : Option R :=
 fNs (zB ops.toList []) fun bf => fN (Jb E (ops.toList.any jP) ops.toList) fun m =>
 bif MQ ops bf m ops.toList.length then
  fNs (lags ops bf m ops.toList.length) fun L =>
  fzsK ops L s fun s0 =>
  Uo E ops bf L s0.M.length 0 (ops.toList.take m) { s0 with M := BU s0.T (ops.toList.take m) s0.M ++ List.replicate m .dead } fun s =>
   gmK s0.M.length (ops.toList.take m) s fun s => D2 E run ops L m (ops.toList.drop m) s k
 else none
noncomputable def lagg (E : Env) (ops : Array Oper) : Bool := (List.range ops.toList.length).any fun i => Zm ops i &&
 (qar E (ops.toList.any jP) (zB ops.toList []) 0 ops.toList []).any fun j => !(Nat.testBit ((zB ops.toList []).getD j 0) i) && !(Nat.testBit ((zB ops.toList []).getD i 0) j)
noncomputable def qh0 (E : Env) (run : zC R) (ops : Array Oper) (s : St) (k : St → Option R) : Option R :=
 bif E.both && boxy ops || E.all && lagg E ops then exR E run ops s k else
 fNs (Vq E ops) fun π =>
 bif isId 0 π then BZ E run ops s k else
 bif M4 ops.toList.length π && ops.toList.all (Vr ops.toList.length) then BZ E run (jW π ops) s k else none
inductive Ex where
 | normal
 | exit (id : Nat)
 | goto (l : Nat)
 | ret
noncomputable def jR : Code → Option Nat
 | .region id _ _ => some id
 | .seq a b => match jR a with
   | some i => some i
   | none => jR b
 | .cond _ a b => match jR a with
   | some i => some i
   | none => jR b
 | .block _ c => jR c
 | .loop c => jR c
 | .scope c => jR c
 | _ => none
inductive Pt where
 | int (k : IntKind)
 | bool | str
 | sl (e : Kd)
 | ptr (b off : Nat)
 | vec (b : Nat)
 | mref (b : Nat)
 | nilsl
 | func (f : Nat) (first cap : List (Nat × Nat))
 | agg (n : Nat)
 | csl (b off n : Nat)
 | lit (k : IntKind) (n : Int)
 | slit (s : Str)
 | junk
inductive BP where
 | dead
 | cells (ps : List Pt)
 | vec (e : Kd)
 | fvec (e : Kd)
 | map (kk kv : Kd)
@[reducible] def PTs : List Pt → Type
  | [] => Unit
  | .int _ :: ps => Int × PTs ps
  | .bool :: ps => Bool × PTs ps
  | .str :: ps => Str × PTs ps
  | .sl e :: ps => List e.T × PTs ps
  | _ :: ps => PTs ps
@[reducible] def BTs : List BP → Type
  | [] => Unit
  | .cells ps :: r => PTs ps × BTs r
  | .vec e :: r => List e.T × BTs r
  | .fvec e :: r => List e.T × BTs r
  | .map kk kv :: r => List (kk.T × kv.T) × BTs r
  | .dead :: r => BTs r
structure SPat where
 nt : Nat
 ix : List Nat
 tp : List Pt
 mp : List BP
 lock : List Nat
 lo : Nat
@[reducible] def SPat.X (p : SPat) : Type := PTs p.tp × BTs p.mp
noncomputable def qbd (b off : Nat) : AV → Bool
 | .ptr b' o' => Nat.beq b' b && Nat.beq o' off
 | _ => false
noncomputable def Qk : List (Nat × Nat) → List AV → Bool
 | [], [] => true
 | p :: r, v :: s => qbd p.1 p.2 v && Qk r s
 | _, _ => false
noncomputable def isVec (b : Nat) : AV → Bool
 | .vec b' => Nat.beq b' b
 | _ => false
noncomputable def qg4 (b : Nat) : AV → Bool
 | .mref b' => Nat.beq b' b
 | _ => false
noncomputable def qbe : AV → Bool
 | .nilsl => true
 | _ => false
noncomputable def qg5 (f : Nat) (x y : List (Nat × Nat)) : AV → Bool
 | .func g a c => Nat.beq g f && Qk x a && Qk y c
 | _ => false
noncomputable def isCsl (b off n : Nat) : AV → Bool
 | .csl b' o' n' => Nat.beq b' b && (Nat.beq o' off && Nat.beq n' n)
 | _ => false
noncomputable def isLit (k : IntKind) (n : Int) : AV → Bool
 | .int k' m => decide (k' = k) && ieq m n
 | _ => false
noncomputable def qg3 (s : Str) : AV → Bool
 | .str t => seq t s
 | _ => false
noncomputable def qQ : (ps : List Pt) → List AV → Option (PTs ps)
 | [], [] => some ()
 | .int k :: ps, v :: vs => (v.asInt k).bind fun n => (qQ ps vs).bind fun r => some (n, r)
 | .bool :: ps, v :: vs => v.asBool.bind fun n => (qQ ps vs).bind fun r => some (n, r)
 | .str :: ps, v :: vs => v.asStr.bind fun n => (qQ ps vs).bind fun r => some (n, r)
 | .sl e :: ps, v :: vs => (v.asSl e).bind fun n => (qQ ps vs).bind fun r => some (n, r)
 | .ptr b off :: ps, v :: vs => bif qbd b off v then qQ ps vs else none
 | .vec b :: ps, v :: vs => bif isVec b v then qQ ps vs else none
 | .mref b :: ps, v :: vs => bif qg4 b v then qQ ps vs else none
 | .nilsl :: ps, v :: vs => bif qbe v then qQ ps vs else none
 | .func f x y :: ps, v :: vs => bif qg5 f x y v then qQ ps vs else none
 | .agg n :: ps, v :: vs => match v with
   | .agg cs => bif Nat.beq cs.length n then qQ ps (cs ++ vs) else none
   | _ => none
 | .csl b off n :: ps, v :: vs => bif isCsl b off n v then qQ ps vs else none
 | .lit k n :: ps, v :: vs => bif isLit k n v then qQ ps vs else none
 | .slit s :: ps, v :: vs => bif qg3 s v then qQ ps vs else none
 | .junk :: ps, _ :: vs => qQ ps vs
 | _, _ => none
noncomputable def DY (l : List (Nat × Nat)) : List AV := l.map fun p => .ptr p.1 p.2
noncomputable def qS : (ps : List Pt) → PTs ps → List AV
 | [], _ => []
 | .int k :: ps, x => .int k x.1 :: qS ps x.2
 | .bool :: ps, x => .bool x.1 :: qS ps x.2
 | .str :: ps, x => .str x.1 :: qS ps x.2
 | .sl e :: ps, x => .sl e x.1 :: qS ps x.2
 | .ptr b off :: ps, x => .ptr b off :: qS ps x
 | .vec b :: ps, x => .vec b :: qS ps x
 | .mref b :: ps, x => .mref b :: qS ps x
 | .nilsl :: ps, x => .nilsl :: qS ps x
 | .func f a c :: ps, x => .func f (DY a) (DY c) :: qS ps x
 | .agg n :: ps, x => .agg ((qS ps x).take n) :: (qS ps x).drop n
 | .csl b off n :: ps, x => .csl b off n :: qS ps x
 | .lit k n :: ps, x => .int k n :: qS ps x
 | .slit s :: ps, x => .str s :: qS ps x
 | .junk :: ps, x => .junk :: qS ps x
noncomputable def zK : (bs : List BP) → List Blk → Option (BTs bs)
 | [], _ => some ()
 | .dead :: bs, _ :: r => zK bs r
 | .cells ps :: bs, .cells cs :: r => (qQ ps cs).bind fun x => (zK bs r).bind fun y => some (x, y)
 | .vec e :: bs, .vec e' l :: r => if h : e' = e then (zK bs r).bind fun y => some (zk h l, y) else none
 | .fvec e :: bs, .fvec e' l :: r => if h : e' = e then (zK bs r).bind fun y => some (zk h l, y) else none
 | .map kk kv :: bs, .map kk' kv' l :: r => if h : kk' = kk ∧ kv' = kv then (zK bs r).bind fun y => some (h.1 ▸ h.2 ▸ l, y) else none
 | _, _ => none
noncomputable def zA : (bs : List BP) → BTs bs → List Blk
 | [], _ => []
 | .dead :: bs, x => .dead :: zA bs x
 | .cells ps :: bs, x => .cells (qS ps x.1) :: zA bs x.2
 | .vec e :: bs, x => .vec e x.1 :: zA bs x.2
 | .fvec e :: bs, x => .fvec e x.1 :: zA bs x.2
 | .map kk kv :: bs, x => .map kk kv x.1 :: zA bs x.2
noncomputable def Q7 (T : List AV) : List Nat → List AV
 | [] => []
 | i :: r => Kh T i :: Q7 T r
noncomputable def putT : List AV → List Nat → List AV → List AV
 | T, i :: r, v :: vs => putT (Js T i v) r vs
 | T, _, _ => T
noncomputable def Kk : List Nat → List Nat → Bool
 | [], [] => true
 | a :: r, b :: s => Nat.beq a b && Kk r s
 | _, _ => false
mutual
noncomputable def AV.ids : AV → List Nat
 | .ptr b _ => [b]
 | .pidx b _ _ _ => [b]
 | .vec b => [b]
 | .vsl b _ _ => [b]
 | .vref b _ _ => [b]
 | .csl b _ _ => [b]
 | .mref b => [b]
 | .agg cs => AV.idss cs
 | .tup cs => AV.idss cs
 | .func _ x y => AV.idss x ++ AV.idss y
 | _ => []
noncomputable def AV.idss : List AV → List Nat
 | [] => []
 | v :: r => AV.ids v ++ AV.idss r
end
noncomputable def Blk.ids : Blk → List Nat
 | .cells cs => AV.idss cs
 | .amap ks vs => AV.idss ks ++ AV.idss vs
 | _ => []
noncomputable def zm : Nat → List BP → List Nat
 | _, [] => []
 | i, .dead :: r => i :: zm (i + 1) r
 | i, _ :: r => zm (i + 1) r
noncomputable def QD : List Nat → Mem → Mem
 | [], M => M
 | i :: r, M => QD r (M.modify i Vl)
noncomputable def toD (M : Mem) (v : AV) : AV :=
 match v with
 | .vec b => (ga M (.vec b)).getD (.vec b)
 | .vsl b i j => (ga M (.vsl b i j)).getD (.vsl b i j)
 | v => v
noncomputable def kz : List BP → List Blk
 | [] => []
 | .vec e :: r => .vec e [] :: kz r
 | _ :: r => .dead :: kz r
noncomputable def BH (M : Mem) (b : Nat) : Bool :=
 match M[b]? with
 | some (.vec _ _) => true
 | _ => false
noncomputable def Vd (n0 : Nat) (M : Mem) (p : Pt) (v : AV) : AV :=
 match p, v with
 | .sl _, v => toD M v
 | .vec b, .nilsl => bif Nat.ble n0 b && BH M b then .vec b else .nilsl
 | _, v => v
noncomputable def QI (n0 : Nat) (M : Mem) : List Pt → List AV → List AV
 | p :: ps, v :: vs => Vd n0 M p v :: QI n0 M ps vs
 | _, vs => vs
noncomputable def qbr (n0 : Nat) (M : Mem) (ps : List Pt) (v : AV) : AV :=
 match v with
 | .agg cs => .agg (QI n0 M ps cs)
 | v => v
noncomputable def Z7 (n0 : Nat) (M : Mem) : List Nat → List Pt → List AV → List AV
 | i :: ix, .sl e :: ps, T => Z7 n0 M ix ps (Js T i (Vd n0 M (.sl e) (Kh T i)))
 | i :: ix, .vec b :: ps, T => Z7 n0 M ix ps (Js T i (Vd n0 M (.vec b) (Kh T i)))
 | i :: ix, .agg n :: ps, T => Z7 n0 M ix (ps.drop n) (Js T i (qbr n0 M ps (Kh T i)))
 | _ :: ix, _ :: ps, T => Z7 n0 M ix ps T
 | _, _, T => T
noncomputable def J6 (n0 : Nat) (M : Mem) : List BP → Mem → Mem
 | .cells ps :: bs, .cells cs :: r => .cells (QI n0 M ps cs) :: J6 n0 M bs r
 | _ :: bs, x :: r => x :: J6 n0 M bs r
 | _, r => r
noncomputable def SPat.prepM (p : SPat) (s : St) : Mem := QD (zm 0 p.mp) s.M ++ kz (p.mp.drop (QD (zm 0 p.mp) s.M).length)
noncomputable def SPat.prep (p : SPat) (s : St) : St :=
 { s with T := Z7 (QD (zm 0 p.mp) s.M).length (p.prepM s) p.ix p.tp s.T, M := J6 (QD (zm 0 p.mp) s.M).length (p.prepM s) p.mp (p.prepM s) }
noncomputable def SPat.match0 (p : SPat) (s : St) : Option p.X :=
 bif Nat.beq s.T.length p.nt && Kk s.lock p.lock && Nat.beq s.lo p.lo && Nat.ble p.lo p.mp.length then
  (qQ p.tp (Q7 s.T p.ix)).bind fun x => (zK p.mp s.M).bind fun y => some (x, y)
 else none
noncomputable def SPat.match (p : SPat) (s : St) : Option p.X := p.match0 (p.prep s)
noncomputable def SPat.build (p : SPat) (x : p.X) : St :=
 { T := putT (Zp p.nt) p.ix (qS p.tp x.1), M := zA p.mp x.2, lock := p.lock, lo := p.lo }
noncomputable def SPat.closed (p : SPat) : Bool :=
 (p.tp.all (ok p.mp.length)) && p.mp.all fun b => match b with
  | .cells ps => ps.all (ok p.mp.length)
  | _ => true
where ok (n : Nat) : Pt → Bool
 | .ptr b _ => Nat.blt b n
 | .vec b => Nat.blt b n
 | .mref b => Nat.blt b n
 | .func _ x y => x.all (fun p => Nat.blt p.1 n) && y.all (fun p => Nat.blt p.1 n)
 | .csl b _ _ => Nat.blt b n
 | _ => true
noncomputable def Ex.beq : Ex → Ex → Bool
 | .normal, .normal => true
 | .exit i, .exit j => Nat.beq i j
 | .ret, .ret => true
 | .goto i, .goto j => Nat.beq i j
 | _, _ => false
@[reducible] def XS : List (Ex × SPat) → Type
  | [] => Empty
  | [p] => p.2.X
  | p :: r => p.2.X ⊕ XS r
noncomputable def exK : (es : List (Ex × SPat)) → Ex → St → Option (XS es)
 | [], _, _ => none
 | [p], e, s => bif Ex.beq p.1 e then p.2.match s else none
 | p :: q :: r, e, s => match (bif Ex.beq p.1 e then p.2.match s else none : Option p.2.X) with
   | some x => some (.inl x)
   | none => (exK (q :: r) e s).bind fun y => some (.inr y)
noncomputable def exsK : (es : List (Ex × SPat)) → XS es → (Ex → St → Option R) → Option R
 | [], x, _ => nomatch x
 | [p], x, k => k p.1 (p.2.build x)
 | p :: q :: r, x, k => scase x (fun x => k p.1 (p.2.build x)) (fun y => exsK (q :: r) y k)
structure Alt where
 sp : SPat
 es : List (Ex × SPat)
 fu : Nat
 T : (sp.X → Option (XS es)) → sp.X → Option (XS es)
structure Join where
 sp : SPat
 on : Bool
 es : List (Ex × SPat)
structure Hints where
 al : List (Nat × List (Nat × List Alt))
 jn : List (Nat × List (Nat × List Join))
noncomputable def Ra : List Join → St → Option Join
 | [], _ => none
 | j :: r, s => bif (j.sp.match s).isSome && j.es.all (fun p => p.2.closed) then some j else Ra r s
noncomputable def JS (body : St → (Ex → St → Option R) → Option R) (k : Ex → St → Option R) : Nat → St → Option R
 | 0, _ => none
 | L + 1, s => body s fun e s => match e with
   | .normal => JS body k L s
   | e => k e s
noncomputable def altK (m : Nat) (L : Nat) : List Alt → St → (Ex → St → Option R) → Option R
 | [], _, _ => none
 | a :: r, s, k => match (bif Nat.ble a.fu m && a.sp.closed && a.es.all (fun p => p.2.closed) then a.sp.match s else none : Option a.sp.X) with
   | some x => obind (qr a.T L x) fun o => exsK a.es o k
   | none => altK m L r s k
noncomputable def jS (E : Env) (H : Hints) : Nat → {R : Type} → Nat → Code → St → (Ex → St → Option R) → Option R
 | 0, _, _, _, _, _ => none
 | n + 1, R, f, c, s, k =>
   let run : zC R := fun g fn args s k => match fn.body with
    | some c => fS { T := args ++ Zp (fn.ntmps - args.length), M := s.M, lock := AV.idss s.T ++ s.lock, lo := s.M.length } fun s1 => jS E H n g c s1 fun e s' =>
      match e with
      | .ret => (gv E fn s').bind fun v => k v { s with M := s'.M }
      | .normal => (gv E fn s').bind fun v => k v { s with M := s'.M }
      | _ => none
    | none => none
   match c with
   | .skip => k .normal s
   | .label _ => k .normal s
   | .ret => k .ret s
   | .exit id => k (.exit id) s
   | .goto l => k (.goto l) s
   | .region _ ops draw => bif draw then qh0 E run ops s (k .normal) else opsK E run ops ops.toList s (k .normal)
   | .seq a b =>
     let kb : Ex → St → Option R := fun e s => match e with
      | .normal => jS E H n f b s k
      | e => k e s
     match qat E f a b with
     | some p => vr E p.1 p.1.toList s fun s1 => vr E p.2.1 p.2.1.toList s1 fun s2 =>
       fS (thaw ((p.1.toList ++ p.2.1.toList).filterMap (·.dst)) s s2) fun s3 => jS E H n f p.2.2.1 s3 fun e s => match e with
        | .normal => jS E H n f p.2.2.2 s k
        | e => k e s
     | none =>
     match (look H.jn f).bind fun hs => (jR b).bind fun i => look hs i with
     | some js => match Ra js s with
       | some j => bif j.on then (obind (jS E H n f a s (exK j.es)) fun o => exsK j.es o fun e s => fS s fun s => kb e s) else jS E H n f a s kb
       | none => jS E H n f a s kb
     | none => jS E H n f a s kb
   | .cond c a b => match evO s.T c with
     | .bool t => cnd t (jS E H n f a s k) (jS E H n f b s k)
     | _ => none
   | .block id c => jS E H n f c s fun e s => match e with
     | .exit i => bif Nat.beq i id then k .normal s else k (.exit i) s
     | e => k e s
   | .loop c => match (look H.al f).bind fun hs => (jR c).bind fun i => look hs i with
     | some alts => altK n E.L alts s fun e s => fS s fun s => k e s
     | none => JS (fun s k => jS E H n f c s k) k 70 s
   | .scope c => jS E H n f c s fun e s => match e with
     | .goto _ => none
     | e => k e s
   | _ => none
noncomputable def q9 (E : Env) (H : Hints) (f : Nat) (fn : Func) (args : List AV) (fin : AV → Option R) : Option R :=
 match fn.body with
 | some c => fS { T := args ++ Zp (fn.ntmps - args.length), M := [], lock := [], lo := 0 } fun s1 => jS E H 400 f c s1 fun e s =>
   match e with
   | .ret => (gv E fn s).bind fun v => (dataRes (frzRes s.M v) v).bind fin
   | .normal => (gv E fn s).bind fun v => (dataRes (frzRes s.M v) v).bind fin
   | _ => none
 | none => none
where
 frzRes (M : Mem) : AV → Mem
  | .tup vs => frzArgs M vs
  | v => frz M v
 dataRes (M : Mem) : AV → Option AV
  | .tup vs => (jU M vs).bind fun vs => some (.tup vs)
  | v => ka M v
noncomputable def B2 (kd : Kd) (M : Mem) (v : AV) (fin : List kd.T → Option R) : Option R :=
 match v with
 | .nilsl => fin []
 | .vec b => match M[b]? with
   | some (.vec e l) => if h : e = kd then fin (zk h l) else none
   | _ => none
 | _ => none
noncomputable def RT (E : Env) (H : Hints) (f : Nat) (fn : Func) (args : List AV) (kd : Kd) (fin : List kd.T → Option R) : Option R :=
 match fn.body with
 | some c => fS { T := args ++ Zp (fn.ntmps - args.length), M := [], lock := [], lo := 0 } fun s1 => jS E H 400 f c s1 fun e s =>
   match e with
   | .ret => (gv E fn s).bind fun v => B2 kd s.M v fin
   | .normal => (gv E fn s).bind fun v => B2 kd s.M v fin
   | _ => none
 | none => none
noncomputable def Alt.Round (E : Env) (H : Hints) (f : Nat) (c : Code) (a : Alt) : Prop :=
 ∀ (rec : a.sp.X → Option (XS a.es)) (x : a.sp.X), (fS (a.sp.build x) fun s1 => jS E H a.fu f c s1 (fun e s => match e with
  | .normal => (a.sp.match s).bind rec
  | e => exK a.es e s)) = a.T rec x
end Go.Sx
namespace Go.Sx
open Go
abbrev GW := Go.World
theorem jh (a : Addr) (x y : Nat) : (a.add x).add y = a.add (x + y) := by
 unfold Addr.add
 by_cases hx : x = 0
 ·subst hx; simp
 ·by_cases hy : y = 0
  ·subst hy; simp [hx]
  ·simp [hx, hy, Nat.add_assoc]
theorem add_block (a : Addr) (x : Nat) : (a.add x).block = a.block := by unfold Addr.add; split <;> rfl
theorem add_zero (a : Addr) : a.add 0 = a := by simp [Addr.add]
theorem add_lit (c o x : Nat) : (⟨c, o, none⟩ : Addr).add x = ⟨c, o + x, none⟩ := by
 unfold Addr.add; split
 ·rename_i h; subst h; simp
 ·rfl
inductive DR (D : Nat → Prop) (w : GW) : AV → Value → Prop
 | int (k : IntKind) (n : Int) : DR D w (.int k n) (.int k n)
 | bool (b : Bool) : DR D w (.bool b) (.bool b)
 | str (s : Str) : DR D w (.str s) (.string ⟨s.toArray⟩)
 | sl (e : Kd) (l : List e.T) (A : Option Addr) (cap : Nat) (cv : Nat → Nat → Value) (hcap : l.length ≤ cap)
   (hA : ∀ i, i < l.length → ∃ a, A = some a ∧ D a.block ∧ ∀ j, j < e.size → w.cell? (a.add (i * e.size + j)) = some (cv i j))
   (hone : ∀ i j, i < l.length → j < e.size → (cv i j).oneCell' = true)
   (hr : ∀ i (h : i < l.length) j (hj : j < (e.cells l[i]).length), DR D w ((e.cells l[i])[j]) (cv i j)) : DR D w (.sl e l) (.slice A l.length cap)
 | slc (e : Kd) (l : List e.T) (A : Option Addr) (cv : Nat → Nat → Value)
   (hA : ∀ i, i < l.length → ∃ a, A = some a ∧ D a.block ∧ ∀ j, j < e.size → w.cell? (a.add (i * e.size + j)) = some (cv i j))
   (hone : ∀ i j, i < l.length → j < e.size → (cv i j).oneCell' = true)
   (hr : ∀ i (h : i < l.length) j (hj : j < (e.cells l[i]).length), DR D w ((e.cells l[i])[j]) (cv i j)) : DR D w (.slc e l) (.slice A l.length l.length)
 | nilsl : DR D w .nilsl (.slice none 0 0)
 | nilp : DR D w .nilp (.pointer none)
 | nilf : DR D w .nilf .nilFunc
 | nilm : DR D w .nilm (.map none)
 | nili : DR D w .nili .nilIface
 | err (t : TypeId) (v : Value) : DR D w .err (.iface t v)
 | agg (cs : List AV) (vs : List Value) (hl : cs.length = vs.length) (hone : ∀ v ∈ vs, v.oneCell' = true)
   (h : ∀ i (h1 : i < cs.length) (h2 : i < vs.length), DR D w cs[i] vs[i]) : DR D w (.agg cs) (.agg vs.toArray)
 | tup (cs : List AV) (vs : List Value) (hl : cs.length = vs.length)
   (h : ∀ i (h1 : i < cs.length) (h2 : i < vs.length), DR D w cs[i] vs[i]) : DR D w (.tup cs) (.tuple vs.toArray)
inductive SB where
 | none
 | blk (c : Nat)
 | hdr (A : Option Nat) (len cap sz : Nat)
def blkA (c : Nat) : Addr := ⟨c, 0, Option.none⟩
structure Gam where
 σ : Nat → SB
 D : Nat → Prop
inductive VR (D : Nat → Prop) (σ : Nat → SB) (w : GW) : AV → Value → Prop
 | data (v : AV) (x : Value) (h : DR D w v x) : VR D σ w v x
 | junk (x : Value) : VR D σ w .junk x
 | undef : VR D σ w .undef Go.undef
 | ptr (b off c : Nat) (h : σ b = .blk c) : VR D σ w (.ptr b off) (.pointer (some ((blkA c).add off)))
 | pidx (b off n : Nat) (i : Int) (c : Nat) (h : σ b = .blk c) (h0 : 0 ≤ i) (h1 : i < n) : VR D σ w (.pidx b off n i) (.pointer (some ((blkA c).add (off + i.toNat))))
 | dref (cs : List AV) (off : Nat) (a : Addr) (cv : Nat → Value) (hD : D a.block)
   (h : ∀ j (hj : j < cs.length), w.cell? (a.add j) = some (cv j) ∧ (cv j).oneCell' = true ∧ DR D w cs[j] (cv j)) : VR D σ w (.dref cs off) (.pointer (some (a.add off)))
 | didx (cs : List AV) (off n : Nat) (i : Int) (a : Addr) (cv : Nat → Value) (hD : D a.block) (h0 : 0 ≤ i) (h1 : i < n)
   (h : ∀ j (hj : j < cs.length), w.cell? (a.add j) = some (cv j) ∧ (cv j).oneCell' = true ∧ DR D w cs[j] (cv j)) : VR D σ w (.didx cs off n i) (.pointer (some (a.add (off + i.toNat))))
 | vec (b : Nat) (A : Option Nat) (len cap sz : Nat) (h : σ b = .hdr A len cap sz) : VR D σ w (.vec b) (.slice (A.map blkA) len cap)
 | vsl (b : Nat) (lo hi : Int) (A : Option Nat) (len cap sz : Nat) (h : σ b = .hdr A len cap sz) (h0 : 0 ≤ lo) (h1 : lo ≤ hi) (h2 : hi ≤ len) (B : Option Addr) (cap' : Nat)
   (hB : lo < hi → B = A.map fun c => (blkA c).add (lo.toNat * sz)) (hc : (hi - lo).toNat ≤ cap') (hz : lo = 0 → B = A.map blkA ∧ cap' = cap) : VR D σ w (.vsl b lo hi) (.slice B (hi - lo).toNat cap')
 | vref (b : Nat) (i : Int) (off : Nat) (c len cap sz : Nat) (h : σ b = .hdr (some c) len cap sz) (h0 : 0 ≤ i) (h1 : i < len) : VR D σ w (.vref b i off) (.pointer (some ((blkA c).add (i.toNat * sz + off))))
 | csl (b off len c : Nat) (h : σ b = .blk c) (cap : Nat) (hc : len ≤ cap) : VR D σ w (.csl b off len) (.slice (some ((blkA c).add off)) len cap)
 | agg (cs : List AV) (vs : List Value) (hl : cs.length = vs.length) (hone : ∀ v ∈ vs, v.oneCell' = true)
   (h : ∀ i (h1 : i < cs.length) (h2 : i < vs.length), VR D σ w cs[i] vs[i]) : VR D σ w (.agg cs) (.agg vs.toArray)
 | tup (cs : List AV) (vs : List Value) (hl : cs.length = vs.length)
   (h : ∀ i (h1 : i < cs.length) (h2 : i < vs.length), VR D σ w cs[i] vs[i]) : VR D σ w (.tup cs) (.tuple vs.toArray)
 | func (f : FuncId) (x y : List AV) (u v : List Value) (hx : x.length = u.length) (hy : y.length = v.length)
   (h : ∀ i (h1 : i < x.length) (h2 : i < u.length), VR D σ w x[i] u[i]) (h' : ∀ i (h1 : i < y.length) (h2 : i < v.length), VR D σ w y[i] v[i]) :
   VR D σ w (.func f x y) (.func (.func f) u.toArray v.toArray)
 | mref (b c : Nat) (h : σ b = .blk c) : VR D σ w (.mref b) (.map (some c))
 | gp (g off : Nat) : VR D σ w (.gp g off) (.pointer (some ((blkA g).add off)))
def vw (R : AV → Value → Prop) (cs : List AV) (vs : Array Value) : Prop :=
 vs.size = cs.length ∧ ∀ i (h : i < cs.length) (h' : i < vs.size), vs[i].oneCell' = true ∧ R cs[i] vs[i]
def EntOK (kk : IntKind) (l : List MapEntry) (es : Array MapEntry) : Prop := l.Perm es.toList ∧ (∀ e ∈ l, ∃ m, e.key = .int kk m) ∧ (l.map (·.key)).Nodup
def BR (D : Nat → Prop) (σ : Nat → SB) (w : GW) (sb : SB) : Blk → Prop
 | .dead => True
 | .cells cs => ∃ c vs t, sb = .blk c ∧ w.heap[c]? = some (.cells vs t (0, 0)) ∧ vw (VR D σ w) cs vs
 | .vec e l => ∃ A cap, sb = .hdr A l.length cap e.size ∧ l.length ≤ cap ∧ (A = none → l = [] ∧ cap = 0) ∧ ∀ c, A = some c → ∃ vs t, w.heap[c]? = some (.cells vs t (0, 0)) ∧ vs.size = cap * e.size ∧
   (∀ v ∈ vs.toList, v.oneCell' = true) ∧ ∀ i (h : i < l.length) j (hj : j < (e.cells l[i]).length), DR D w ((e.cells l[i])[j]) (vs.getD (i * e.size + j) undef)
 | .fvec e l => ∃ A cap, sb = .hdr A l.length cap e.size ∧ DR D w (.sl e l) (.slice (A.map blkA) l.length cap)
 | .map kk kv l => ∃ c es clock, sb = .blk c ∧ w.heap[c]? = some (.map es clock) ∧ es.size = l.length ∧ ∀ i (h : i < l.length) (h' : i < es.size), DR D w (kk.of l[i].1) es[i].key ∧ DR D w (kv.of l[i].2) es[i].val
 | .amap ks vs => ∃ c es clock l kk, sb = .blk c ∧ w.heap[c]? = some (.map es clock) ∧ EntOK kk l es ∧ l.length = ks.length ∧ l.length = vs.length ∧ (∀ i (h : i < ks.length) (h' : i < l.length), VR D σ w ks[i] l[i].key) ∧ ∀ i (h : i < vs.length) (h' : i < l.length), VR D σ w vs[i] l[i].val
 | .gmap => ∃ c es clock, sb = .blk c ∧ w.heap[c]? = some (.map es clock)
def mutC : SB → Blk → Option Nat
 | .blk c, .cells _ => some c
 | .blk c, .map _ _ _ => some c
 | .blk c, .amap _ _ => some c
 | .blk c, .gmap => some c
 | .hdr A _ _ _, .vec _ _ => A
 | _, _ => none
structure MemOK (base : Nat) (ok : Nat → Prop) (G : Gam) (w : GW) (M : Mem) : Prop where
 blocks : ∀ (b : Nat) (x : Blk), M[b]? = some x → BR G.D G.σ w (G.σ b) x
 own : ∀ (b : Nat) (x : Blk) (c : Nat), M[b]? = some x → mutC (G.σ b) x = some c → base ≤ c ∧ c < w.heap.size ∧ ¬ G.D c
 apart : ∀ (b b' : Nat) (x x' : Blk) (c : Nat), M[b]? = some x → mutC (G.σ b) x = some c → M[b']? = some x' → mutC (G.σ b') x' = some c → b' = b
 dlt : ∀ c, G.D c → c < w.heap.size
 dok : ∀ c, G.D c → ok c ∨ base ≤ c
 out : ∀ b, M.length ≤ b → G.σ b = .none
theorem DR.mono {D D' : Nat → Prop} {w w' : GW} (h : ∀ c, D c → D' c ∧ w'.heap[c]? = w.heap[c]?) {v : AV} {x : Value} (hv : DR D w v x) : DR D' w' v x := by
 have hcell : ∀ (a : Addr) (n : Nat), D a.block → w'.cell? (a.add n) = w.cell? (a.add n) := by
  intro a n hD
  have := (h _ hD).2
  unfold World.cell?
  rw [add_block, this]
 induction hv with
 | int k n => exact .int k n
 | bool b => exact .bool b
 | str s => exact .str s
 | sl e l A cap cv hcap hA hone hr ih =>
   refine .sl e l A cap cv hcap (fun i hi => ?_) hone ih
   obtain ⟨a, rfl, hD, hc⟩ := hA i hi
   exact ⟨a, rfl, (h _ hD).1, fun j hj => by rw [hcell _ _ hD]; exact hc j hj⟩
 | slc e l A cv hA hone hr ih =>
   refine .slc e l A cv (fun i hi => ?_) hone ih
   obtain ⟨a, rfl, hD, hc⟩ := hA i hi
   exact ⟨a, rfl, (h _ hD).1, fun j hj => by rw [hcell _ _ hD]; exact hc j hj⟩
 | nilsl => exact .nilsl
 | nilp => exact .nilp
 | nilf => exact .nilf
 | nilm => exact .nilm
 | nili => exact .nili
 | err t v => exact .err t v
 | agg cs vs hl hone _ ih => exact .agg cs vs hl hone ih
 | tup cs vs hl _ ih => exact .tup cs vs hl ih
theorem Zw {cs : List AV} {i : Nat} (h : i < cs.length) {b : Nat} (hb : b ∈ AV.ids cs[i]) : b ∈ AV.idss cs := by
 induction cs generalizing i with
 | nil => simp at h
 | cons v r ih =>
   cases i with
   | zero => simp [AV.idss] at hb ⊢; exact .inl hb
   | succ i => simp [AV.idss] at hb ⊢; exact .inr (ih (by simpa using h) hb)
theorem VR.mono {D D' : Nat → Prop} {σ σ' : Nat → SB} {w w' : GW} (h : ∀ c, D c → D' c ∧ w'.heap[c]? = w.heap[c]?) {v : AV} {x : Value} (hv : VR D σ w v x)
  (hσ : ∀ b ∈ v.ids, σ b ≠ .none → σ' b = σ b) : VR D' σ' w' v x := by
 have hcell : ∀ (a : Addr) (n : Nat), D a.block → w'.cell? (a.add n) = w.cell? (a.add n) := by
  intro a n hD
  have := (h _ hD).2
  unfold World.cell?
  rw [add_block, this]
 have key : ∀ {b : Nat} {s : SB}, s ≠ .none → σ b = s → b ∈ v.ids → (∀ b ∈ v.ids, σ b ≠ .none → σ' b = σ b) → σ' b = s := by
  intro b s hs he hm hh
  rw [hh b hm (by rw [he]; exact hs), he]
 clear key
 induction hv with
 | data v x hd => exact .data v x (hd.mono h)
 | junk x => exact .junk x
 | undef => exact .undef
 | ptr b off c hb => exact .ptr b off c (by rw [hσ b (by simp [AV.ids]) (by rw [hb]; simp), hb])
 | pidx b off n i c hb h0 h1 => exact .pidx b off n i c (by rw [hσ b (by simp [AV.ids]) (by rw [hb]; simp), hb]) h0 h1
 | dref cs off a cv hD hc => exact .dref cs off a cv (h _ hD).1 fun j hj => by rw [hcell _ _ hD]; exact ⟨(hc j hj).1, (hc j hj).2.1, (hc j hj).2.2.mono h⟩
 | didx cs off n i a cv hD h0 h1 hc => exact .didx cs off n i a cv (h _ hD).1 h0 h1 fun j hj => by rw [hcell _ _ hD]; exact ⟨(hc j hj).1, (hc j hj).2.1, (hc j hj).2.2.mono h⟩
 | vec b A len cap sz hb => exact .vec b A len cap sz (by rw [hσ b (by simp [AV.ids]) (by rw [hb]; simp), hb])
 | vsl b lo hi A len cap sz hb h0 h1 h2 B cap' hB hc hz => exact .vsl b lo hi A len cap sz (by rw [hσ b (by simp [AV.ids]) (by rw [hb]; simp), hb]) h0 h1 h2 B cap' hB hc hz
 | vref b i off c len cap sz hb h0 h1 => exact .vref b i off c len cap sz (by rw [hσ b (by simp [AV.ids]) (by rw [hb]; simp), hb]) h0 h1
 | csl b off len c hb cap hc => exact .csl b off len c (by rw [hσ b (by simp [AV.ids]) (by rw [hb]; simp), hb]) cap hc
 | agg cs vs hl hone hh ih => exact .agg cs vs hl hone fun i h1 h2 => ih i h1 h2 fun b hb => hσ b (by simp only [AV.ids]; exact Zw h1 hb)
 | tup cs vs hl hh ih => exact .tup cs vs hl fun i h1 h2 => ih i h1 h2 fun b hb => hσ b (by simp only [AV.ids]; exact Zw h1 hb)
 | func f x y u v hx hy hh hh' ih ih' =>
   exact .func f x y u v hx hy (fun i h1 h2 => ih i h1 h2 fun b hb => hσ b (by simp only [AV.ids, List.mem_append]; exact .inl (Zw h1 hb)))
    (fun i h1 h2 => ih' i h1 h2 fun b hb => hσ b (by simp only [AV.ids, List.mem_append]; exact .inr (Zw h1 hb)))
 | mref b c hb => exact .mref b c (by rw [hσ b (by simp [AV.ids]) (by rw [hb]; simp), hb])
 | gp g off => exact .gp g off
theorem DR.ids {D : Nat → Prop} {w : GW} {v : AV} {x : Value} (hv : DR D w v x) : v.ids = [] := by
 have nil : ∀ cs : List AV, (∀ i (h : i < cs.length), AV.ids cs[i] = []) → AV.idss cs = [] := by
  intro cs
  induction cs with
  | nil => intro _; rfl
  | cons v r ih => intro h; have h0 := h 0 (by simp); simp only [List.getElem_cons_zero] at h0; simp only [AV.idss]; rw [ih fun i hi => h (i + 1) (by simpa using hi), h0]; rfl
 induction hv with
 | agg cs vs hl hone _ ih => simp only [AV.ids]; exact nil cs fun i h => ih i h (by omega)
 | tup cs vs hl _ ih => simp only [AV.ids]; exact nil cs fun i h => ih i h (by omega)
 | _ => rfl
theorem VR.grow {D D' : Nat → Prop} {σ σ' : Nat → SB} {w w' : GW} (h : ∀ c, D c → D' c ∧ w'.heap[c]? = w.heap[c]?) (hσ : ∀ b, σ b ≠ .none → σ' b = σ b) {v : AV} {x : Value} (hv : VR D σ w v x) : VR D' σ' w' v x :=
 hv.mono h fun b _ hb => hσ b hb
end Go.Sx
namespace Go.Sx
open Go
open Go.RowKit (Below)
def zis : AV → Value → Bool
 | .int k n, .int k' m => decide (k = k') && decide (n = m)
 | .bool b, .bool c => b == c
 | .str [], .string s => s.size == 0
 | .sl _ l, .slice none 0 0 => l.isEmpty
 | .nilsl, .slice none 0 0 => true
 | .nilp, .pointer none => true
 | .nilf, .nilFunc => true
 | .nilm, .map none => true
 | .nili, .nilIface => true
 | _, _ => false
theorem Dt {D : Nat → Prop} {w : GW} {v : AV} {x : Value} (h : zis v x = true) : DR D w v x ∧ x.oneCell' = true := by
 unfold zis at h
 split at h
 ·simp at h; obtain ⟨rfl, rfl⟩ := h; exact ⟨.int _ _, rfl⟩
 ·simp at h; subst h; exact ⟨.bool _, rfl⟩
 ·rename_i s
  have : s = ⟨([] : List UInt8).toArray⟩ := by
   cases s with
   | mk d =>
     have : d.size = 0 := by simpa [ByteArray.size] using h
     have : d = #[] := Array.eq_empty_of_size_eq_zero this
     subst this; rfl
  rw [this]; exact ⟨.str [], rfl⟩
 ·rename_i e l
  have : l = [] := by simpa using h
  subst this
  exact ⟨.sl e [] none 0 (fun _ _ => undef) (by simp) (fun i hi => by simp at hi) (fun i j hi => by simp at hi) (fun i hi => by simp at hi), rfl⟩
 ·exact ⟨.nilsl, rfl⟩
 ·exact ⟨.nilp, rfl⟩
 ·exact ⟨.nilf, rfl⟩
 ·exact ⟨.nilm, rfl⟩
 ·exact ⟨.nili, rfl⟩
 ·simp at h
def zall : List AV → List Value → Bool
 | [], [] => true
 | v :: r, x :: s => zis v x && zall r s
 | _, _ => false
theorem zG {D : Nat → Prop} {w : GW} : ∀ {cs : List AV} {vs : List Value}, zall cs vs = true → cs.length = vs.length ∧ ∀ i (h1 : i < cs.length) (h2 : i < vs.length), DR D w cs[i] vs[i] ∧ vs[i].oneCell' = true
 | [], [], _ => ⟨rfl, fun i h => by simp at h⟩
 | v :: r, x :: s, h => by
   simp only [zall, Bool.and_eq_true] at h
   obtain ⟨hl, hr⟩ := zG (D := D) (w := w) h.2
   refine ⟨by simp [hl], fun i h1 h2 => ?_⟩
   cases i with
   | zero => exact Dt h.1
   | succ i => exact hr i (by simpa using h1) (by simpa using h2)
 | [], _ :: _, h => by simp [zall] at h
 | _ :: _, [], h => by simp [zall] at h
def RM (P : Program) : List Field → List (Nat × TypeId) → Bool
 | [], [] => true
 | f :: r, p :: s => f.offset == p.1 && f.type == p.2 && (match P.info? f.type with | some i => i.size != 0 | none => false) && RM P r s
 | _, _ => false
def shOK (P : Program) : TypeDesc → Sh → Bool
 | .int k, .int k' => decide (k = k')
 | .bool, .bool => true
 | .string, .str => true
 | .pointer e, .ptr e' => e == e'
 | .slice e, .sl e' => e == e'
 | .array n e, .arr n' e' => n == n' && e == e'
 | .struct fs, .st fs' => RM P fs.toList fs'
 | .map k e, .map k' e' => k == k' && e == e'
 | .interface _, .iface => true
 | .func _ _ _, .func => true
 | _, .oth => true
 | _, _ => false
def aggD : TypeDesc → Bool
 | .struct _ | .array _ _ => true
 | _ => false
def J7 (P : Program) (t : TypeId) (i : TyI) : Bool :=
  (match P.info? t with
   | some n => n.size == i.size && n.bytes == i.bytes && (match n.zero with | some z => zall i.zero z.cells.toList && (i.agg || z.oneCell') | none => false) &&
      (match i.kd with | some k => Nat.beq k.size i.size && (match n.zero with | some z => zall (k.cells k.zero) z.cells.toList | none => false) | none => true)
   | none => false) &&
  (match P.underlying t with
   | some d => shOK P d i.sh && (aggD d == i.agg)
   | none => false)
theorem gB {P : Program} : ∀ {fs : List Field} {gs : List (Nat × TypeId)}, RM P fs gs = true → fs.length = gs.length ∧ ∀ i (h : i < fs.length) (h' : i < gs.length), fs[i].offset = gs[i].1 ∧ fs[i].type = gs[i].2 ∧ ∃ n, P.info? fs[i].type = some n ∧ n.size ≠ 0
 | [], [], _ => ⟨rfl, fun i h => by simp at h⟩
 | f :: r, p :: s, h => by
   simp only [RM, Bool.and_eq_true, beq_iff_eq] at h
   obtain ⟨hl, hr⟩ := gB h.2
   refine ⟨by simp [hl], fun i h1 h2 => ?_⟩
   cases i with
   | zero =>
     refine ⟨h.1.1.1, h.1.1.2, ?_⟩
     have h3 := h.1.2
     simp only [List.getElem_cons_zero]
     split at h3
     ·rename_i n hn; exact ⟨n, hn, by simpa using h3⟩
     ·simp at h3
   | succ i => exact hr i (by simpa using h1) (by simpa using h2)
 | [], _ :: _, h => by simp [RM] at h
 | _ :: _, [], h => by simp [RM] at h
structure TyFacts (P : Program) (t : TypeId) (i : TyI) : Prop where
 info : ∃ n z, P.info? t = some n ∧ n.size = i.size ∧ n.bytes = i.bytes ∧ n.zero = some z ∧ (i.agg = false → z.oneCell' = true) ∧ zall i.zero z.cells.toList = true ∧ (∀ k, i.kd = some k → k.size = i.size ∧ zall (k.cells k.zero) z.cells.toList = true)
 und : ∃ d, P.underlying t = some d ∧ shOK P d i.sh = true ∧ aggD d = i.agg
theorem qca {P : Program} {t : TypeId} {i : TyI} (h : J7 P t i = true) : TyFacts P t i := by
 unfold J7 at h
 simp only [Bool.and_eq_true] at h
 constructor
 ·have h1 := h.1
  split at h1
  ·rename_i n hn
   simp only [Bool.and_eq_true, beq_iff_eq] at h1
   obtain ⟨⟨⟨ha, hb⟩, hc⟩, hd⟩ := h1
   split at hc
   ·rename_i z hz
    simp only [Bool.and_eq_true] at hc
    refine ⟨n, z, hn, ha, hb, hz, fun h => by have := hc.2; rw [h] at this; simpa using this, hc.1, fun k hk => ?_⟩
    rw [hk] at hd
    simp only [hz, Bool.and_eq_true] at hd
    exact ⟨Nat.eq_of_beq_eq_true hd.1, hd.2⟩
   ·simp at hc
  ·simp at h1
 ·have h2 := h.2
  split at h2
  ·rename_i d hd
   simp only [Bool.and_eq_true, beq_iff_eq] at h2
   exact ⟨d, hd, h2.1, h2.2⟩
  ·simp at h2
theorem vb {P : Program} {d : TypeDesc} {k : IntKind} (h : shOK P d (.int k) = true) : d = .int k := by
 cases d <;> simp [shOK] at h; exact congrArg _ h
theorem gq {P : Program} {d : TypeDesc} (h : shOK P d .str = true) : d = .string := by cases d <;> simp [shOK] at h; rfl
theorem Yc {P : Program} {d : TypeDesc} (h : shOK P d .bool = true) : d = .bool := by cases d <;> simp [shOK] at h; rfl
theorem J9 {P : Program} {d : TypeDesc} (h : shOK P d .iface = true) : ∃ m, d = .interface m := by cases d <;> simp [shOK] at h; exact ⟨_, rfl⟩
theorem Yb {P : Program} {d : TypeDesc} (h : shOK P d .func = true) : ∃ a b c, d = .func a b c := by cases d <;> simp [shOK] at h; exact ⟨_, _, _, rfl⟩
theorem Gd {P : Program} {d : TypeDesc} {e : TypeId} (h : shOK P d (.ptr e) = true) : d = .pointer e := by cases d <;> simp [shOK] at h; exact congrArg _ h
theorem j3 {P : Program} {d : TypeDesc} {e : TypeId} (h : shOK P d (.sl e) = true) : d = .slice e := by cases d <;> simp [shOK] at h; exact congrArg _ h
theorem kg {P : Program} {d : TypeDesc} {n : Nat} {e : TypeId} (h : shOK P d (.arr n e) = true) : d = .array n e := by
 cases d <;> simp [shOK] at h; rw [h.1, h.2]
theorem JZ {P : Program} {d : TypeDesc} {n e : TypeId} (h : shOK P d (.map n e) = true) : d = .map n e := by
 cases d <;> simp [shOK] at h; rw [h.1, h.2]
theorem JY {P : Program} {d : TypeDesc} {gs : List (Nat × TypeId)} (h : shOK P d (.st gs) = true) : ∃ fs, d = .struct fs ∧ RM P fs.toList gs = true := by
 cases d <;> simp [shOK] at h; exact ⟨_, rfl, h⟩
def GOK (gl : List (Nat × List AV)) (base : Nat) (D : Nat → Prop) (w : GW) : Prop :=
 ∀ g cs, look gl g = some cs → g < base ∧ D g ∧ (∀ j (h : j < cs.length), ∃ x, w.cell? ((blkA g).add j) = some x ∧ x.oneCell' = true ∧ DR D w cs[j] x) ∧ ∃ row t fr, w.heap[g]? = some (.cells row t fr) ∧ row.size = cs.length
def DRs (D : Nat → Prop) (w : GW) (vs : List AV) (xs : List Value) : Prop := vs.length = xs.length ∧ ∀ i (h : i < vs.length) (h' : i < xs.length), DR D w vs[i] xs[i]
def CallsTo (P : Program) (gl : List (Nat × List AV)) (f : FuncId) (args : List AV) (v : AV) : Prop :=
 ∀ (ok : Nat → Prop) (w : GW) (xs : List Value), (∀ c, ok c → c < w.heap.size) → GOK gl w.heap.size ok w → DRs ok w args xs →
  Calls P f xs.toArray w fun e w' => ∃ cv, e = .returned cv ∧ Below w.heap.size w w' ∧ DR (fun c => ok c ∨ (w.heap.size ≤ c ∧ c < w'.heap.size)) w' v cv
def CtrOK (P : Program) (gl : List (Nat × List AV)) (f : FuncId) (c : Ctr) : Prop :=
 (∀ (R : Type) (args : List AV) (k : AV → Option R), c.run args k = (c.run args some).bind k) ∧ ∀ (R : Type) (args : List AV) (k : AV → Option R) (r : R), c.run args k = some r → ∃ v, k v = some r ∧ CallsTo P gl f args v
def OwnTo (P : Program) (gl : List (Nat × List AV)) (f : FuncId) (args : List AV) (e : Kd) (l : List e.T) : Prop :=
 ∀ (ok : Nat → Prop) (w : GW) (xs : List Value), (∀ c, ok c → c < w.heap.size) → GOK gl w.heap.size ok w → DRs ok w args xs →
  Calls P f xs.toArray w fun e' w' => ∃ (A : Option Nat) (cap : Nat), e' = .returned (.slice (A.map blkA) l.length cap) ∧ Below w.heap.size w w' ∧ l.length ≤ cap ∧ (A = none → l = [] ∧ cap = 0) ∧
   ∀ c, A = some c → w.heap.size ≤ c ∧ c < w'.heap.size ∧ ∃ vs t, w'.heap[c]? = some (.cells vs t (0, 0)) ∧ vs.size = cap * e.size ∧ (∀ v ∈ vs.toList, v.oneCell' = true) ∧
    ∀ i (h : i < l.length) j (hj : j < (e.cells l[i]).length), DR (fun q => ok q ∨ (w.heap.size ≤ q ∧ q < w'.heap.size ∧ q ≠ c)) w' ((e.cells l[i])[j]) (vs.getD (i * e.size + j) undef)
def OwnOK (P : Program) (gl : List (Nat × List AV)) (f : FuncId) (c : Ctr) : Prop :=
 (∀ (R : Type) (args : List AV) (k : AV → Option R), c.run args k = (c.run args some).bind k) ∧ ∀ (R : Type) (args : List AV) (k : AV → Option R) (r : R), c.run args k = some r → ∃ (e : Kd) (l : List e.T), k (.sl e l) = some r ∧ OwnTo P gl f args e l
def FnOK (P : Program) (f : FuncId) : Prop := ∃ fn, P.funcs[f]? = some fn ∧ fn.body.isSome = true ∧ fn.name ≠ "runtime.NumGoroutine"
def AV.val : AV → Option Value
 | .int k n => some (.int k n)
 | .bool b => some (.bool b)
 | .str s => some (.string ⟨s.toArray⟩)
 | _ => none
def EqFact (P : Program) (t : TypeId) (ks : List Kd) : Prop :=
 ∀ (w : GW) (cs ds : List AV) (xs ys : List Value) (b : Bool), jy cs ds = some b → Vg ks cs = true → Vg ks ds = true → cs.map AV.val = xs.map some → ds.map AV.val = ys.map some →
  (Op.equal t (.agg xs.toArray) (.agg ys.toArray)).run P w = .ok b w ∧ ∀ op x y, (eqGuard op t x y (.agg xs.toArray) (.agg ys.toArray)).run P w = .ok () w
def GetOK (P : Program) (f d : Nat) : Prop := ∀ (w : GW) (c off : Nat), Calls P f #[.pointer (some ((blkA c).add off))] w fun e w' => e = .returned (.pointer (some ((blkA c).add (off + d)))) ∧ w' = w
structure EnvOK (P : Program) (E : Env) : Prop where
 eq : ∀ t n, look E.eqs t = some n → EqFact P t n
 ty : ∀ t i, E.t t = some i → TyFacts P t i
 ctr : ∀ f c, look E.ctr f = some c → FnOK P f ∧ CtrOK P E.glob f c
 inl : ∀ f fn, look E.inl f = some fn → P.funcs[f]? = some fn ∧ fn.body.isSome = true ∧ fn.name ≠ "runtime.NumGoroutine"
 mixed : P.follows .mixedOrders = true
 get : ∀ f d, look E.get f = some d → FnOK P f ∧ GetOK P f d
 own : ∀ f c, look E.own f = some c → FnOK P f ∧ OwnOK P E.glob f c
theorem kO {P : Program} {f : FuncId} {fn : Func} (h : P.funcs[f]? = some fn) (hb : fn.body.isSome = true) (hn : fn.name ≠ "runtime.NumGoroutine") (xs : Array Value) (w : GW) :
  (callFunc f xs).run P w = .ok (.enter f xs) w := by
 have h1 : (fn.name == "runtime.NumGoroutine") = false := by simpa using hn
 have h2 : fn.body.isNone = false := by cases hh : fn.body <;> simp_all
 unfold callFunc
 simp only [Sem.run_bind, run_program, Result.andThen_ok, h, h1, h2]
 rfl
end Go.Sx
namespace Go.Sx
open Go
open Go.RowKit (Below)
theorem QT {P : Program} {t : TypeId} {i : TyI} (h : TyFacts P t i) (w : GW) : (isAgg t).run P w = .ok i.agg w := by
 obtain ⟨d, hd, _, ha⟩ := h.und
 unfold isAgg
 rw [Sem.run_bind, run_underlying hd w, Result.andThen_ok, ← ha]
 cases d <;> rfl
theorem qL {P : Program} {t : TypeId} {i : TyI} (h : TyFacts P t i) (w : GW) : (sizeOf t).run P w = .ok i.size w := by
 obtain ⟨n, z, hn, hs, _⟩ := h.info
 simp [sizeOf, typeInfo, hn, hs]
theorem jM {P : Program} {t : TypeId} {i : TyI} (h : TyFacts P t i) (w : GW) : ∃ z, (zeroValue t).run P w = .ok z w ∧ (i.agg = false → z.oneCell' = true) ∧ zall i.zero z.cells.toList = true ∧ (∀ k, i.kd = some k → k.size = i.size ∧ zall (k.cells k.zero) z.cells.toList = true) := by
 obtain ⟨n, z, hn, hs, _, hz, h0, h1, h2⟩ := h.info
 exact ⟨z, by simp [zeroValue, typeInfo, hn, hz], h0, h1, h2⟩
def At (R : AV → Value → Prop) (w : GW) (a : Addr) (cs : List AV) : Prop := ∀ j (h : j < cs.length), ∃ x, w.cell? (a.add j) = some x ∧ x.oneCell' = true ∧ R cs[j] x
variable {P : Program} {D : Nat → Prop} {σ : Nat → SB} {w : GW}
theorem gT {R : AV → Value → Prop} (hagg : ∀ (cs : List AV) (vs : List Value), cs.length = vs.length → (∀ v ∈ vs, v.oneCell' = true) → (∀ i (h1 : i < cs.length) (h2 : i < vs.length), R cs[i] vs[i]) → R (.agg cs) (.agg vs.toArray))
  {t : TypeId} {i : TyI} (ht : TyFacts P t i) {a : Addr} {cs : List AV} (h : At R w a cs) {off : Nat} {v : AV} (hp : zg i cs off = some v) :
  ∃ x, (loadVar t (a.add off)).run P w = .ok x w ∧ R v x ∧ (i.agg = false → x.oneCell' = true) := by
 unfold zg at hp
 unfold loadVar
 rw [Sem.run_bind, QT ht w, Result.andThen_ok]
 cases ha : i.agg with
 | true =>
   rw [ha] at hp
   simp only [cond_true] at hp
   cases hb : Nat.ble (off + i.size) cs.length with
   | false => rw [hb] at hp; simp at hp
   | true =>
     rw [hb] at hp
     simp only [cond_true, Option.some.injEq] at hp
     subst hp
     have hle : off + i.size ≤ cs.length := Nat.le_of_ble_eq_true hb
     let f : Nat → Value := fun j => (w.cell? ((a.add off).add j)).getD undef
     have hf : ∀ j, j < i.size → w.cell? ((a.add off).add j) = some (f j) ∧ (f j).oneCell' = true ∧ ∃ hj : off + j < cs.length, R cs[off + j] (f j) := by
      intro j hj
      obtain ⟨x, hx, h1, hr⟩ := h (off + j) (by omega)
      rw [← jh] at hx
      have : f j = x := by simp [f, hx]
      rw [this]
      exact ⟨hx, h1, by omega, hr⟩
     have hl := run_loadCells (P := P) w (a.add off) i.size f (fun j hj => (hf j hj).1)
     refine ⟨.agg ((List.range i.size).map f).toArray, ?_, ?_, by simp⟩
     ·simp only [if_true, Sem.run_bind, qL ht w, Result.andThen_ok, hl, Sem.run_pure]
     ·refine hagg _ _ (by simp; omega) (fun v hv => ?_) (fun k h1 h2 => ?_)
      ·simp at hv; obtain ⟨j, hj, rfl⟩ := hv; exact (hf j hj).2.1
      ·simp at h2
       simp only [List.getElem_take, List.getElem_drop, List.getElem_map, List.getElem_range]
       exact (hf k h2).2.2.2
 | false =>
   rw [ha] at hp
   simp only [cond_false] at hp
   obtain ⟨hlt, rfl⟩ := List.getElem?_eq_some_iff.1 hp
   obtain ⟨x, hx, h1, hr⟩ := h off hlt
   exact ⟨x, by simp [hx], hr, fun _ => h1⟩
theorem VR.mkAgg : ∀ (cs : List AV) (vs : List Value), cs.length = vs.length → (∀ v ∈ vs, v.oneCell' = true) → (∀ i (h1 : i < cs.length) (h2 : i < vs.length), VR D σ w cs[i] vs[i]) → VR D σ w (.agg cs) (.agg vs.toArray) :=
 fun cs vs h1 h2 h3 => .agg cs vs h1 h2 h3
structure Step (G : Gam) (w : GW) (slot : Nat) (b : Option Blk) (G' : Gam) (w' : GW) : Prop where
 below : Below w.heap.size w w'
 keep : ∀ c, G.D c → G'.D c
 new : ∀ c, G'.D c → G.D c ∨ (w.heap.size ≤ c ∧ c < w'.heap.size)
 σ : ∀ i, i ≠ slot → G'.σ i = G.σ i
 slot : match b with
  | none => G'.σ slot = G.σ slot
  | some x => BR G'.D G'.σ w' (G'.σ slot) x ∧ ∀ c, mutC (G'.σ slot) x = some c → w.heap.size ≤ c ∧ c < w'.heap.size ∧ ¬ G'.D c
theorem Step.refl (G : Gam) (w : GW) (slot : Nat) : Step G w slot none G w := ⟨Below.refl _ _, fun _ h => h, fun _ h => .inl h, fun _ _ => rfl, rfl⟩
def zw (P : Program) (G : Gam) (w : GW) (slot : Nat) (b : Option Blk) (v : AV) : Result Next → Prop
 | .ok (.value x) w' => ∃ G', Step G w slot b G' w' ∧ VR G'.D G'.σ w' v x
 | .ok (.enter f args) w1 => w1 = w ∧ Calls P f args w fun e w' => ∃ x, e = .returned x ∧ ∃ G', Step G w slot b G' w' ∧ VR G'.D G'.σ w' v x
 | _ => False
theorem zw.same {G : Gam} {slot : Nat} {v : AV} {x : Value} (h : VR G.D G.σ w v x) : zw P G w slot none v (.ok (.value x) w) := ⟨G, Step.refl G w slot, h⟩
theorem qR {G : Gam} {T : List AV} {a : Act} (h : ∀ t v, T[t]? = some v → VR G.D G.σ w v (a.tmps.getD t undef)) (x : Operand) : VR G.D G.σ w (evO T x) (a.eval x) := by
 cases x with
 | tmp t =>
   simp only [evO, vF, Act.eval]
   cases ht : T[t]? with
   | none => exact .junk _
   | some v => exact h t v ht
 | global g => rw [show a.eval (.global g) = .pointer (some ((blkA g).add 0)) by rw [add_zero]; rfl]; exact .gp g 0
 | func f => exact .func f [] [] [] [] rfl rfl (fun i h => by simp at h) (fun i h => by simp at h)
 | const v =>
   simp only [evO, Act.eval]
   unfold qbs
   split
   ·exact .data _ _ (.int _ _)
   ·exact .data _ _ (.bool _)
   ·rename_i s; exact .data _ _ (by have := DR.str (D := G.D) (w := w) s.data.toList; simpa using this)
   ·exact .data _ _ .nilp
   ·exact .data _ _ .nilsl
   ·exact .data _ _ .nilm
   ·exact .data _ _ .nilf
   ·exact .data _ _ .nili
   ·rename_i f u c
    cases hh : (u.toList.isEmpty && c.toList.isEmpty) with
    | false => exact .junk _
    | true =>
      simp at hh
      obtain ⟨rfl, rfl⟩ := hh
      exact .func f [] [] [] [] rfl rfl (fun i h => by simp at h) (fun i h => by simp at h)
   ·exact .junk _
theorem VR.int_inv {k : IntKind} {n : Int} {x : Value} (h : VR D σ w (.int k n) x) : x = .int k n := by cases h with | data _ _ h => cases h; rfl
theorem VR.bool_inv {b : Bool} {x : Value} (h : VR D σ w (.bool b) x) : x = .bool b := by cases h with | data _ _ h => cases h; rfl
theorem VR.str_inv {s : Str} {x : Value} (h : VR D σ w (.str s) x) : x = .string ⟨s.toArray⟩ := by cases h with | data _ _ h => cases h; rfl
theorem VR.sl_inv {e : Kd} {l : List e.T} {x : Value} (h : VR D σ w (.sl e l) x) : DR D w (.sl e l) x := by cases h with | data _ _ h => exact h
theorem VR.slc_inv {e : Kd} {l : List e.T} {x : Value} (h : VR D σ w (.slc e l) x) : DR D w (.slc e l) x := by cases h with | data _ _ h => exact h
theorem VR.nilsl_inv {x : Value} (h : VR D σ w .nilsl x) : x = .slice none 0 0 := by cases h with | data _ _ h => cases h; rfl
theorem VR.nilp_inv {x : Value} (h : VR D σ w .nilp x) : x = .pointer none := by cases h with | data _ _ h => cases h; rfl
theorem VR.nilf_inv {x : Value} (h : VR D σ w .nilf x) : x = .nilFunc := by cases h with | data _ _ h => cases h; rfl
theorem VR.nili_inv {x : Value} (h : VR D σ w .nili x) : x = .nilIface := by cases h with | data _ _ h => cases h; rfl
theorem VR.err_inv {x : Value} (h : VR D σ w .err x) : ∃ t v, x = .iface t v := by cases h with | data _ _ h => cases h; exact ⟨_, _, rfl⟩
theorem VR.ptr_inv {b off : Nat} {x : Value} (h : VR D σ w (.ptr b off) x) : ∃ c, σ b = .blk c ∧ x = .pointer (some ((blkA c).add off)) := by
 cases h with
 | data _ _ h => cases h
 | ptr _ _ c h => exact ⟨c, h, rfl⟩
theorem VR.gp_inv {g off : Nat} {x : Value} (h : VR D σ w (.gp g off) x) : x = .pointer (some ((blkA g).add off)) := by
 cases h with
 | data _ _ h => cases h
 | gp => rfl
theorem VR.vec_inv {b : Nat} {x : Value} (h : VR D σ w (.vec b) x) : ∃ A len cap sz, σ b = .hdr A len cap sz ∧ x = .slice (A.map blkA) len cap := by
 cases h with
 | data _ _ h => cases h
 | vec _ A len cap sz h => exact ⟨A, len, cap, sz, h, rfl⟩
theorem VR.vref_inv {b : Nat} {i : Int} {off : Nat} {x : Value} (h : VR D σ w (.vref b i off) x) : ∃ c len cap sz, σ b = .hdr (some c) len cap sz ∧ 0 ≤ i ∧ i < len ∧ x = .pointer (some ((blkA c).add (i.toNat * sz + off))) := by
 cases h with
 | data _ _ h => cases h
 | vref _ _ _ c len cap sz h h0 h1 => exact ⟨c, len, cap, sz, h, h0, h1, rfl⟩
theorem VR.dref_inv {cs : List AV} {off : Nat} {x : Value} (h : VR D σ w (.dref cs off) x) : ∃ a, D a.block ∧ At (DR D w) w a cs ∧ x = .pointer (some (a.add off)) := by
 cases h with
 | data _ _ h => cases h
 | dref _ _ a cv hD h => exact ⟨a, hD, fun j hj => ⟨cv j, h j hj⟩, rfl⟩
theorem VR.didx_inv {cs : List AV} {off n : Nat} {i : Int} {x : Value} (h : VR D σ w (.didx cs off n i) x) : ∃ a, D a.block ∧ At (DR D w) w a cs ∧ 0 ≤ i ∧ i < n ∧ x = .pointer (some (a.add (off + i.toNat))) := by
 cases h with
 | data _ _ h => cases h
 | didx _ _ _ _ a cv hD h0 h1 h => exact ⟨a, hD, fun j hj => ⟨cv j, h j hj⟩, h0, h1, rfl⟩
theorem VR.pidx_inv {b off n : Nat} {i : Int} {x : Value} (h : VR D σ w (.pidx b off n i) x) : ∃ c, σ b = .blk c ∧ 0 ≤ i ∧ i < n ∧ x = .pointer (some ((blkA c).add (off + i.toNat))) := by
 cases h with
 | data _ _ h => cases h
 | pidx _ _ _ _ c h h0 h1 => exact ⟨c, h, h0, h1, rfl⟩
theorem VR.csl_inv {b off len : Nat} {x : Value} (h : VR D σ w (.csl b off len) x) : ∃ c cap, σ b = .blk c ∧ len ≤ cap ∧ x = .slice (some ((blkA c).add off)) len cap := by
 cases h with
 | data _ _ h => cases h
 | csl _ _ _ c h cap hc => exact ⟨c, cap, h, hc, rfl⟩
theorem VR.mref_inv {b : Nat} {x : Value} (h : VR D σ w (.mref b) x) : ∃ c, σ b = .blk c ∧ x = .map (some c) := by
 cases h with
 | data _ _ h => cases h
 | mref _ c h => exact ⟨c, h, rfl⟩
theorem VR.vsl_inv {b : Nat} {lo hi : Int} {x : Value} (h : VR D σ w (.vsl b lo hi) x) : ∃ A len cap sz B cap', σ b = .hdr A len cap sz ∧ 0 ≤ lo ∧ lo ≤ hi ∧ hi ≤ len ∧ (lo < hi → B = A.map fun c => (blkA c).add (lo.toNat * sz)) ∧ (hi - lo).toNat ≤ cap' ∧ x = .slice B (hi - lo).toNat cap' := by
 cases h with
 | data _ _ h => cases h
 | vsl _ _ _ A len cap sz h h0 h1 h2 B cap' hB hc _ => exact ⟨A, len, cap, sz, B, cap', h, h0, h1, h2, hB, hc, rfl⟩
theorem VR.vsl_inv0 {b : Nat} {hi : Int} {x : Value} (h : VR D σ w (.vsl b 0 hi) x) : ∃ A len cap sz, σ b = .hdr A len cap sz ∧ 0 ≤ hi ∧ hi ≤ len ∧ x = .slice (A.map blkA) hi.toNat cap := by
 cases h with
 | data _ _ h => cases h
 | vsl _ _ _ A len cap sz h h0 h1 h2 B cap' hB hc hz =>
   obtain ⟨rfl, rfl⟩ := hz rfl
   exact ⟨A, len, _, sz, h, h1, h2, by rw [Int.sub_zero]⟩
theorem VR.agg_inv {cs : List AV} {x : Value} (h : VR D σ w (.agg cs) x) : ∃ vs : List Value, cs.length = vs.length ∧ (∀ v ∈ vs, v.oneCell' = true) ∧ (∀ i (h1 : i < cs.length) (h2 : i < vs.length), VR D σ w cs[i] vs[i]) ∧ x = .agg vs.toArray := by
 cases h with
 | data _ _ h => cases h with | agg _ vs hl ho h => exact ⟨vs, hl, ho, fun i h1 h2 => .data _ _ (h i h1 h2), rfl⟩
 | agg _ vs hl ho h => exact ⟨vs, hl, ho, h, rfl⟩
theorem VR.tup_inv {cs : List AV} {x : Value} (h : VR D σ w (.tup cs) x) : ∃ vs : List Value, cs.length = vs.length ∧ (∀ i (h1 : i < cs.length) (h2 : i < vs.length), VR D σ w cs[i] vs[i]) ∧ x = .tuple vs.toArray := by
 cases h with
 | data _ _ h => cases h with | tup _ vs hl h => exact ⟨vs, hl, fun i h1 h2 => .data _ _ (h i h1 h2), rfl⟩
 | tup _ vs hl h => exact ⟨vs, hl, h, rfl⟩
theorem VR.func_inv {f : FuncId} {a c : List AV} {x : Value} (h : VR D σ w (.func f a c) x) : ∃ u v : List Value, a.length = u.length ∧ c.length = v.length ∧ (∀ i (h1 : i < a.length) (h2 : i < u.length), VR D σ w a[i] u[i]) ∧ (∀ i (h1 : i < c.length) (h2 : i < v.length), VR D σ w c[i] v[i]) ∧ x = .func (.func f) u.toArray v.toArray := by
 cases h with
 | data _ _ h => cases h
 | func _ _ _ u v h1 h2 h h' => exact ⟨u, v, h1, h2, h, h', rfl⟩
theorem VR.one {v : AV} {x : Value} (h : VR D σ w v x) (h1 : ∀ cs, v ≠ .agg cs) (h2 : ∀ cs, v ≠ .tup cs) (h3 : v ≠ .junk) (h4 : v ≠ .undef) : x.oneCell' = true := by
 cases h with
 | data _ _ h => cases h <;> first | rfl | exact absurd rfl (h1 _) | exact absurd rfl (h2 _)
 | junk => exact absurd rfl h3
 | undef => exact absurd rfl h4
 | agg => exact absurd rfl (h1 _)
 | tup => exact absurd rfl (h2 _)
 | _ => rfl
theorem At.of_blk {base : Nat} {ok : Nat → Prop} {G : Gam} {M : Mem} (hm : MemOK base ok G w M) {b c : Nat} {cs : List AV} (hb : M[b]? = some (.cells cs)) (hc : G.σ b = .blk c) : At (VR G.D G.σ w) w (blkA c) cs := by
 obtain ⟨c', vs, t, h1, h2, h3, h4⟩ := hm.blocks b _ hb
 rw [hc] at h1
 cases h1
 intro j hj
 have hj' : j < vs.size := by omega
 refine ⟨vs[j], ?_, (h4 j hj hj').1, (h4 j hj hj').2⟩
 rw [blkA, add_lit]
 simp [World.cell?, h2, hj']
theorem At.of_dr {a : Addr} {cs : List AV} (h : At (DR D w) w a cs) : At (VR D σ w) w a cs := fun j hj => let ⟨x, h1, h2, h3⟩ := h j hj; ⟨x, h1, h2, .data _ _ h3⟩
theorem At.of_vec {base : Nat} {ok : Nat → Prop} {G : Gam} {M : Mem} (hm : MemOK base ok G w M) {b c len cap sz : Nat} {e : Kd} {l : List e.T} (hb : M[b]? = some (.vec e l) ∨ M[b]? = some (.fvec e l)) (hc : G.σ b = .hdr (some c) len cap sz) :
  len = l.length ∧ sz = e.size ∧ ∀ i (h : i < l.length), At (DR G.D w) w ((blkA c).add (i * e.size)) (e.cells l[i]) := by
 rcases hb with hb | hb
 ·obtain ⟨A, cap', h1, h2, h3, h4⟩ := hm.blocks b _ hb
  rw [hc] at h1
  cases h1
  refine ⟨rfl, rfl, fun i h j hj => ?_⟩
  obtain ⟨vs, t, h5, h6, h7, h8⟩ := h4 c rfl
  have hlt : i * e.size + j < vs.size := by
   rw [h6]
   have : j < e.size := by rw [← Kd.cells_length e l[i]]; exact hj
   have : (i + 1) * e.size ≤ cap * e.size := Nat.mul_le_mul_right _ (by omega)
   rw [Nat.add_mul] at this
   omega
  refine ⟨vs[i * e.size + j], ?_, h7 _ (by simp), ?_⟩
  ·rw [jh, blkA, add_lit]; simp [World.cell?, h5, hlt]
  ·have := h8 i h j hj
   simpa [hlt] using this
 ·obtain ⟨A, cap', h1, h2⟩ := hm.blocks b _ hb
  rw [hc] at h1
  cases h1
  refine ⟨rfl, rfl, fun i h j hj => ?_⟩
  generalize hx : Value.slice (Option.map blkA (some c)) l.length cap = x at h2
  cases h2 with
  | sl _ _ A cap cv hcap hA hone hr =>
    obtain ⟨a, ha, hD, hcell⟩ := hA i h
    subst ha
    injection hx with hx1 hx2 hx3
    injection hx1 with hx1
    subst hx1
    have hj' : j < e.size := by rw [← Kd.cells_length e l[i]]; exact hj
    exact ⟨cv i j, by rw [jh]; exact hcell j hj', hone i j h hj', hr i h j hj⟩
end Go.Sx
namespace Go.Sx
open Go
open Go.RowKit (Below)
def CellAs (c c' : AV) : Prop := ∀ (D : Nat → Prop) (w : GW) (v : Value), DR D w c v → DR D w c' v
theorem CellAs.refl (c : AV) : CellAs c c := fun _ _ _ h => h
inductive C2 : List AV → List AV → Prop
 | nil : C2 [] []
 | cons {a b : AV} {r s : List AV} (h : CellAs a b) (t : C2 r s) : C2 (a :: r) (b :: s)
theorem C2.length {cs ds : List AV} (h : C2 cs ds) : cs.length = ds.length := by induction h <;> simp_all
theorem C2.get {cs ds : List AV} (h : C2 cs ds) : ∀ i (h1 : i < cs.length) (h2 : i < ds.length), CellAs cs[i] ds[i] := by
 induction h with
 | nil => intro i h; simp at h
 | cons h t ih =>
   intro i h1 h2
   cases i with
   | zero => exact h
   | succ i => exact ih i (by simpa using h1) (by simpa using h2)
theorem qw {a : AV} {k : IntKind} {n : Int} (h : a.asInt k = some n) : CellAs a (.int k n) := by
 unfold AV.asInt at h
 split at h
 ·rename_i k' m
  split at h
  ·rename_i hk; subst hk; cases h; exact CellAs.refl _
  ·simp at h
 ·simp at h
theorem YQ {a : AV} {b : Bool} (h : a.asBool = some b) : CellAs a (.bool b) := by
 unfold AV.asBool at h
 split at h
 ·cases h; exact CellAs.refl _
 ·simp at h
theorem qip {a : AV} {b : Str} (h : a.asStr = some b) : CellAs a (.str b) := by
 unfold AV.asStr at h
 split at h
 ·cases h; exact CellAs.refl _
 ·simp at h
theorem jg {a : AV} {e : Kd} {l : List e.T} (h : a.asSl e = some l) : CellAs a (.sl e l) := by
 unfold AV.asSl at h
 split at h
 ·split at h
  ·rename_i hk; subst hk; cases h; exact CellAs.refl _
  ·simp at h
 ·split at h
  ·rename_i hk; subst hk; cases h
   intro D w v hv
   cases hv with
   | slc _ _ A cv hA hone hr => exact .sl _ _ A _ cv (Nat.le_refl _) hA hone hr
  ·simp at h
 ·cases h
  intro D w v hv
  cases hv
  exact .sl e [] none 0 (fun _ _ => undef) (by simp) (fun i hi => by simp at hi) (fun i j hi => by simp at hi) (fun i hi => by simp at hi)
 ·simp at h
theorem Place.of_as {cs : List AV} {x : Place} (h : Place.of cs = some x) : C2 cs x.cells := by
 unfold Place.of at h
 split at h
 ·simp only [Option.bind_eq_some_iff, Option.some.injEq] at h
  obtain ⟨a, ha, b, hb, rfl⟩ := h
  exact .cons (qw ha) (.cons (qw hb) .nil)
 ·simp at h
theorem Seen.of_as {cs : List AV} {x : Seen} (h : Seen.of cs = some x) : C2 cs x.cells := by
 unfold Seen.of at h
 split at h
 ·simp only [Option.bind_eq_some_iff, Option.some.injEq] at h
  obtain ⟨a, ha, b, hb, c, hc, rfl⟩ := h
  exact .cons (qw ha) (.cons (qw hb) (.cons (qw hc) .nil))
 ·simp at h
theorem Exits.of_as {cs : List AV} {x : Exits} (h : Exits.of cs = some x) : C2 cs x.cells := by
 unfold Exits.of at h
 split at h
 ·simp only [Option.bind_eq_some_iff, Option.some.injEq] at h
  obtain ⟨a, ha, b, hb, c, hc, d, hd, rfl⟩ := h
  exact .cons (qw ha) (.cons (qw hb) (.cons (qw hc) (.cons (qw hd) .nil)))
 ·simp at h
theorem Desc.of_as {cs : List AV} {x : Desc} (h : Desc.of cs = some x) : C2 cs x.cells := by
 unfold Desc.of at h
 split at h
 ·simp only [Option.bind_eq_some_iff, Option.some.injEq] at h
  obtain ⟨a, ha, b, hb, c, hc, d, hd, e, he, f, hf, g, hg, i, hi, rfl⟩ := h
  exact .cons (jg ha) (.cons (jg hb) (.cons (jg hc) (.cons (jg hd) (.cons (jg he) (.cons (qw hf) (.cons (qw hg) (.cons (qw hi) .nil)))))))
 ·simp at h
theorem C2.append {a b c d : List AV} (h : C2 a b) (h' : C2 c d) : C2 (a ++ c) (b ++ d) := by
 induction h with
 | nil => exact h'
 | cons h t ih => exact .cons h ih
theorem World.of_as {cs : List AV} {x : Sx.World} (h : World.of cs = some x) : C2 cs x.cells := by
 unfold World.of at h
 split at h
 ·simp only [Option.bind_eq_some_iff, Option.some.injEq] at h
  obtain ⟨d, hd, i, hi, j, hj, l, hl, rfl⟩ := h
  exact (Desc.of_as hd).append (.cons (jg hi) (.cons (jg hj) (.cons (jg hl) .nil)))
 ·simp at h
theorem Key.of_as {cs : List AV} {x : Key} (h : Key.of cs = some x) : C2 cs x.cells := by
 unfold Key.of at h
 split at h
 ·simp only [Option.bind_eq_some_iff, Option.some.injEq] at h
  obtain ⟨a, ha, b, hb, rfl⟩ := h
  exact .cons (qw ha) (.cons (qw hb) .nil)
 ·simp at h
theorem Write.of_as {cs : List AV} {x : Write} (h : Write.of cs = some x) : C2 cs x.cells := by
 unfold Write.of at h
 split at h
 ·simp only [Option.bind_eq_some_iff, Option.some.injEq] at h
  obtain ⟨a, ha, b, hb, c, hc, d, hd, e, he, rfl⟩ := h
  exact .cons (qw ha) (.cons (qw hb) (.cons (qw hc) (.cons (qw hd) (.cons (qw he) .nil))))
 ·simp at h
theorem Cmd.of_as {cs : List AV} {x : Cmd} (h : Cmd.of cs = some x) : C2 cs x.cells := by
 unfold Cmd.of at h
 split at h
 ·simp only [Option.bind_eq_some_iff, Option.some.injEq] at h
  obtain ⟨a, ha, b, hb, c, hc, d, hd, e, he, f, hf, g, hg, i, hi, j, hj, rfl⟩ := h
  exact .cons (qw ha) (.cons (qw hb) (.cons (qw hc) (.cons (qw hd) (.cons (qw he) (.cons (jg hf) (.cons (qw hg) (.cons (jg hi) (.cons (qw hj) .nil))))))))
 ·simp at h
theorem Reply.of_as {cs : List AV} {x : Reply} (h : Reply.of cs = some x) : C2 cs x.cells := by
 unfold Reply.of at h
 split at h
 ·simp only [Option.bind_eq_some_iff, Option.some.injEq] at h
  obtain ⟨a, ha, b, hb, c, hc, d, hd, e, he, f, hf, rfl⟩ := h
  exact .cons (qw ha) (.cons (qw hb) (.cons (qw hc) (.cons (jg hd) (.cons (jg he) (.cons (qw hf) .nil)))))
 ·simp at h
theorem Script.of_as {cs : List AV} {x : Script} (h : Script.of cs = some x) : C2 cs x.cells := by
 unfold Script.of at h
 split at h
 ·simp only [Option.bind_eq_some_iff, Option.some.injEq] at h
  obtain ⟨a, ha, b, hb, rfl⟩ := h
  exact .cons (qw ha) (.cons (jg hb) .nil)
 ·simp at h
theorem Call.of_as {cs : List AV} {x : Sx.Call} (h : Call.of cs = some x) : C2 cs x.cells := by
 unfold Call.of at h
 split at h
 ·simp only [Option.bind_eq_some_iff, Option.some.injEq] at h
  obtain ⟨a, ha, f, hf, g, hg, i, hi, r, hr, rfl⟩ := h
  exact .cons (qw ha) ((Cmd.of_as hf).append (.cons (qw hg) (.cons (qw hi) (Reply.of_as hr))))
 ·simp at h
theorem Sess.of_as {cs : List AV} {x : Sess} (h : Sess.of cs = some x) : C2 cs x.cells := by
 unfold Sess.of at h
 split at h
 ·simp only [Option.bind_eq_some_iff, Option.some.injEq] at h
  obtain ⟨a, ha, b, hb, c, hc, d, hd, e, he, f, hf, g, hg, i, hi, j, hj, r, hr, l, hl, m, hm, n, hn, o, ho, p, hp, q, hq, s, hs, rfl⟩ := h
  exact .cons (qw ha) (.cons (jg hb) (.cons (qw hc) (.cons (qw hd) (.cons (qw he) ((Cmd.of_as hf).append
   (.cons (jg hg) (.cons (qw hi) (.cons (jg hj) ((Reply.of_as hr).append (.cons (YQ hl) (.cons (qw hm) (.cons (qw hn) (.cons (qw ho)
   (.cons (jg hp) (.cons (jg hq) (.cons (qw hs) .nil))))))))))))))))
 ·simp at h
theorem SN.of_as {s : SN} {cs : List AV} {x : s.T} (h : s.of cs = some x) : C2 cs (s.cells x) := by
 cases s
 ·exact Place.of_as h
 ·exact Seen.of_as h
 ·exact Exits.of_as h
 ·exact Desc.of_as h
 ·exact World.of_as h
 ·exact Key.of_as h
 ·exact Write.of_as h
 ·exact Cmd.of_as h
 ·exact Reply.of_as h
 ·exact Sess.of_as h
 ·exact Call.of_as h
 ·exact Script.of_as h
theorem AV.as_as {k : Kd} {a : AV} {x : k.T} (h : a.as k = some x) : CellAs a (k.of x) := by
 cases k with
 | int k => exact qw h
 | bool => exact YQ h
 | str => exact qip h
 | sl e => exact jg h
 | st s =>
   cases a with
   | agg cs =>
     have hc := SN.of_as (s := s) (show s.of cs = some x from h)
     intro D w v hv
     cases hv with
     | agg _ vs hl hone hh =>
       exact .agg _ vs (by rw [← hc.length]; exact hl) hone fun i h1 h2 => hc.get i (by rw [hc.length]; exact h1) h1 _ _ _ (hh i (by rw [hc.length]; exact h1) h2)
   | _ => exact absurd (show (none : Option s.T) = some x from h) (by simp)
theorem Kd.ofCells_as {k : Kd} {cs : List AV} {x : k.T} (h : k.ofCells cs = some x) : C2 cs (k.cells x) := by
 cases k with
 | st s => exact SN.of_as h
 | int k =>
   match cs, h with
   | [v], h => exact .cons (AV.as_as (k := .int k) h) .nil
 | bool =>
   match cs, h with
   | [v], h => exact .cons (AV.as_as (k := .bool) h) .nil
 | str =>
   match cs, h with
   | [v], h => exact .cons (AV.as_as (k := .str) h) .nil
 | sl e =>
   match cs, h with
   | [v], h => exact .cons (AV.as_as (k := .sl e) h) .nil
end Go.Sx
namespace Go.Sx
open Go
open Go.RowKit (Below)
variable {D : Nat → Prop} {σ : Nat → SB} {w : GW}
theorem DR.sub {e : Kd} {l : List e.T} {A : Option Addr} {cap : Nat} (h : DR D w (.sl e l) (.slice A l.length cap)) (lo hi : Nat) (h1 : lo ≤ hi) (h2 : hi ≤ l.length) (B : Option Addr) (cap' : Nat)
  (hB : lo < hi → B = A.map (·.add (lo * e.size))) (hc : hi - lo ≤ cap') : DR D w (.sl e ((l.take hi).drop lo)) (.slice B (hi - lo) cap') := by
 have hlen : ((l.take hi).drop lo).length = hi - lo := by simp; omega
 have hget : ∀ i (h : i < ((l.take hi).drop lo).length), ((l.take hi).drop lo)[i] = l[lo + i]'(by rw [hlen] at h; omega) := by
  intro i h; simp
 generalize hx : Value.slice A l.length cap = x at h
 cases h with
 | sl _ _ A' cap'' cv hcap hA hone hr =>
   injection hx with hx1 hx2 hx3
   subst hx1
   rw [← hlen]
   refine .sl e _ B cap' (fun i j => cv (lo + i) j) (by omega) (fun i hi' => ?_) (fun i j hi' hj => ?_) (fun i h j hj => ?_)
   ·rw [hlen] at hi'
    obtain ⟨a, ha, hD, hc'⟩ := hA (lo + i) (by omega)
    refine ⟨a.add (lo * e.size), by rw [hB (by omega), ha]; rfl, by rw [add_block]; exact hD, fun j hj => ?_⟩
    rw [jh, ← Nat.add_assoc, ← Nat.add_mul]
    exact hc' j hj
   ·rw [hlen] at hi'; exact hone _ _ (by omega) hj
   ·rw [hlen] at h
    have := hr (lo + i) (by omega) j (by rw [hget] at hj; exact hj)
    have e2 := hget i (by rw [hlen]; exact h)
    simp only [e2]
    exact this
theorem DR.slc_sl {e : Kd} {l : List e.T} {x : Value} (h : DR D w (.slc e l) x) : DR D w (.sl e l) x := by
 cases h with
 | slc _ _ A cv hA hone hr => exact .sl _ _ A _ cv (Nat.le_refl _) hA hone hr
theorem DR.sl_inv {e : Kd} {l : List e.T} {x : Value} (h : DR D w (.sl e l) x) : ∃ A cap, l.length ≤ cap ∧ x = .slice A l.length cap := by
 cases h with
 | sl _ _ A cap cv hcap hA hone hr => exact ⟨A, cap, hcap, rfl⟩
theorem DR.slc_inv {e : Kd} {l : List e.T} {x : Value} (h : DR D w (.slc e l) x) : ∃ A, x = .slice A l.length l.length := by
 cases h with
 | slc _ _ A cv hA hone hr => exact ⟨A, rfl⟩
theorem kR {base : Nat} {ok : Nat → Prop} {G : Gam} {M : Mem} (hm : MemOK base ok G w M) {v v' : AV} {x : Value} (hv : VR G.D G.σ w v x) (h : ga M v = some v') : DR G.D w v' x := by
 unfold ga at h
 split at h
 ·cases h; rw [hv.int_inv]; exact .int _ _
 ·cases h; rw [hv.bool_inv]; exact .bool _
 ·cases h; rw [hv.str_inv]; exact .str _
 ·cases h; exact hv.sl_inv
 ·cases h; exact hv.slc_inv.slc_sl
 ·cases h; rw [hv.nilsl_inv]; exact .nilsl
 ·cases h; rw [hv.nilp_inv]; exact .nilp
 ·cases h; rw [hv.nilf_inv]; exact .nilf
 ·cases h; cases hv with | data _ _ h => exact h
 ·cases h; rw [hv.nili_inv]; exact .nili
 ·cases h; obtain ⟨t, y, rfl⟩ := hv.err_inv; exact .err t y
 ·rename_i b
  split at h
  ·rename_i e l hb
   cases h
   obtain ⟨A, len, cap, sz, h1, rfl⟩ := hv.vec_inv
   obtain ⟨A', cap', h2, h3⟩ := hm.blocks b _ hb
   rw [h1] at h2
   cases h2
   exact h3
  ·simp at h
 ·rename_i b lo hi
  split at h
  ·rename_i e l hb
   cases h
   obtain ⟨A, len, cap, sz, B, cap', h1, h0, h01, hlen, hB, hc, rfl⟩ := hv.vsl_inv
   obtain ⟨A', cap'', h2, h3⟩ := hm.blocks b _ hb
   rw [h1] at h2
   cases h2
   have hs : (hi - lo).toNat = hi.toNat - lo.toNat := by omega
   rw [hs] at hc ⊢
   refine h3.sub lo.toNat hi.toNat (by omega) (by omega) B cap' (fun hlt => ?_) hc
   rw [hB (by omega)]
   cases A <;> rfl
  ·simp at h
 ·simp at h
theorem zY {base : Nat} {ok : Nat → Prop} {G : Gam} {M : Mem} (hm : MemOK base ok G w M) : ∀ {vs vs' : List AV}, Jh M vs = some vs' → vs.length = vs'.length ∧ ∀ i (h1 : i < vs.length) (h2 : i < vs'.length) (x : Value), VR G.D G.σ w vs[i] x → DR G.D w vs'[i] x
 | [], vs', h => by simp [Jh] at h; subst h; exact ⟨rfl, fun i h => by simp at h⟩
 | v :: r, vs', h => by
   simp only [Jh, Option.bind_eq_some_iff, Option.some.injEq] at h
   obtain ⟨a, ha, b, hb, rfl⟩ := h
   obtain ⟨hl, hr⟩ := zY hm hb
   refine ⟨by simp [hl], fun i h1 h2 x hx => ?_⟩
   cases i with
   | zero => exact kR hm hx ha
   | succ i => exact hr i (by simpa using h1) (by simpa using h2) x hx
theorem zZ {base : Nat} {ok : Nat → Prop} {G : Gam} {M : Mem} (hm : MemOK base ok G w M) {v v' : AV} {x : Value} (hv : VR G.D G.σ w v x) (h : ka M v = some v') : DR G.D w v' x := by
 unfold ka at h
 split at h
 ·rename_i cs
  simp only [Option.bind_eq_some_iff, Option.some.injEq] at h
  obtain ⟨b, hb, rfl⟩ := h
  obtain ⟨hl, hr⟩ := zY hm hb
  obtain ⟨vs, hl', hone, hh, rfl⟩ := hv.agg_inv
  exact .agg _ vs (by omega) hone fun i h1 h2 => hr i (by omega) h1 _ (hh i (by omega) h2)
 ·exact kR hm hv h
theorem jT {base : Nat} {ok : Nat → Prop} {G : Gam} {M : Mem} (hm : MemOK base ok G w M) : ∀ {vs vs' : List AV}, jU M vs = some vs' → vs.length = vs'.length ∧ ∀ i (h1 : i < vs.length) (h2 : i < vs'.length) (x : Value), VR G.D G.σ w vs[i] x → DR G.D w vs'[i] x
 | [], vs', h => by simp [jU] at h; subst h; exact ⟨rfl, fun i h => by simp at h⟩
 | v :: r, vs', h => by
   simp only [jU, Option.bind_eq_some_iff, Option.some.injEq] at h
   obtain ⟨a, ha, b, hb, rfl⟩ := h
   obtain ⟨hl, hr⟩ := jT hm hb
   refine ⟨by simp [hl], fun i h1 h2 x hx => ?_⟩
   cases i with
   | zero => exact zZ hm hx ha
   | succ i => exact hr i (by simpa using h1) (by simpa using h2) x hx
theorem vw.mono {R R' : AV → Value → Prop} {cs : List AV} {vs : Array Value} (h : vw R cs vs) (hr : ∀ v x, R v x → R' v x) : vw R' cs vs := ⟨h.1, fun i h1 h2 => ⟨(h.2 i h1 h2).1, hr _ _ (h.2 i h1 h2).2⟩⟩
theorem BR.mono {D D' : Nat → Prop} {σ σ' : Nat → SB} {w w' : GW} (h : ∀ c, D c → D' c ∧ w'.heap[c]? = w.heap[c]?) (hσ : ∀ b, σ b ≠ .none → σ' b = σ b) {sb : SB} {x : Blk} (hb : BR D σ w sb x)
  (hh : ∀ c, mutC sb x = some c → w'.heap[c]? = w.heap[c]?) : BR D' σ' w' sb x := by
 cases x with
 | dead => trivial
 | cells cs =>
   obtain ⟨c, vs, t, rfl, h2, h3⟩ := hb
   exact ⟨c, vs, t, rfl, by rw [hh c rfl]; exact h2, h3.mono fun v x hv => hv.grow h hσ⟩
 | vec e l =>
   obtain ⟨A, cap, rfl, h2, h3, h4⟩ := hb
   refine ⟨A, cap, rfl, h2, h3, fun c hc => ?_⟩
   obtain ⟨vs, t, h5, h6, h7, h8⟩ := h4 c hc
   exact ⟨vs, t, by rw [hh c (by simp [mutC, hc])]; exact h5, h6, h7, fun i hi j hj => (h8 i hi j hj).mono h⟩
 | fvec e l => obtain ⟨A, cap, rfl, h2⟩ := hb; exact ⟨A, cap, rfl, h2.mono h⟩
 | map kk kv l =>
   obtain ⟨c, es, clock, rfl, h2, h3, h4⟩ := hb
   exact ⟨c, es, clock, rfl, by rw [hh c rfl]; exact h2, h3, fun i h1 h2 => ⟨(h4 i h1 h2).1.mono h, (h4 i h1 h2).2.mono h⟩⟩
 | amap ks vs =>
   obtain ⟨c, es, clock, l, kk, rfl, h2, h3, h4, h4', h5, h6⟩ := hb
   exact ⟨c, es, clock, l, kk, rfl, by rw [hh c rfl]; exact h2, h3, h4, h4', fun i h1 h2 => (h5 i h1 h2).grow h hσ, fun i h1 h2 => (h6 i h1 h2).grow h hσ⟩
 | gmap =>
   obtain ⟨c, es, clock, rfl, h2⟩ := hb
   exact ⟨c, es, clock, rfl, by rw [hh c rfl]; exact h2⟩
theorem jr {e : Kd} {l : List e.T} {i j : Nat} (h : i < l.length) (hj : j < (e.cells l[i]).length) : j < e.size := by rw [← Kd.cells_length e l[i]]; exact hj
theorem BV {base : Nat} {ok : Nat → Prop} {G : Gam} {M : Mem} (hm : MemOK base ok G w M) (b : Nat) :
  ∃ D', (∀ c, G.D c → D' c) ∧ (∀ c, D' c → G.D c ∨ base ≤ c) ∧ MemOK base ok ⟨G.σ, D'⟩ w (M.modify b Vl) := by
 cases hb : M[b]? with
 | none =>
   refine ⟨G.D, fun _ h => h, fun _ h => .inl h, ?_⟩
   have : M.modify b Vl = M := by
    apply List.ext_getElem?
    intro i
    rw [List.getElem?_modify]
    by_cases hi : b = i
    ·subst hi; simp [hb]
    ·simp [hi]
   rw [this]; exact hm
 | some x =>
   have same : (∀ e l, x ≠ .vec e l) → M.modify b Vl = M := by
    intro hx
    apply List.ext_getElem?
    intro i
    rw [List.getElem?_modify]
    by_cases hi : b = i
    ·subst hi
     simp only [hb, if_true]
     cases x <;> first | rfl | exact absurd rfl (hx _ _)
    ·simp [hi]
   cases x with
   | vec e l =>
     obtain ⟨A, cap, h1, h2, h3, h4⟩ := hm.blocks b _ hb
     let D' : Nat → Prop := fun c => G.D c ∨ A = some c
     have hgrow : ∀ c, G.D c → D' c ∧ w.heap[c]? = w.heap[c]? := fun c h => ⟨.inl h, rfl⟩
     have hown : ∀ c, A = some c → base ≤ c ∧ c < w.heap.size ∧ ¬ G.D c := fun c hc => hm.own b _ c hb (by simp [mutC, h1, hc])
     have hget : ∀ (i : Nat) (y : Blk), (M.modify b Vl)[i]? = some y → (i = b ∧ y = .fvec e l) ∨ (i ≠ b ∧ M[i]? = some y) := by
      intro i y hy
      rw [List.getElem?_modify] at hy
      by_cases hi : b = i
      ·subst hi; simp [hb, Vl] at hy; exact .inl ⟨rfl, hy.symm⟩
      ·simp [hi] at hy; exact .inr ⟨fun e => hi e.symm, hy⟩
     refine ⟨D', fun c h => .inl h, fun c h => ?_, ?_, ?_, ?_, ?_, ?_, ?_⟩
     ·rcases h with h | h
      ·exact .inl h
      ·exact .inr (hown c h).1
     ·intro i y hy
      rcases hget i y hy with ⟨rfl, rfl⟩ | ⟨hne, hy⟩
      ·have hk' : ∀ k, k < l.length → ∃ c vs t, A = some c ∧ w.heap[c]? = some (.cells vs t (0, 0)) ∧ (∀ v ∈ vs.toList, v.oneCell' = true) ∧ (∀ j, j < e.size → k * e.size + j < vs.size) ∧
         ∀ (h : k < l.length) j (hj : j < (e.cells l[k]).length), DR G.D w ((e.cells l[k])[j]) (vs.getD (k * e.size + j) undef) := by
        intro k hk
        cases hA : A with
        | none => have := (h3 hA).1; subst this; simp at hk
        | some c =>
          obtain ⟨vs, t, h5, h6, h7, h8⟩ := h4 c hA
          refine ⟨c, vs, t, rfl, h5, h7, fun j hj => ?_, fun h j hj => h8 k h j hj⟩
          have : (k + 1) * e.size ≤ cap * e.size := Nat.mul_le_mul_right _ (by omega)
          rw [Nat.add_mul] at this; rw [h6]; omega
       refine ⟨A, cap, h1, .sl e l _ cap (fun i j => ((A.bind fun c => w.cell? ((blkA c).add (i * e.size + j))).getD undef)) h2 (fun k hk => ?_) (fun k j hk hj => ?_) (fun k hk j hj => ?_)⟩
       ·obtain ⟨c, vs, t, hA, h5, h7, hin, h8⟩ := hk' k hk
        subst hA
        refine ⟨blkA c, rfl, .inr rfl, fun j hj => ?_⟩
        have := hin j hj
        simp [blkA, add_lit, World.cell?, h5, this]
       ·obtain ⟨c, vs, t, hA, h5, h7, hin, h8⟩ := hk' k hk
        subst hA
        have := hin j hj
        simp only [Option.bind_some, blkA, add_lit, World.cell?, h5, Nat.zero_add]
        simp [this]
        exact h7 _ (by simp)
       ·obtain ⟨c, vs, t, hA, h5, h7, hin, h8⟩ := hk' k hk
        subst hA
        have := hin j (jr hk hj)
        have h9 := (h8 hk j hj).mono hgrow
        simp only [Option.bind_some, blkA, add_lit, World.cell?, h5, Nat.zero_add]
        simpa [this] using h9
      ·exact (hm.blocks i y hy).mono hgrow (fun _ _ => rfl) (fun _ _ => rfl)
     ·intro i y c hy hc
      rcases hget i y hy with ⟨rfl, rfl⟩ | ⟨hne, hy⟩
      ·simp [mutC, h1] at hc
      ·obtain ⟨ha, hb', hd⟩ := hm.own i y c hy hc
       refine ⟨ha, hb', fun h => ?_⟩
       rcases h with h | h
       ·exact hd h
       ·exact hne (hm.apart b i _ y c hb (by simp [mutC, h1, h]) hy hc)
     ·intro i i' y y' c hy hc hy' hc'
      rcases hget i y hy with ⟨rfl, rfl⟩ | ⟨hne, hy⟩
      ·simp [mutC, h1] at hc
      ·rcases hget i' y' hy' with ⟨rfl, rfl⟩ | ⟨hne', hy'⟩
       ·simp [mutC, h1] at hc'
       ·exact hm.apart i i' y y' c hy hc hy' hc'
     ·intro c h
      rcases h with h | h
      ·exact hm.dlt c h
      ·exact (hown c h).2.1
     ·intro c h
      rcases h with h | h
      ·exact hm.dok c h
      ·exact .inr (hown c h).1
     ·intro i hi; exact hm.out i (by simpa using hi)
   | _ =>
     refine ⟨G.D, fun _ h => h, fun _ h => .inl h, ?_⟩
     rw [same (by intro e l h; cases h)]
     exact hm
end Go.Sx
namespace Go.Sx
open Go
open Go.RowKit (Below)
theorem qio {α : Type} {b : Bool} {x y : Option α} {r : α} (h : (bif b then x else y) = some r) : (b = true ∧ x = some r) ∨ (b = false ∧ y = some r) := by
 cases b
 ·exact .inr ⟨rfl, h⟩
 ·exact .inl ⟨rfl, h⟩
theorem qie {α : Type} {b : Bool} {x y : Option α} {r : α} (h : cnd b x y = some r) : (b = true ∧ x = some r) ∨ (b = false ∧ y = some r) := qio h
theorem qq {α : Type} {b : Bool} {x : Option α} {r : α} (h : (bif b then x else none) = some r) : b = true ∧ x = some r := by
 cases b
 ·simp at h
 ·exact ⟨rfl, h⟩
theorem qA {α : Type} {b : Bool} {x : Option α} {r : α} (h : cnd b x none = some r) : b = true ∧ x = some r := qq h
theorem Ji {α : Type} {b : Bool} {x : Option α} {r : α} (h : cnd b none x = some r) : b = false ∧ x = some r := by
 cases b
 ·exact ⟨rfl, h⟩
 ·simp [cnd] at h
variable {P : Program} {E : Env} {base : Nat} {ok : Nat → Prop} {G : Gam} {w : GW} {M : Mem} {R : Type}
theorem KE {k : IntKind} : ∀ {cs : List AV} {l : List Int}, vd k cs = some l → cs.length = l.length ∧ ∀ i (h : i < cs.length) (h' : i < l.length), cs[i] = .int k l[i]
 | [], l, h => by simp [vd] at h; subst h; exact ⟨rfl, fun i h => by simp at h⟩
 | v :: r, l, h => by
   simp only [vd, Option.bind_eq_some_iff, Option.some.injEq] at h
   obtain ⟨n, hn, m, hm, rfl⟩ := h
   obtain ⟨hl, hr⟩ := KE hm
   refine ⟨by simp [hl], fun i h1 h2 => ?_⟩
   cases i with
   | zero =>
     unfold AV.asInt at hn
     split at hn
     ·split at hn
      ·rename_i hk; subst hk; cases hn; rfl
      ·simp at hn
     ·simp at hn
   | succ i => exact hr i (by simpa using h1) (by simpa using h2)
theorem BI {s : Sh} {k : IntKind} (h : Zr s = some k) : s = .int k := by cases s <;> simp [Zr] at h; exact congrArg _ h
theorem agg_int {t : TypeId} {i : TyI} {k : IntKind} (ht : TyFacts P t i) (h : i.sh = .int k) : i.agg = false := by
 obtain ⟨d, _, hs, ha⟩ := ht.und
 rw [h] at hs
 rw [← ha, vb hs]; rfl
theorem Rl {t : TypeId} {i : TyI} (ht : TyFacts P t i) {kk : IntKind} (hk : Zr i.sh = some kk) {a : Addr} {cs : List AV} (hat : At (VR G.D G.σ w) w a cs) {off n : Nat} {j : Int} (h0 : 0 ≤ j) (h1 : j < n) (hle : Nat.ble (off + n) cs.length = true)
  {l : List Int} (hl : vd kk ((cs.drop off).take n) = some l) : (loadVar t (a.add (off + j.toNat))).run P w = .ok (.int kk (jQ l j)) w := by
 have hle := Nat.le_of_ble_eq_true hle
 obtain ⟨hlen, hget⟩ := KE hl
 have hlen' : l.length = n := by rw [← hlen]; simp; omega
 have hj : j.toNat < n := by omega
 obtain ⟨x, hx, _, hr⟩ := hat (off + j.toNat) (by omega)
 have hc : cs[off + j.toNat]'(by omega) = .int kk (jQ l j) := by
  have := hget j.toNat (by simp; omega) (by omega)
  simp only [List.getElem_take, List.getElem_drop] at this
  rw [this, jQ, List.getD_eq_getElem?_getD, List.getElem?_eq_getElem (by omega)]
  rfl
 rw [hc] at hr
 rw [hr.int_inv] at hx
 unfold loadVar
 rw [Sem.run_bind, QT ht w, agg_int ht (BI hk), Result.andThen_ok]
 simp [hx]
theorem qJ (a : Addr) : (Instr.sureAddr (.pointer (some a))).run P w = .ok a w := rfl
theorem Rm (hE : EnvOK P E) (hm : MemOK base ok G w M) (hg : GOK E.glob base G.D w) {t : TypeId} {av : AV} {x : Value} (hv : VR G.D G.σ w av x) {k : AV → Option R} {r : R} (h : Jw E M t av k = some r) :
  ∃ v y, k v = some r ∧ (Instr.loadAt t x).run P w = .ok y w ∧ VR G.D G.σ w v y := by
 unfold Jw at h
 split at h
 ·simp at h
 ·rename_i i hi
  have ht := hE.ty t i hi
  have fin : ∀ {a : Addr} {cs : List AV} {off : Nat} {v : AV}, At (VR G.D G.σ w) w a cs → zg i cs off = some v → ∃ y, (Instr.loadAt t (.pointer (some (a.add off)))).run P w = .ok y w ∧ VR G.D G.σ w v y := by
   intro a cs off v hat hp
   obtain ⟨y, h1, h2, _⟩ := gT (P := P) VR.mkAgg ht hat hp
   exact ⟨y, by simp only [Instr.loadAt, Sem.run_bind, qJ, Result.andThen_ok, h1], h2⟩
  split at h
  ·rename_i b off
   obtain ⟨c, hc, rfl⟩ := hv.ptr_inv
   split at h
   ·rename_i cs hb
    obtain ⟨v, hp, hk⟩ := Option.bind_eq_some_iff.1 h
    obtain ⟨y, h1, h2⟩ := fin (At.of_blk hm hb hc) hp
    exact ⟨v, y, hk, h1, h2⟩
   ·simp at h
  ·obtain ⟨a, hD, hat, rfl⟩ := hv.dref_inv
   obtain ⟨v, hp, hk⟩ := Option.bind_eq_some_iff.1 h
   obtain ⟨y, h1, h2⟩ := fin (At.of_dr hat) hp
   exact ⟨v, y, hk, h1, h2⟩
  ·rename_i b j off
   obtain ⟨c, len, cap, sz, hc, h0, hlen, rfl⟩ := hv.vref_inv
   have go : ∀ {e : Kd} {l : List e.T}, (M[b]? = some (.vec e l) ∨ M[b]? = some (.fvec e l)) → (obind (lget l j) fun x => (zg i (e.cells x) off).bind k) = some r →
     ∃ v y, k v = some r ∧ (Instr.loadAt t (.pointer (some ((blkA c).add (j.toNat * sz + off))))).run P w = .ok y w ∧ VR G.D G.σ w v y := by
    intro e l hb h
    obtain ⟨y, hy, h⟩ := Option.bind_eq_some_iff.1 h
    obtain ⟨v, hp, hk⟩ := Option.bind_eq_some_iff.1 h
    obtain ⟨h2, rfl, h3⟩ := At.of_vec hm hb hc
    simp only [lget, h0, if_true] at hy
    obtain ⟨hlt, rfl⟩ := List.getElem?_eq_some_iff.1 hy
    obtain ⟨z, h4, h5⟩ := fin (At.of_dr (h3 j.toNat hlt)) hp
    rw [jh] at h4
    exact ⟨v, z, hk, h4, h5⟩
   split at h
   ·rename_i e l hb; exact go (.inl hb) h
   ·rename_i e l hb; exact go (.inr hb) h
   ·simp at h
  ·rename_i cs off n j
   obtain ⟨a, hD, hat, h0, h1, rfl⟩ := hv.didx_inv
   split at h
   ·rename_i kk hk
    obtain ⟨hle, h⟩ := qq h
    obtain ⟨l, hl, hk'⟩ := Option.bind_eq_some_iff.1 h
    exact ⟨_, _, hk', by simp only [Instr.loadAt, Sem.run_bind, qJ, Result.andThen_ok, Rl ht hk (At.of_dr hat) h0 h1 hle hl], .data _ _ (.int _ _)⟩
   ·simp at h
  ·rename_i b off n j
   obtain ⟨c, hc, h0, h1, rfl⟩ := hv.pidx_inv
   split at h
   ·rename_i kk cs hk hb
    obtain ⟨hle, h⟩ := qq h
    obtain ⟨l, hl, hk'⟩ := Option.bind_eq_some_iff.1 h
    exact ⟨_, _, hk', by simp only [Instr.loadAt, Sem.run_bind, qJ, Result.andThen_ok, Rl ht hk (At.of_blk hm hb hc) h0 h1 hle hl], .data _ _ (.int _ _)⟩
   ·rename_i cs hk hb
    split at h
    ·rename_i m
     obtain ⟨v, hp, hk'⟩ := Option.bind_eq_some_iff.1 h
     obtain ⟨y, h2, h3⟩ := fin (At.of_blk hm hb hc) hp
     exact ⟨v, y, hk', h2, h3⟩
    ·simp at h
   ·simp at h
  ·rename_i g off
   rw [hv.gp_inv]
   obtain ⟨cs, hcs, h⟩ := Option.bind_eq_some_iff.1 h
   obtain ⟨v, hp, hk⟩ := Option.bind_eq_some_iff.1 h
   obtain ⟨_, _, hat, _⟩ := hg g cs hcs
   obtain ⟨y, h1, h2⟩ := fin (At.of_dr (σ := G.σ) (fun j hj => hat j hj)) hp
   exact ⟨v, y, hk, h1, h2⟩
  ·simp at h
theorem gD (hE : EnvOK P E) {e : TypeId} {k : Kd} (h : esz E e k = true) (w : GW) : (sizeOf e).run P w = .ok k.size w := by
 unfold esz at h
 split at h
 ·rename_i i hi
  rw [qL (hE.ty e i hi) w, Nat.eq_of_beq_eq_true h]
 ·simp at h
theorem Q1 {fs : List Field} {gs : List (Nat × TypeId)} (hf : RM P fs gs = true) {f : Nat} {p : Nat × TypeId} (hp : gs[f]? = some p) (a : Addr) (w : GW) : ∃ fld, fs[f]? = some fld ∧ fld.offset = p.1 ∧ fld.type = p.2 ∧ (fieldPlace a fld).run P w = .ok (a.add p.1) w := by
 obtain ⟨hl, hh⟩ := gB hf
 obtain ⟨hlt, rfl⟩ := List.getElem?_eq_some_iff.1 hp
 obtain ⟨h1, h2, n, hn, hne⟩ := hh f (by omega) hlt
 refine ⟨fs[f]'(by omega), List.getElem?_eq_getElem _, h1, h2, ?_⟩
 unfold fieldPlace
 simp [sizeOf, typeInfo, hn, hne, h1]
theorem Z2 {s : Sh} {f : Nat} {p : Nat × TypeId} (h : Je s f = some p) : ∃ gs, s = .st gs ∧ gs[f]? = some p := by
 cases s <;> simp [Je] at h
 exact ⟨_, rfl, h⟩
theorem Kv (hE : EnvOK P E) {t : TypeId} {f : Nat} {av : AV} {x : Value} (hv : VR G.D G.σ w av x) {k : AV → Option R} {r : R} (h : jB E t av f k = some r) :
  ∃ v y, k v = some r ∧ (Instr.fieldAt t x f).run P w = .ok y w ∧ VR G.D G.σ w v y := by
 unfold jB at h
 split at h
 ·simp at h
 ·rename_i i hi
  split at h
  ·simp at h
  ·rename_i p hp
   obtain ⟨gs, hgs, hp⟩ := Z2 hp
   obtain ⟨d, hd, hs, _⟩ := (hE.ty t i hi).und
   rw [hgs] at hs
   obtain ⟨fs, rfl, hf⟩ := JY hs
   have fin : ∀ a : Addr, (Instr.fieldAt t (.pointer (some a)) f).run P w = .ok (.pointer (some (a.add p.1))) w := by
    intro a
    obtain ⟨fld, h1, _, _, h2⟩ := Q1 hf hp a w
    have h1' : fs[f]? = some fld := by simpa using h1
    simp only [Instr.fieldAt, Sem.run_bind, run_underlying hd w, Result.andThen_ok, h1', qJ, h2, Sem.run_pure]
   split at h
   ·rename_i b off
    obtain ⟨c, hc, rfl⟩ := hv.ptr_inv
    exact ⟨_, _, h, fin _, by rw [jh]; exact .ptr _ _ c hc⟩
   ·obtain ⟨a, hD, hat, rfl⟩ := hv.dref_inv
    refine ⟨_, _, h, fin _, ?_⟩
    rw [jh]
    exact .dref _ _ a (fun j => (w.cell? (a.add j)).getD undef) hD fun j hj => by obtain ⟨y, h1, h2, h3⟩ := hat j hj; simp [h1, h2, h3]
   ·rename_i b j off
    obtain ⟨c, len, cap, sz, hc, h0, hlen, rfl⟩ := hv.vref_inv
    exact ⟨_, _, h, fin _, by rw [jh, Nat.add_assoc]; exact .vref _ _ _ c len cap sz hc h0 hlen⟩
   ·rw [hv.gp_inv]
    exact ⟨_, _, h, fin _, by rw [jh]; exact .gp _ _⟩
   ·simp at h
theorem kh (k : IntKind) (n : Int) : (asIntOf (.int k n)).run P w = .ok (k, n) w := rfl
theorem z6 {t et : TypeId} {sz : Nat} (hd : P.underlying t = some (.slice et)) (hsz : ∀ w : GW, (sizeOf et).run P w = .ok sz w) {a : Addr} {len cap : Nat} {kx : IntKind} {j : Int} (h0 : 0 ≤ j) (h1 : j < len) :
  (Instr.indexAt t (.slice (some a) len cap) (.int kx j)).run P w = .ok (.pointer (some (a.add (j.toNat * sz)))) w := by
 have hj : 0 ≤ j ∧ j < (len : Int) := ⟨h0, h1⟩
 simp [Instr.indexAt, kh, run_underlying hd w, hsz, hj]
theorem At.mkDref {a : Addr} {cs : List AV} (hD : G.D a.block) (h : At (DR G.D w) w a cs) (off : Nat) : VR G.D G.σ w (.dref cs off) (.pointer (some (a.add off))) :=
 .dref _ _ a (fun j => (w.cell? (a.add j)).getD undef) hD fun j hj => by obtain ⟨y, h1, h2, h3⟩ := h j hj; simp [h1, h2, h3]
theorem Qw : ∀ {cs : List AV} {l : List Str}, ZR cs = some l → cs.length = l.length ∧ ∀ i (h : i < cs.length) (h' : i < l.length), cs[i] = .str l[i]
 | [], l, h => by simp [ZR] at h; subst h; exact ⟨rfl, fun i h => by simp at h⟩
 | v :: r, l, h => by
   simp only [ZR, Option.bind_eq_some_iff, Option.some.injEq] at h
   obtain ⟨n, hn, m, hm, rfl⟩ := h
   obtain ⟨hl, hr⟩ := Qw hm
   refine ⟨by simp [hl], fun i h1 h2 => ?_⟩
   cases i with
   | zero =>
     unfold AV.asStr at hn
     split at hn
     ·cases hn; rfl
     ·simp at hn
   | succ i => exact hr i (by simpa using h1) (by simpa using h2)
theorem M7 (hE : EnvOK P E) (hm : MemOK base ok G w M) (hg : GOK E.glob base G.D w) {t : TypeId} {av ix : AV} {x y : Value} (hv : VR G.D G.σ w av x) (hy : VR G.D G.σ w ix y) {k : AV → Option R} {r : R} (h : idxK E M t av ix k = some r) :
  ∃ v z, k v = some r ∧ (Instr.indexAt t x y).run P w = .ok z w ∧ VR G.D G.σ w v z := by
 unfold idxK at h
 split at h
 ·rename_i i kx j hi
  rw [hy.int_inv]
  obtain ⟨d, hd, hs, ha⟩ := (hE.ty t i hi).und
  have data : ∀ {et : TypeId} {e : Kd} {l : List e.T}, i.sh = .sl et → esz E et e = true → DR G.D w (.sl e l) x → (obind (lget l j) fun y => k (.dref (e.cells y) 0)) = some r →
    ∃ v z, k v = some r ∧ (Instr.indexAt t x (.int kx j)).run P w = .ok z w ∧ VR G.D G.σ w v z := by
   intro et e l hsh hez hdr h
   obtain ⟨y', hy', h⟩ := Option.bind_eq_some_iff.1 h
   rw [hsh] at hs
   rw [j3 hs] at hd
   unfold lget at hy'
   split at hy'
   ·rename_i h0
    obtain ⟨hlt, rfl⟩ := List.getElem?_eq_some_iff.1 hy'
    cases hdr with
    | sl _ _ A cap cv hcap hA hone hr =>
      obtain ⟨a, rfl, hD, hc⟩ := hA j.toNat hlt
      refine ⟨_, _, h, z6 hd (gD hE hez) h0 (by omega), ?_⟩
      have hb : (a.add (j.toNat * e.size)).block = a.block := add_block _ _
      rw [show (a.add (j.toNat * e.size)) = (a.add (j.toNat * e.size)).add 0 from (add_zero _).symm]
      exact At.mkDref (by rw [hb]; exact hD) (fun q hq => ⟨cv j.toNat q, by rw [jh]; exact hc q (jr hlt hq), hone _ _ hlt (jr hlt hq), hr _ hlt q hq⟩) 0
   ·simp at hy'
  have own : ∀ {et b : Nat} {e : Kd} {l : List e.T} {A : Option Nat} {len cap sz : Nat} {B : Option Addr} {cap' : Nat} {lo hi : Int}, i.sh = .sl et → esz E et e = true → (M[b]? = some (.vec e l) ∨ M[b]? = some (.fvec e l)) → G.σ b = .hdr A len cap sz →
    0 ≤ lo → lo ≤ hi → hi ≤ len → (lo < hi → B = A.map fun c => (blkA c).add (lo.toNat * sz)) → 0 ≤ j → j < hi - lo →
    ∃ z, (Instr.indexAt t (.slice B (hi - lo).toNat cap') (.int kx j)).run P w = .ok z w ∧ VR G.D G.σ w (.vref b (lo + j) 0) z := by
   intro et b e l A len cap sz B cap' lo hi hsh hez hb hc hl0 hlh hhl hB h0 h1
   rw [hsh] at hs
   rw [j3 hs] at hd
   cases A with
   | none =>
     exfalso
     rcases hb with hb | hb
     ·obtain ⟨A, cap'', e1, _, e3, _⟩ := hm.blocks b _ hb
      rw [hc] at e1
      cases e1
      have := (e3 rfl).1; subst this
      simp at hhl
      omega
     ·obtain ⟨A, cap'', e1, e2⟩ := hm.blocks b _ hb
      rw [hc] at e1
      cases e1
      cases hl : l with
      | nil => subst hl; simp at hhl; omega
      | cons q qs =>
        subst hl
        generalize hx : Value.slice (Option.map blkA none) (q :: qs).length cap = xx at e2
        cases e2 with
        | sl _ _ A'' _ cv hcap hA hone hr =>
          obtain ⟨a, ha', _⟩ := hA 0 (by simp)
          subst ha'
          injection hx with hx1
          simp at hx1
   | some c =>
     obtain ⟨h2, rfl, h3⟩ := At.of_vec hm hb hc
     rw [hB (by omega)]
     refine ⟨_, z6 hd (gD hE hez) h0 (by omega), ?_⟩
     rw [jh, show lo.toNat * e.size + j.toNat * e.size = (lo + j).toNat * e.size + 0 by rw [← Nat.add_mul, Nat.add_zero, show lo.toNat + j.toNat = (lo + j).toNat by omega]]
     exact .vref b (lo + j) 0 c len cap e.size hc (by omega) (by omega)
  split at h
  ·rename_i et e l hsh
   obtain ⟨hez, h⟩ := qq h
   exact data hsh hez hv.sl_inv h
  ·rename_i et e l hsh
   obtain ⟨hez, h⟩ := qq h
   exact data hsh hez hv.slc_inv.slc_sl h
  ·rename_i et b hsh
   obtain ⟨A, len, cap, sz, hc, rfl⟩ := hv.vec_inv
   have go : ∀ {e : Kd} {l : List e.T}, (M[b]? = some (.vec e l) ∨ M[b]? = some (.fvec e l)) → (bif esz E et e then cnd (ile 0 j) (cnd (ilt j (qh l)) (k (.vref b j 0)) none) none else none) = some r →
     ∃ v z, k v = some r ∧ (Instr.indexAt t (.slice (A.map blkA) len cap) (.int kx j)).run P w = .ok z w ∧ VR G.D G.σ w v z := by
    intro e l hb h
    obtain ⟨hez, h⟩ := qq h
    obtain ⟨h0, h⟩ := qA h
    obtain ⟨h1, h⟩ := qA h
    have h0 : 0 ≤ j := by simpa [ile] using h0
    have h1 : j < l.length := by simpa [ilt, ilen_eq] using h1
    have hll : len = l.length := by
     rcases hb with hb | hb
     ·obtain ⟨A, cap'', e1, _⟩ := hm.blocks b _ hb; rw [hc] at e1; cases e1; rfl
     ·obtain ⟨A, cap'', e1, _⟩ := hm.blocks b _ hb; rw [hc] at e1; cases e1; rfl
    obtain ⟨z, hz, hz'⟩ := own (B := A.map blkA) (cap' := cap) (lo := 0) (hi := (len : Int)) hsh hez hb hc (by omega) (by omega) (by omega) (fun _ => by simp [add_zero]) h0 (by omega)
    simp only [Int.sub_zero, Int.toNat_natCast, Int.zero_add] at hz hz'
    exact ⟨_, z, h, hz, hz'⟩
   split at h
   ·rename_i e l hb; exact go (.inl hb) h
   ·rename_i e l hb; exact go (.inr hb) h
   ·simp at h
  ·rename_i et b lo hi' hsh
   obtain ⟨A, len, cap, sz, B, cap', hc, hl0, hlh, hhl, hB, hcc, rfl⟩ := hv.vsl_inv
   have go : ∀ {e : Kd} {l : List e.T}, (M[b]? = some (.vec e l) ∨ M[b]? = some (.fvec e l)) → (bif esz E et e then cnd (ile 0 j) (cnd (ilt j (qh (ldrop (ltake l hi') lo))) (k (.vref b (iadd lo j) 0)) none) none else none) = some r →
     ∃ v z, k v = some r ∧ (Instr.indexAt t (.slice B (hi' - lo).toNat cap') (.int kx j)).run P w = .ok z w ∧ VR G.D G.σ w v z := by
    intro e l hb h
    obtain ⟨hez, h⟩ := qq h
    obtain ⟨h0, h⟩ := qA h
    obtain ⟨h1, h⟩ := qA h
    have h0 : 0 ≤ j := by simpa [ile] using h0
    have hll : len = l.length := by
     rcases hb with hb | hb
     ·obtain ⟨A, cap'', e1, _⟩ := hm.blocks b _ hb; rw [hc] at e1; cases e1; rfl
     ·obtain ⟨A, cap'', e1, _⟩ := hm.blocks b _ hb; rw [hc] at e1; cases e1; rfl
    have h1 : j < hi' - lo := by
     have := h1
     simp only [ilt, ilen_eq, ldrop, ltake, decide_eq_true_eq, List.length_drop, List.length_take] at this
     omega
    obtain ⟨z, hz, hz'⟩ := own (B := B) (cap' := cap') hsh hez hb hc hl0 hlh hhl hB h0 h1
    exact ⟨_, z, h, hz, hz'⟩
   split at h
   ·rename_i e l hb; exact go (.inl hb) h
   ·rename_i e l hb; exact go (.inr hb) h
   ·simp at h
  ·rename_i et b off len hsh
   obtain ⟨c, cap, hc, hcap, rfl⟩ := hv.csl_inv
   rw [hsh] at hs
   rw [j3 hs] at hd
   split at h
   ·rename_i ei hei
    split at h
    ·rename_i n
     obtain ⟨hlt, h⟩ := qq h
     have hlt : n < len := by simp [Nat.blt] at hlt; omega
     refine ⟨_, _, h, z6 hd (fun w => qL (hE.ty _ _ hei) w) (by simp) (by simpa using hlt), ?_⟩
     rw [jh]
     exact .ptr _ _ c hc
    ·simp at h
   ·simp at h
  ·rename_i n et b off hsh
   obtain ⟨c, hc, rfl⟩ := hv.ptr_inv
   rw [hsh] at hs
   rw [kg hs] at hd
   split at h
   ·rename_i ei hei
    obtain ⟨h1', h⟩ := qq h
    obtain ⟨h0, h⟩ := qA h
    obtain ⟨h1, h⟩ := qA h
    have h0 : 0 ≤ j := by simpa [ile] using h0
    have h1 : j < n := by simpa [ilt] using h1
    have hsz : (sizeOf et).run P w = .ok 1 w := by rw [qL (hE.ty _ _ hei) w, Nat.eq_of_beq_eq_true h1']
    refine ⟨_, _, h, ?_, .pidx b off n j c hc h0 h1⟩
    have hj : 0 ≤ j ∧ j < (n : Int) := ⟨h0, h1⟩
    simp [Instr.indexAt, kh, run_underlying hd w, hsz, hj, qJ, jh]
   ·simp at h
  ·rename_i n et cs off hsh
   obtain ⟨a, hD, hat, rfl⟩ := hv.dref_inv
   rw [hsh] at hs
   rw [kg hs] at hd
   split at h
   ·rename_i ei hei
    obtain ⟨h1', h⟩ := qq h
    obtain ⟨h0, h⟩ := qA h
    obtain ⟨h1, h⟩ := qA h
    have h0 : 0 ≤ j := by simpa [ile] using h0
    have h1 : j < n := by simpa [ilt] using h1
    have hsz : (sizeOf et).run P w = .ok 1 w := by rw [qL (hE.ty _ _ hei) w, Nat.eq_of_beq_eq_true h1']
    refine ⟨_, _, h, ?_, .didx cs off n j a (fun q => (w.cell? (a.add q)).getD undef) hD h0 h1 fun q hq => by obtain ⟨y, e1, e2, e3⟩ := hat q hq; simp [e1, e2, e3]⟩
    have hj : 0 ≤ j ∧ j < (n : Int) := ⟨h0, h1⟩
    simp [Instr.indexAt, kh, run_underlying hd w, hsz, hj, qJ, jh]
   ·simp at h
  ·rename_i n et g off hsh
   rw [hv.gp_inv]
   rw [hsh] at hs
   rw [kg hs] at hd
   split at h
   ·rename_i ei hei
    split at h
    ·rename_i cs hkd hcs
     replace h := qq h
     obtain ⟨hoff, h⟩ := h
     simp only [Bool.and_eq_true] at hoff
     have h0 := Nat.eq_of_beq_eq_true hoff.1.1
     have h1 := Nat.eq_of_beq_eq_true hoff.1.2
     have h2 := hoff.2
     subst h0
     replace h := Option.bind_eq_some_iff.1 h
     obtain ⟨l, hl, h⟩ := h
     obtain ⟨hlen, hget⟩ := Qw hl
     obtain ⟨_, hD, hat, _⟩ := hg g cs hcs
     replace h := Option.bind_eq_some_iff.1 h
     obtain ⟨y, hy, h⟩ := h
     unfold lget at hy
     split at hy
     ·rename_i hj0
      obtain ⟨hlt, rfl⟩ := List.getElem?_eq_some_iff.1 hy
      have hsz : (sizeOf et).run P w = .ok 1 w := by rw [qL (hE.ty _ _ hei) w, Nat.eq_of_beq_eq_true h2]
      have hj : 0 ≤ j ∧ j < (n : Int) := ⟨hj0, by omega⟩
      refine ⟨_, .pointer (some (((blkA g).add j.toNat).add 0)), h, ?_, At.mkDref (by rw [add_block]; exact hD) (fun q hq => ?_) 0⟩
      ·simp [Instr.indexAt, kh, run_underlying hd w, hsz, hj, qJ, jh]
      ·have hq0 : q = 0 := by simpa using hq
       subst hq0
       obtain ⟨x, hx, ho, hr⟩ := hat j.toNat (by omega)
       rw [hget j.toNat (by omega) hlt] at hr
       exact ⟨x, by rw [jh]; exact hx, ho, hr⟩
     ·simp at hy
    ·simp at h
   ·simp at h
  ·simp at h
 ·simp at h
end Go.Sx
namespace Go.Sx
open Go
open Go.RowKit (Below)
variable {P : Program} {E : Env} {base : Nat} {ok : Nat → Prop} {G : Gam} {w : GW} {M : Mem} {R : Type}
theorem JX (l : Str) : (⟨l.toArray⟩ : ByteArray).size = l.length := by simp [ByteArray.size]
theorem MX {op : BinOp} {x y : Int} {b : Bool} (h : cmpI op x y = some b) (w : GW) : (Op.intCmp op x y).run P w = .ok (.bool b) w := by
 cases op <;> simp only [cmpI, Option.some.injEq, reduceCtorEq] at h <;> subst h <;> rfl
theorem Um {a b : AV} {c : Bool} (h : QK a b = some c) : (∃ x, a.val = some x) ∧ ∃ y, b.val = some y := by
 unfold QK at h
 split at h <;> first
  | exact ⟨⟨_, rfl⟩, ⟨_, rfl⟩⟩
  | simp at h
theorem QJ : ∀ {cs ds : List AV} {c : Bool}, jy cs ds = some c → (∀ v ∈ cs, ∃ x, v.val = some x) ∧ ∀ v ∈ ds, ∃ x, v.val = some x
 | [], [], _, _ => ⟨fun v h => by simp at h, fun v h => by simp at h⟩
 | [a], [b], c, h => by
   have := Um (show QK a b = some c from h)
   exact ⟨fun v hv => by simp at hv; subst hv; exact this.1, fun v hv => by simp at hv; subst hv; exact this.2⟩
 | a :: a' :: r, b :: s, c, h => by
   simp only [jy, Option.bind_eq_some_iff] at h
   obtain ⟨x, hx, y, hy, _⟩ := h
   have h1 := Um hx
   have h2 := QJ hy
   refine ⟨fun v hv => ?_, fun v hv => ?_⟩
   ·rcases List.mem_cons.1 hv with rfl | hv
    ·exact h1.1
    ·exact h2.1 v hv
   ·rcases List.mem_cons.1 hv with rfl | hv
    ·exact h1.2
    ·exact h2.2 v hv
 | [a], b :: b' :: s, c, h => by
   simp only [jy, Option.bind_eq_some_iff] at h
   obtain ⟨x, hx, y, hy, _⟩ := h
   simp [jy] at hy
 | [], _ :: _, _, h => by simp [jy] at h
 | _ :: _, [], _, h => by simp [jy] at h
theorem VR.val_inv {D : Nat → Prop} {σ : Nat → SB} {v : AV} {x y : Value} (h : VR D σ w v x) (hv : v.val = some y) : x = y := by
 unfold AV.val at hv
 split at hv <;> cases hv
 ·exact h.int_inv
 ·exact h.bool_inv
 ·exact h.str_inv
theorem Dw {D : Nat → Prop} {σ : Nat → SB} {cs : List AV} {xs : List Value} (hl : cs.length = xs.length) (h : ∀ i (h1 : i < cs.length) (h2 : i < xs.length), VR D σ w cs[i] xs[i]) (hv : ∀ v ∈ cs, ∃ x, v.val = some x) : cs.map AV.val = xs.map some := by
 apply List.ext_getElem
 ·simpa using hl
 ·intro i h1 h2
  simp at h1 h2
  obtain ⟨x, hx⟩ := hv cs[i] (by simp)
  simp only [List.getElem_map, hx, (h i h1 h2).val_inv hx]
theorem beqd (p q : Str) : (p == q) = decide (p = q) := by rw [Bool.eq_iff_iff]; simp
theorem qep (t : TypeId) (a b : ByteArray) : binOp .geq t (.string a) (.string b) = pure (.bool !(Op.bytesLess a.toList b.toList)) := by simp [binOp, Op.stringOp]
section
variable {t : TypeId} (w : GW)
theorem Q2 (hd : P.underlying t = some .bool) (a b : Bool) : (Op.equal t (.bool a) (.bool b)).run P w = .ok (a == b) w := by
 unfold Op.equal Op.maxDepth; rw [Op.equalIn]; simp only [Sem.run_bind, run_underlying hd w, Result.andThen_ok]; rfl
theorem U8 {m : Array (String × TypeId)} (hd : P.underlying t = some (.interface m)) : (Op.equal t .nilIface .nilIface).run P w = .ok true w := by
 unfold Op.equal Op.maxDepth; rw [Op.equalIn]; simp only [Sem.run_bind, run_underlying hd w, Result.andThen_ok]; rfl
theorem U7 {m : Array (String × TypeId)} (hd : P.underlying t = some (.interface m)) (u : TypeId) (v : Value) : (Op.equal t .nilIface (.iface u v)).run P w = .ok false w := by
 unfold Op.equal Op.maxDepth; rw [Op.equalIn]; simp only [Sem.run_bind, run_underlying hd w, Result.andThen_ok]; rfl
theorem U6 {m : Array (String × TypeId)} (hd : P.underlying t = some (.interface m)) (u : TypeId) (v : Value) : (Op.equal t (.iface u v) .nilIface).run P w = .ok false w := by
 unfold Op.equal Op.maxDepth; rw [Op.equalIn]; simp only [Sem.run_bind, run_underlying hd w, Result.andThen_ok]; rfl
theorem Bd {e : TypeId} (hd : P.underlying t = some (.pointer e)) : (Op.equal t (.pointer none) (.pointer none)).run P w = .ok true w := by
 unfold Op.equal Op.maxDepth; rw [Op.equalIn]; simp only [Sem.run_bind, run_underlying hd w, Result.andThen_ok]; rfl
theorem Bc {e : TypeId} (hd : P.underlying t = some (.pointer e)) (a : Addr) : (Op.equal t (.pointer none) (.pointer (some a))).run P w = .ok false w := by
 unfold Op.equal Op.maxDepth; rw [Op.equalIn]; simp only [Sem.run_bind, run_underlying hd w, Result.andThen_ok]; rfl
theorem Bb {e : TypeId} (hd : P.underlying t = some (.pointer e)) (a : Addr) : (Op.equal t (.pointer (some a)) (.pointer none)).run P w = .ok false w := by
 unfold Op.equal Op.maxDepth; rw [Op.equalIn]; simp only [Sem.run_bind, run_underlying hd w, Result.andThen_ok]; rfl
theorem Bf {a b : Array TypeId} {c : Bool} (hd : P.underlying t = some (.func a b c)) : (Op.equal t .nilFunc .nilFunc).run P w = .ok true w := by
 unfold Op.equal Op.maxDepth; rw [Op.equalIn]; simp only [Sem.run_bind, run_underlying hd w, Result.andThen_ok]; rfl
theorem Be {a b : Array TypeId} {c : Bool} (hd : P.underlying t = some (.func a b c)) (f : Fn) (p q : Array Value) : (Op.equal t (.func f p q) .nilFunc).run P w = .ok false w := by
 unfold Op.equal Op.maxDepth; rw [Op.equalIn]; simp only [Sem.run_bind, run_underlying hd w, Result.andThen_ok]; rfl
end
theorem qE {op : BinOp} {t : TypeId} {x y : Operand} {a b : Value} (h1 : ∀ xs, a ≠ .agg xs) (h2 : a = .nilIface → b = .nilIface → (kq x || kq y) = true) : (eqGuard op t x y a b).run P w = .ok () w := by
 unfold eqGuard
 cases op <;> first
  | rfl
  | (simp only [Bool.not_true, Bool.false_eq_true, if_false]
     split
     ·have := h2 rfl rfl
      clear h1 h2
      cases x <;> cases y <;> first | rfl | exact Bool.noConfusion this
     ·exact absurd rfl (h1 _)
     ·rfl)
theorem qah (hE : EnvOK P E) {op : BinOp} {t : TypeId} {x y : Operand} {a b : AV} {u v : Value} (ha : VR G.D G.σ w a u) (hb : VR G.D G.σ w b v) {k : AV → Option R} {r : R} (h : binK E op t (kq x || kq y) a b k = some r) :
  ∃ c z, k c = some r ∧ (do eqGuard op t x y u v; binOp op t u v : Sem Value).run P w = .ok z w ∧ VR G.D G.σ w c z := by
 unfold binK at h
 split at h
 ·rename_i kx m ky n
  rw [ha.int_inv, hb.int_inv]
  simp only [Sem.run_bind, qE (P := P) (w := w) (a := .int kx m) (b := .int ky n) (by simp) (by simp), Result.andThen_ok]
  split at h
  ·rename_i hk
   subst hk
   split at h
   ·exact ⟨_, _, h, by simp [binOp, Op.intArith], .data _ _ (.int _ _)⟩
   ·exact ⟨_, _, h, by simp [binOp, Op.intArith], .data _ _ (.int _ _)⟩
   ·exact ⟨_, _, h, by simp [binOp, Op.intArith], .data _ _ (.int _ _)⟩
   ·obtain ⟨h0, h⟩ := Ji h
    have h0 : n ≠ 0 := by simpa [ieq] using h0
    exact ⟨_, _, h, by simp [binOp, Op.intDiv, h0], .data _ _ (.int _ _)⟩
   ·obtain ⟨h0, h⟩ := Ji h
    have h0 : n ≠ 0 := by simpa [ieq] using h0
    exact ⟨_, _, h, by simp [binOp, Op.intDiv, h0], .data _ _ (.int _ _)⟩
   ·obtain ⟨c, hc, h⟩ := Option.bind_eq_some_iff.1 h
    refine ⟨_, _, h, ?_, .data _ _ (.bool c)⟩
    have := MX (P := P) hc w
    cases op <;> first
     | (simp [cmpI] at hc; done)
     | (simpa [binOp] using this)
  ·simp at h
 ·rename_i p q
  rw [ha.bool_inv, hb.bool_inv]
  simp only [Sem.run_bind, qE (P := P) (w := w) (a := .bool p) (b := .bool q) (by simp) (by simp), Result.andThen_ok]
  split at h
  ·rename_i i hi
   obtain ⟨d, hd, hs, _⟩ := (hE.ty t i hi).und
   split at h
   ·rename_i hsh
    rw [hsh] at hs
    rw [Yc hs] at hd
    exact ⟨_, _, h, by simp only [binOp, Sem.run_bind, Q2 w hd, Result.andThen_ok, Sem.run_pure], .data _ _ (.bool _)⟩
   ·rename_i hsh
    rw [hsh] at hs
    rw [Yc hs] at hd
    exact ⟨_, _, h, by simp only [binOp, Sem.run_bind, Q2 w hd, Result.andThen_ok, Sem.run_pure], .data _ _ (.bool _)⟩
   ·simp at h
  ·simp at h
 ·rename_i p q
  rw [ha.str_inv, hb.str_inv]
  simp only [Sem.run_bind, qE (P := P) (w := w) (a := .string ⟨p.toArray⟩) (b := .string ⟨q.toArray⟩) (by simp) (by simp), Result.andThen_ok]
  split at h
  ·obtain ⟨h0, h⟩ := qA h
   have h0 : p.length + q.length < 4611686018427387904 := by simp [ilt, iadd, ilen_eq] at h0; omega
   have e : (⟨p.toArray⟩ : ByteArray) ++ ⟨q.toArray⟩ = ⟨(p ++ q).toArray⟩ := by
    apply ByteArray.ext; simp
   refine ⟨_, .string ⟨(p ++ q).toArray⟩, h, ?_, .data _ _ (.str (p ++ q))⟩
   rw [binOp_string_add, run_string_add_sum (P := P) w _ _ (by rw [JX, JX]; omega), e]
  ·exact ⟨_, _, h, by simp [binOp_string_eql, ByteArray.toList_mk, seq, beqd], .data _ _ (.bool _)⟩
  ·exact ⟨_, _, h, by simp [binOp_string_neq, ByteArray.toList_mk, seq, beqd], .data _ _ (.bool _)⟩
  ·exact ⟨_, _, h, by simp [binOp_string_lss, ByteArray.toList_mk], .data _ _ (.bool _)⟩
  ·exact ⟨_, _, h, by simp [qep, ByteArray.toList_mk], .data _ _ (.bool _)⟩
  ·simp at h
 ·rename_i cs ds
  obtain ⟨xs, hl, _, hh, rfl⟩ := ha.agg_inv
  obtain ⟨ys, hl', _, hh', rfl⟩ := hb.agg_inv
  split at h
  ·rename_i n hn
   obtain ⟨hlen, h⟩ := qq h
   simp only [Bool.and_eq_true] at hlen
   have h1 := hlen.1
   have h2 := hlen.2
   have go : ∀ {c : Bool}, jy cs ds = some c → (Op.equal t (.agg xs.toArray) (.agg ys.toArray)).run P w = .ok c w ∧ ∀ op x y, (eqGuard op t x y (.agg xs.toArray) (.agg ys.toArray)).run P w = .ok () w :=
    fun {c} hc => hE.eq t n hn w cs ds xs ys c hc h1 h2 (Dw hl hh (QJ hc).1) (Dw hl' hh' (QJ hc).2)
   split at h
   ·obtain ⟨c, hc, h⟩ := Option.bind_eq_some_iff.1 h
    refine ⟨_, _, h, ?_, .data _ _ (.bool c)⟩
    simp only [Sem.run_bind, (go hc).2, Result.andThen_ok, binOp, (go hc).1, Sem.run_pure]
   ·obtain ⟨c, hc, h⟩ := Option.bind_eq_some_iff.1 h
    refine ⟨_, _, h, ?_, .data _ _ (.bool _)⟩
    simp only [Sem.run_bind, (go hc).2, Result.andThen_ok, binOp, (go hc).1, Sem.run_pure]
   ·simp at h
  ·simp at h
 ·split at h
  ·rename_i i hi
   obtain ⟨d, hd, hs, _⟩ := (hE.ty t i hi).und
   have go : ∀ {c : Bool}, qa5 (kq x || kq y) i.sh a b = some c → (Op.equal t u v).run P w = .ok c w ∧ (∀ op, (eqGuard op t x y u v).run P w = .ok () w) ∧ (∀ op, op = .eql ∨ op = .neq → binOp op t u v = (match op with | .eql => (do pure (.bool (← Op.equal t u v))) | _ => (do pure (.bool (!(← Op.equal t u v)))) : Sem Value)) := by
    intro c hc
    generalize hsh : i.sh = s at hc hs
    unfold qa5 at hc
    split at hc
    ·obtain ⟨hcst, hc⟩ := qq hc
     cases hc
     obtain ⟨m, rfl⟩ := J9 hs
     rw [ha.nili_inv, hb.nili_inv]
     exact ⟨U8 w hd, fun op => qE (by simp) (fun _ _ => hcst), fun op ho => by rcases ho with rfl | rfl <;> rfl⟩
    ·cases hc
     obtain ⟨m, rfl⟩ := J9 hs
     obtain ⟨t', y', rfl⟩ := hb.err_inv
     rw [ha.nili_inv]
     exact ⟨U7 w hd _ _, fun op => qE (by simp) (by simp), fun op ho => by rcases ho with rfl | rfl <;> rfl⟩
    ·cases hc
     obtain ⟨m, rfl⟩ := J9 hs
     obtain ⟨t', y', rfl⟩ := ha.err_inv
     rw [hb.nili_inv]
     exact ⟨U6 w hd _ _, fun op => qE (by simp) (by simp), fun op ho => by rcases ho with rfl | rfl <;> rfl⟩
    ·cases hc
     have := Gd hs
     subst this
     rw [ha.nilp_inv, hb.nilp_inv]
     exact ⟨Bd w hd, fun op => qE (by simp) (by simp), fun op ho => by rcases ho with rfl | rfl <;> rfl⟩
    ·cases hc
     have := Gd hs
     subst this
     obtain ⟨c', _, rfl⟩ := hb.ptr_inv
     rw [ha.nilp_inv]
     exact ⟨Bc w hd _, fun op => qE (by simp) (by simp), fun op ho => by rcases ho with rfl | rfl <;> rfl⟩
    ·cases hc
     have := Gd hs
     subst this
     obtain ⟨c', _, rfl⟩ := ha.ptr_inv
     rw [hb.nilp_inv]
     exact ⟨Bb w hd _, fun op => qE (by simp) (by simp), fun op ho => by rcases ho with rfl | rfl <;> rfl⟩
    ·cases hc
     obtain ⟨m, m', m'', rfl⟩ := Yb hs
     rw [ha.nilf_inv, hb.nilf_inv]
     exact ⟨Bf w hd, fun op => qE (by simp) (by simp), fun op ho => by rcases ho with rfl | rfl <;> rfl⟩
    ·cases hc
     obtain ⟨m, m', m'', rfl⟩ := Yb hs
     obtain ⟨p, q, _, _, _, _, rfl⟩ := ha.func_inv
     rw [hb.nilf_inv]
     exact ⟨Be w hd _ _ _, fun op => qE (by simp) (by simp), fun op ho => by rcases ho with rfl | rfl <;> rfl⟩
    ·simp at hc
   split at h
   ·obtain ⟨c, hc, h⟩ := Option.bind_eq_some_iff.1 h
    obtain ⟨h1, h2, h3⟩ := go hc
    exact ⟨_, _, h, by simp only [Sem.run_bind, h2, Result.andThen_ok, h3 _ (.inl rfl), h1, Sem.run_pure], .data _ _ (.bool c)⟩
   ·obtain ⟨c, hc, h⟩ := Option.bind_eq_some_iff.1 h
    obtain ⟨h1, h2, h3⟩ := go hc
    exact ⟨_, _, h, by simp only [Sem.run_bind, h2, Result.andThen_ok, h3 _ (.inr rfl), h1, Sem.run_pure], .data _ _ (.bool _)⟩
   ·simp at h
  ·simp at h
theorem Za {t e : TypeId} (hd : P.underlying t = some (.slice e)) (A : Option Addr) (n c : Nat) : (Op.equal t (.slice A n c) (.slice none 0 0)).run P w = .ok A.isNone w := by
 unfold Op.equal Op.maxDepth; rw [Op.equalIn]; simp only [Sem.run_bind, run_underlying hd w, Result.andThen_ok]
 cases A <;> rfl
def Mm (op : BinOp) (b : Bool) : Bool := match op with
 | .eql => b
 | _ => !b
theorem D4 (hE : EnvOK P E) {ev : Operand → AV} {ρ : Operand → Value} (hev : ∀ x, VR G.D G.σ w (ev x) (ρ x)) {o : Oper} {n : Int} {t : Bool} (h : Qz E ev o = some (n, t)) :
  ∃ b, (execOp ρ o).run P w = .ok (.value (.bool b)) w ∧ (b = bnot t ∨ (b = t ∧ ilt 0 n = false)) := by
 unfold Qz at h
 split at h
 ·rename_i op ty x y _ ho
  unfold qfb at h
  split at h
  ·rename_i i hi
   obtain ⟨d, hd, hs, _⟩ := (hE.ty ty i hi).und
   have hrun : ∀ {a b : Value} {bb : Bool}, ρ x = a → ρ y = b → (eqGuard op ty x y a b).run P w = .ok () w → (binOp op ty a b).run P w = .ok (.bool bb) w → (execOp ρ o).run P w = .ok (.value (.bool bb)) w := by
    intro a b bb e1 e2 h1 h2
    rw [show execOp ρ o = (do pure (.value (← (do eqGuard op ty x y (ρ x) (ρ y); binOp op ty (ρ x) (ρ y))))) by unfold execOp; rw [ho], e1, e2]
    simp only [Sem.run_bind, h1, Result.andThen_ok, h2, Sem.run_pure]
   have key : ∀ {e : Kd} {l : List e.T} {et : TypeId}, i.sh = .sl et → ev x = .sl e l → ev y = .nilsl → (op = .eql ∨ op = .neq) →
     ∃ A : Option Addr, (execOp ρ o).run P w = .ok (.value (.bool (Mm op A.isNone))) w ∧ (A = none → ilt 0 (qh l) = false) := by
    intro e l et hsh hx hy hop
    rw [hsh] at hs
    have hd' := j3 hs
    subst hd'
    have hxx := hev x
    have hyy := hev y
    rw [hx] at hxx
    rw [hy] at hyy
    have hyv := hyy.nilsl_inv
    obtain ⟨A, cap, hxv, hA⟩ : ∃ A cap, ρ x = .slice A l.length cap ∧ (A = none → ilt 0 (qh l) = false) := by
     have hdr := hxx.sl_inv
     clear hrun hxx
     generalize ρ x = xv at hdr
     cases hdr with
     | sl _ _ A cap cv hcap hA hone hr =>
       refine ⟨A, cap, rfl, fun hA0 => ?_⟩
       cases l with
       | nil => rfl
       | cons a r =>
         obtain ⟨a, ha, _⟩ := hA 0 (by simp)
         rw [hA0] at ha
         cases ha
    refine ⟨A, hrun hxv hyv (qE (by simp) (by simp)) ?_, hA⟩
    rcases hop with rfl | rfl
    ·simp only [binOp, Sem.run_bind, Za hd, Result.andThen_ok, Sem.run_pure, Mm]
    ·simp only [binOp, Sem.run_bind, Za hd, Result.andThen_ok, Sem.run_pure, Mm]
   split at h
   ·rename_i hsh hx hy
    cases h
    obtain ⟨A, h1, h2⟩ := key hsh hx hy (.inl rfl)
    refine ⟨_, h1, ?_⟩
    cases A with
    | none => exact .inr ⟨rfl, h2 rfl⟩
    | some a => exact .inl rfl
   ·rename_i hsh hx hy
    cases h
    obtain ⟨A, h1, h2⟩ := key hsh hx hy (.inr rfl)
    refine ⟨_, h1, ?_⟩
    cases A with
    | none => exact .inr ⟨rfl, h2 rfl⟩
    | some a => exact .inl rfl
   ·cases h
  ·cases h
 ·cases h
end Go.Sx
namespace Go.Sx
open Go
open Go.RowKit (Below)
variable {P : Program} {E : Env} {base : Nat} {ok : Nat → Prop} {G : Gam} {w : GW} {M : Mem} {R : Type}
theorem Qy {α : Type} {l : List α} {lo hi : Option Int} {k : List α → Option R} {r : R} (h : vR l lo hi k = some r) :
  ∃ l', k l' = some r ∧ ∃ a b : Nat, a ≤ b ∧ b ≤ l.length ∧ l' = (l.take b).drop a ∧ (lo = none → a = 0) ∧ (∀ n, lo = some n → n = a) ∧ (hi = none → b = l.length) ∧ (∀ n, hi = some n → n = b) := by
 unfold vR at h
 split at h
 ·exact ⟨_, h, 0, l.length, by omega, by omega, by simp, by simp, by simp, by simp, by simp⟩
 ·rename_i a
  replace h := qA h
  obtain ⟨h0, h⟩ := h
  replace h := qA h
  obtain ⟨h1, h⟩ := h
  simp [ile, ilen_eq] at h0 h1
  exact ⟨_, h, a.toNat, l.length, by omega, by omega, by simp, by simp, by simp; omega, by simp, by simp⟩
 ·rename_i b
  replace h := qA h
  obtain ⟨h0, h⟩ := h
  replace h := qA h
  obtain ⟨h1, h⟩ := h
  simp [ile, ilen_eq] at h0 h1
  exact ⟨_, h, 0, b.toNat, by omega, by omega, by simp, by simp, by simp, by simp, by simp; omega⟩
 ·rename_i a b
  replace h := qA h
  obtain ⟨h0, h⟩ := h
  replace h := qA h
  obtain ⟨h1, h⟩ := h
  replace h := qA h
  obtain ⟨h2, h⟩ := h
  simp [ile, ilen_eq] at h0 h1 h2
  exact ⟨_, h, a.toNat, b.toNat, by omega, by omega, rfl, by simp, by simp; omega, by simp, by simp; omega⟩
theorem KH {o : Option AV} {n : Option Int} (h : JE o = some n) {x : Option Value} (hx : ∀ v, o = some v → ∃ y, x = some y ∧ VR G.D G.σ w v y) (hn : o = none → x = none) :
  (n = none ∧ x = none) ∨ ∃ k m, n = some m ∧ x = some (.int k m) := by
 cases o with
 | none => simp [JE] at h; exact .inl ⟨h.symm, hn rfl⟩
 | some v =>
   simp only [JE, Option.bind_eq_some_iff, Option.some.injEq] at h
   obtain ⟨m, hm, rfl⟩ := h
   obtain ⟨y, rfl, hy⟩ := hx v rfl
   unfold Rg at hm
   split at hm
   ·cases hm; rw [hy.int_inv]; exact .inr ⟨_, _, rfl, rfl⟩
   ·simp at hm
theorem qY {k : IntKind} {n : Nat} {y : Nat} {c : BoundsCode} (h : n ≤ y) (w : GW) : (Instr.sliceBound (.int k (n : Int)) y c).run P w = .ok n w := by
 have : (0 : Int) ≤ (n : Int) ∧ (n : Int) ≤ (y : Int) := ⟨by omega, by omega⟩
 simp [Instr.sliceBound, kh, this]
theorem qW {isS : Bool} {len cap : Nat} {lo hi : Option Value} {a b : Nat} (hlo : (a = 0 ∧ lo = none) ∨ ∃ k, lo = some (.int k (a : Int))) (hhi : (b = len ∧ hi = none) ∨ ∃ k, hi = some (.int k (b : Int))) (h1 : a ≤ b) (h2 : b ≤ cap) (w : GW) :
  (Instr.sliceBounds isS len cap lo hi none).run P w = .ok (a, b, cap) w := by
 unfold Instr.sliceBounds
 rcases hlo with ⟨rfl, rfl⟩ | ⟨k, rfl⟩ <;> rcases hhi with ⟨rfl, rfl⟩ | ⟨k', rfl⟩
 ·simp
 ·simp [qY (P := P) h2]
 ·simp [qY (P := P) h1]
 ·simp [qY (P := P) h2, qY (P := P) h1]
theorem ZV {len cap : Nat} {lo hi : Option Value} {a b : Nat} {mx : Value} (hlo : (a = 0 ∧ lo = none) ∨ ∃ k, lo = some (.int k (a : Int))) (hhi : ∃ k, hi = some (.int k (b : Int))) (hm : ∃ k, mx = .int k (b : Int)) (h1 : a ≤ b) (h2 : b ≤ cap) (w : GW) :
  (Instr.sliceBounds true len cap lo hi (some mx)).run P w = .ok (a, b, b) w := by
 unfold Instr.sliceBounds
 obtain ⟨k, rfl⟩ := hm
 obtain ⟨k', rfl⟩ := hhi
 rcases hlo with ⟨rfl, rfl⟩ | ⟨k, rfl⟩
 ·simp [qY (P := P) h2, qY (P := P) (Nat.le_refl b)]
 ·simp [qY (P := P) h2, qY (P := P) (Nat.le_refl b), qY (P := P) h1]
theorem j0 {t et : TypeId} {sz : Nat} (hd : P.underlying t = some (.slice et)) (hsz : ∀ w : GW, (sizeOf et).run P w = .ok sz w) {A : Option Addr} {len cap : Nat} {lo hi mx : Option Value} {a b m : Nat}
  (hb : ∀ w : GW, (Instr.sliceBounds true len cap lo hi mx).run P w = .ok (a, b, m) w) (w : GW) :
  (Instr.sliceAt t (.slice A len cap) lo hi mx).run P w = .ok (.slice (if m = a then A else A.map (·.add (a * sz))) (b - a) (m - a)) w := by
 unfold Instr.sliceAt
 simp only [Sem.run_bind, run_underlying hd w, Result.andThen_ok]
 unfold Instr.slice
 simp only [Sem.run_bind, run_underlying hd w, Result.andThen_ok, hb, hsz, Sem.run_pure]
theorem Ms (s : Str) (a b : Nat) (h : b ≤ s.length) : (⟨s.toArray⟩ : ByteArray).extract a b = ⟨((s.take b).drop a).toArray⟩ := by
 apply ByteArray.ext
 simp [ByteArray.data_extract, List.drop_take]
theorem QS (hm : MemOK base ok G w M) {b len cap sz : Nat} {A : Option Nat} {e : Kd} {l : List e.T} (hb : M[b]? = some (.vec e l) ∨ M[b]? = some (.fvec e l)) (hc : G.σ b = .hdr A len cap sz) : len = l.length ∧ sz = e.size ∧ len ≤ cap := by
 rcases hb with hb | hb
 ·obtain ⟨A', cap'', e1, e2, _⟩ := hm.blocks b _ hb; rw [hc] at e1; cases e1; exact ⟨rfl, rfl, e2⟩
 ·obtain ⟨A', cap'', e1, e2⟩ := hm.blocks b _ hb; rw [hc] at e1; cases e1
  obtain ⟨_, _, h1, h2⟩ := e2.sl_inv
  injection h2 with _ _ h3
  exact ⟨rfl, rfl, by omega⟩
theorem JW (hE : EnvOK P E) (hm : MemOK base ok G w M) (hg : GOK E.glob base G.D w) {t : TypeId} {av : AV} {x : Value} (hv : VR G.D G.σ w av x) {lo hi mx : Option AV} {lo' hi' mx' : Option Value}
  (hlo : (∀ v, lo = some v → ∃ y, lo' = some y ∧ VR G.D G.σ w v y) ∧ (lo = none → lo' = none)) (hhi : (∀ v, hi = some v → ∃ y, hi' = some y ∧ VR G.D G.σ w v y) ∧ (hi = none → hi' = none))
  (hmx : (∀ v, mx = some v → ∃ y, mx' = some y ∧ VR G.D G.σ w v y) ∧ (mx = none → mx' = none)) {k : AV → Option R} {r : R} (h : va E M t av lo hi mx k = some r) :
  ∃ v y, k v = some r ∧ (Instr.sliceAt t x lo' hi' mx').run P w = .ok y w ∧ VR G.D G.σ w v y := by
 unfold va at h
 split at h
 ·simp at h
 ·rename_i i hi0
  obtain ⟨d, hd, hs, _⟩ := (hE.ty t i hi0).und
  have h2 := Option.bind_eq_some_iff.1 h
  clear h
  obtain ⟨n1, hn1, h3⟩ := h2
  have h2 := Option.bind_eq_some_iff.1 h3
  clear h3
  obtain ⟨n2, hn2, h⟩ := h2
  have e1 := KH hn1 hlo.1 hlo.2
  have e2 := KH hn2 hhi.1 hhi.2
  have c1 : ∀ {a : Nat}, (n1 = none → a = 0) → (∀ n, n1 = some n → n = a) → (a = 0 ∧ lo' = none) ∨ ∃ k, lo' = some (.int k (a : Int)) := by
   intro a ha hb
   rcases e1 with ⟨p, q⟩ | ⟨k, m, p, q⟩
   ·exact .inl ⟨ha p, q⟩
   ·exact .inr ⟨k, by rw [q, hb m p]⟩
  have c2 : ∀ {b len : Nat}, (n2 = none → b = len) → (∀ n, n2 = some n → n = b) → (b = len ∧ hi' = none) ∨ ∃ k, hi' = some (.int k (b : Int)) := by
   intro b len ha hb
   rcases e2 with ⟨p, q⟩ | ⟨k, m, p, q⟩
   ·exact .inl ⟨ha p, q⟩
   ·exact .inr ⟨k, by rw [q, hb m p]⟩
  generalize hsh : i.sh = s at h hs
  have data : ∀ {et : TypeId} {e : Kd} {l : List e.T}, s = .sl et → esz E et e = true → DR G.D w (.sl e l) x → (vR l n1 n2 fun l => k (.sl e l)) = some r → mx' = none →
    ∃ v y, k v = some r ∧ (Instr.sliceAt t x lo' hi' mx').run P w = .ok y w ∧ VR G.D G.σ w v y := by
   intro et e l hs' hez hdr hk0 hmn
   rw [hs'] at hs
   rw [hmn]
   rw [j3 hs] at hd
   obtain ⟨A, cap, hcap, rfl⟩ := hdr.sl_inv
   obtain ⟨l', hk, a, b, hab, hb, rfl, f1, f2, f3, f4⟩ := Qy hk0
   refine ⟨_, _, hk, j0 hd (gD hE hez) (fun w => qW (c1 f1 f2) (c2 f3 f4) hab (by omega) w) w, .data _ _ ?_⟩
   refine hdr.sub a b hab hb _ _ (fun hlt => ?_) (by omega)
   rw [if_neg (by omega)]
  split at h
  ·
   rename_i p
   rw [hv.str_inv, hmx.2 rfl]
   rw [gq hs] at hd
   obtain ⟨l', hk, a, b, hab, hb, rfl, f1, f2, f3, f4⟩ := Qy h
   refine ⟨_, _, hk, ?_, .data _ _ (.str _)⟩
   unfold Instr.sliceAt
   simp only [Sem.run_bind, run_underlying hd w, Result.andThen_ok]
   unfold Instr.slice
   simp only [Sem.run_bind, run_underlying hd w, Result.andThen_ok, Option.isSome_none, Bool.false_eq_true, if_false, Sem.run_pure]
   rw [qW (P := P) (len := (⟨p.toArray⟩ : ByteArray).size) (c1 f1 f2) (c2 (fun e => by rw [JX]; exact f3 e) f4) hab (by rw [JX]; exact hb) w]
   simp only [Result.andThen_ok, Ms p a b hb]
  ·replace h := qq h
   obtain ⟨hez, h⟩ := h
   exact data rfl hez hv.sl_inv h (hmx.2 rfl)
  ·replace h := qq h
   obtain ⟨hez, h⟩ := h
   exact data rfl hez hv.slc_inv.slc_sl h (hmx.2 rfl)
  ·
   rename_i et e l m
   replace h := qq h
   obtain ⟨hez, h⟩ := h
   split at h
   ·rename_i hh mm hmm
    replace h := qA h
    obtain ⟨heq, h⟩ := h
    have heq : mm = hh := by simpa [ieq] using heq
    subst heq
    rw [j3 hs] at hd
    have hdr := hv.sl_inv
    obtain ⟨A, cap, hcap, rfl⟩ := hdr.sl_inv
    obtain ⟨l', hk, a, b, hab, hb, rfl, f1, f2, f3, f4⟩ := Qy h
    obtain ⟨y, hy, hvy⟩ := hmx.1 m rfl
    have hbb := f4 mm rfl
    subst hbb
    have hmx2 : ∃ k, y = .int k (b : Int) := by
     unfold Rg at hmm
     split at hmm
     ·cases hmm; exact ⟨_, hvy.int_inv⟩
     ·simp at hmm
    have hhi2 : ∃ k, hi' = some (.int k (b : Int)) := by
     rcases e2 with ⟨p, q⟩ | ⟨k, m', p, q⟩
     ·simp at p
     ·cases p; exact ⟨k, q⟩
    rw [hy]
    refine ⟨_, _, hk, j0 hd (gD hE hez) (fun w => ZV (c1 f1 f2) hhi2 hmx2 hab (by omega) w) w, .data _ _ ?_⟩
    have hsub := hdr.sub a b hab hb (if b = a then A else A.map (·.add (a * e.size))) (b - a) (fun hlt => by rw [if_neg (by omega)]) (by omega)
    have hlen : ((l.take b).drop a).length = b - a := by simp; omega
    generalize hx : Value.slice (if b = a then A else A.map (·.add (a * e.size))) (b - a) (b - a) = xx at hsub
    cases hsub with
    | sl _ _ A' cap' cv hcap' hA hone hr =>
      injection hx with x1 x2 x3
      have hc' : cap' = ((l.take b).drop a).length := by omega
      rw [hc']
      exact .slc _ _ _ cv hA hone hr
   ·simp at h
  ·
   rename_i et b
   obtain ⟨A, len, cap, sz, hc, rfl⟩ := hv.vec_inv
   rw [hmx.2 rfl]
   rw [j3 hs] at hd
   revert h
   have go : ∀ {e : Kd} {l : List e.T}, (M[b]? = some (.vec e l) ∨ M[b]? = some (.fvec e l)) → (bif esz E et e then Qx b (qh l) n1 n2 k else none) = some r →
     ∃ v y, k v = some r ∧ (Instr.sliceAt t (.slice (A.map blkA) len cap) lo' hi' none).run P w = .ok y w ∧ VR G.D G.σ w v y := by
    intro e l hb h
    replace h := qq h
    obtain ⟨hez, h⟩ := h
    obtain ⟨rfl, rfl, hcap⟩ := QS hm hb hc
    have piece : ∀ (a c : Nat) (ai ci : Int), ai = a → ci = c → a ≤ c → c ≤ l.length → ((a = 0 ∧ lo' = none) ∨ ∃ k, lo' = some (.int k (a : Int))) → ((c = l.length ∧ hi' = none) ∨ ∃ k, hi' = some (.int k (c : Int))) →
      ∃ y, (Instr.sliceAt t (.slice (A.map blkA) l.length cap) lo' hi' none).run P w = .ok y w ∧ VR G.D G.σ w (.vsl b ai ci) y := by
     intro a c ai ci hai hci hac hcl q1 q2
     refine ⟨_, j0 hd (gD hE hez) (fun w => qW q1 q2 hac (by omega) w) w, ?_⟩
     have hs2 : (ci - ai).toNat = c - a := by omega
     rw [← hs2]
     refine .vsl b ai ci A l.length cap e.size hc (by omega) (by omega) (by omega) _ _ (fun hlt => ?_) (by omega) (fun hz => ?_)
     ·rw [if_neg (by omega), show ai.toNat = a by omega]
      cases A <;> rfl
     ·obtain rfl : a = 0 := by omega
      refine ⟨?_, by omega⟩
      split
      ·rfl
      ·cases A <;> simp [add_zero]
    unfold Qx at h
    split at h
    ·refine ⟨_, _, h, j0 hd (gD hE hez) (fun w => qW (a := 0) (b := l.length) (c1 (by simp) (by simp)) (c2 (by simp) (by simp)) (by omega) (by omega) w) w, ?_⟩
     simp only [Nat.zero_mul, Nat.sub_zero]
     have : (if cap = 0 then A.map blkA else (A.map blkA).map (·.add 0)) = A.map blkA := by
      split
      ·rfl
      ·cases A <;> simp [add_zero]
     rw [this]
     exact .vec b A _ cap _ hc
    ·rename_i a
     replace h := qA h
     obtain ⟨h0, h⟩ := h
     replace h := qA h
     obtain ⟨h1, h⟩ := h
     simp [ile, ilen_eq] at h0 h1
     obtain ⟨y, q1, q2⟩ := piece a.toNat l.length a (qh l) (by omega) (ilen_eq l) (by omega) (by omega) (c1 (by simp) (by simp; omega)) (c2 (by simp) (by simp))
     exact ⟨_, y, h, q1, q2⟩
    ·rename_i c
     replace h := qA h
     obtain ⟨h0, h⟩ := h
     replace h := qA h
     obtain ⟨h1, h⟩ := h
     simp [ile, ilen_eq] at h0 h1
     obtain ⟨y, q1, q2⟩ := piece 0 c.toNat 0 c (by omega) (by omega) (by omega) (by omega) (c1 (by simp) (by simp)) (c2 (by simp) (by simp; omega))
     exact ⟨_, y, h, q1, q2⟩
    ·rename_i a c
     replace h := qA h
     obtain ⟨h0, h⟩ := h
     replace h := qA h
     obtain ⟨h1, h⟩ := h
     replace h := qA h
     obtain ⟨h2, h⟩ := h
     simp [ile, ilen_eq] at h0 h1 h2
     obtain ⟨y, q1, q2⟩ := piece a.toNat c.toNat a c (by omega) (by omega) (by omega) (by omega) (c1 (by simp) (by simp; omega)) (c2 (by simp) (by simp; omega))
     exact ⟨_, y, h, q1, q2⟩
   intro h
   split at h
   ·rename_i e l hb; exact go (.inl hb) h
   ·rename_i e l hb; exact go (.inr hb) h
   ·simp at h
  ·
   rename_i et
   rw [hv.nilsl_inv, hmx.2 rfl]
   rw [j3 hs] at hd
   split at h
   ·rename_i ei hei
    refine ⟨_, .slice none 0 0, h, ?_, .data _ _ .nilsl⟩
    have := j0 hd (fun w => qW (len := 0) (cap := 0) (a := 0) (b := 0) (c1 (by simp) (by simp)) (c2 (by simp) (by simp)) (by omega) (by omega) w) (hsz := fun w => qL (hE.ty _ _ hei) w) (A := none) w
    simpa using this
   ·rename_i n ei hei
    replace h := qA h
    obtain ⟨hn0, h⟩ := h
    obtain rfl : n = 0 := by simpa [ieq] using hn0
    refine ⟨_, .slice none 0 0, h, ?_, .data _ _ .nilsl⟩
    have := j0 hd (fun w => qW (len := 0) (cap := 0) (a := 0) (b := 0) (c1 (by simp) (by simp)) (c2 (by simp) (fun m hm => by cases hm; rfl)) (by omega) (by omega) w) (hsz := fun w => qL (hE.ty _ _ hei) w) (A := none) w
    simpa using this
   ·simp at h
  ·
   rename_i n et b off
   obtain ⟨c, hc, rfl⟩ := hv.ptr_inv
   rw [hmx.2 rfl]
   rw [kg hs] at hd
   split at h
   ·rename_i ei hei
    have hb := qW (P := P) (isS := false) (len := n) (cap := n) (a := 0) (b := n) (c1 (by simp) (by simp)) (c2 (by simp) (by simp)) (by omega) (by omega) w
    refine ⟨_, .slice (some ((blkA c).add off)) n n, h, ?_, .csl b off n c hc n (Nat.le_refl _)⟩
    unfold Instr.sliceAt
    simp only [Sem.run_bind, run_underlying hd w, Result.andThen_ok, qJ, hb, qL (hE.ty _ _ hei) w, Sem.run_pure, Nat.zero_mul, add_zero, ite_self, Nat.sub_zero]
   ·simp at h
  ·
   rename_i n et g off
   rw [hv.gp_inv, hmx.2 rfl]
   rw [kg hs] at hd
   split at h
   ·rename_i ei hei
    split at h
    ·rename_i cs hkd hcs
     replace h := qq h
     obtain ⟨hoff, h⟩ := h
     simp only [Bool.and_eq_true] at hoff
     have h0 := Nat.eq_of_beq_eq_true hoff.1.1
     have h1 := Nat.eq_of_beq_eq_true hoff.1.2
     have h2 := Nat.eq_of_beq_eq_true hoff.2
     subst h0
     replace h := Option.bind_eq_some_iff.1 h
     obtain ⟨l, hl, h⟩ := h
     obtain ⟨hlen, hget⟩ := Qw hl
     obtain ⟨_, hD, hat, _⟩ := hg g cs hcs
     have hb := qW (P := P) (isS := false) (len := n) (cap := n) (a := 0) (b := n) (c1 (by simp) (by simp)) (c2 (by simp) (by simp)) (by omega) (by omega) w
     refine ⟨_, .slice (some (blkA g)) l.length n, h, ?_, .data _ _ (.sl .str l (some (blkA g)) n (fun i j => .string ⟨(l.getD i []).toArray⟩) (by omega) (fun i hi => ⟨blkA g, rfl, hD, fun j hj => ?_⟩) (fun i j _ _ => rfl) (fun i hi j hj => ?_))⟩
     ·unfold Instr.sliceAt
      simp only [Sem.run_bind, run_underlying hd w, Result.andThen_ok, qJ, hb, qL (hE.ty _ _ hei) w, Sem.run_pure, Nat.zero_mul, add_zero, ite_self, Nat.sub_zero]
      rw [show n = l.length by omega]
     ·have hj0 : j = 0 := by simp [Kd.size] at hj; exact hj
      subst hj0
      obtain ⟨x, hx, _, hr⟩ := hat i (by omega)
      rw [hget i (by omega) hi] at hr
      cases hr
      simp only [Kd.size, Nat.mul_one, Nat.add_zero, hx, List.getD_eq_getElem?_getD, List.getElem?_eq_getElem hi, Option.getD_some]
     ·have hj0 : j = 0 := by simp [Kd.cells] at hj; exact hj
      subst hj0
      simp only [Kd.cells, List.getElem_cons_zero, List.getD_eq_getElem?_getD, List.getElem?_eq_getElem hi, Option.getD_some]
      exact .str _
    ·simp at h
   ·simp at h
  ·simp at h
end Go.Sx
namespace Go.Sx
open Go
open Go.RowKit (Below)
variable {P : Program} {E : Env} {base : Nat} {ok : Nat → Prop} {G : Gam} {w : GW} {M : Mem} {R : Type}
theorem qac (hE : EnvOK P E) {t ty : TypeId} {av : AV} {x : Value} (hv : VR G.D G.σ w av x) {ats : Array TypeId} (h0 : ats[0]? = some t) {args : Array Value} (h1 : args[0]? = some x) {k : AV → Option R} {r : R} (h : capK E t av k = some r) :
  ∃ v y, k v = some r ∧ (Builtin.cap_ ats ty args).run P w = .ok y w ∧ VR G.D G.σ w v y := by
 unfold capK at h
 split at h
 ·simp at h
 ·rename_i i hi
  obtain ⟨d, hd, hs, _⟩ := (hE.ty t i hi).und
  generalize hsh : i.sh = s at h hs
  split at h
  ·rw [j3 hs] at hd
   have := hv.nilsl_inv
   subst this
   exact ⟨_, _, h, by simp [Builtin.cap_, h0, h1, run_underlying hd w, goInt], .data _ _ (.int _ 0)⟩
  ·simp at h
theorem M0 (hE : EnvOK P E) (hm : MemOK base ok G w M) {t ty : TypeId} {av : AV} {x : Value} (hv : VR G.D G.σ w av x) {ats : Array TypeId} (h0 : ats[0]? = some t) {args : Array Value} (h1 : args[0]? = some x) {k : AV → Option R} {r : R} (h : lenK E M t av k = some r) :
  ∃ v y, k v = some r ∧ (Builtin.len_ ats ty args).run P w = .ok y w ∧ VR G.D G.σ w v y := by
 unfold lenK at h
 split at h
 ·simp at h
 ·rename_i i hi
  obtain ⟨d, hd, hs, _⟩ := (hE.ty t i hi).und
  generalize hsh : i.sh = s at h hs
  have sl : ∀ {et : TypeId} {A : Option Addr} {n c : Nat}, s = .sl et → x = .slice A n c → (Builtin.len_ ats ty args).run P w = .ok (.int .i64 n) w := by
   intro et A n c hs' hx
   rw [hs'] at hs
   rw [j3 hs] at hd
   simp [Builtin.len_, h0, h1, run_underlying hd w, hx, goInt]
  split at h
  ·rename_i p
   rw [gq hs] at hd
   rw [hv.str_inv] at h1
   rw [ilen_eq] at h
   exact ⟨_, _, h, by simp [Builtin.len_, h0, h1, run_underlying hd w, goInt, JX], .data _ _ (.int _ _)⟩
  ·obtain ⟨A, cap, _, rfl⟩ := hv.sl_inv.sl_inv
   rw [ilen_eq] at h
   exact ⟨_, _, h, sl rfl rfl, .data _ _ (.int _ _)⟩
  ·obtain ⟨A, rfl⟩ := hv.slc_inv.slc_inv
   rw [ilen_eq] at h
   exact ⟨_, _, h, sl rfl rfl, .data _ _ (.int _ _)⟩
  ·have := hv.nilsl_inv
   subst this
   exact ⟨_, _, h, sl rfl rfl, .data _ _ (.int _ _)⟩
  ·obtain ⟨c, cap, _, _, rfl⟩ := hv.csl_inv
   exact ⟨_, _, h, sl rfl rfl, .data _ _ (.int _ _)⟩
  ·obtain ⟨A, len, cap, sz, hc, rfl⟩ := hv.vec_inv
   split at h
   ·rename_i hb
    obtain ⟨rfl, _⟩ := QS hm (.inl hb) hc
    rw [ilen_eq] at h
    exact ⟨_, _, h, sl rfl rfl, .data _ _ (.int _ _)⟩
   ·rename_i hb
    obtain ⟨rfl, _⟩ := QS hm (.inr hb) hc
    rw [ilen_eq] at h
    exact ⟨_, _, h, sl rfl rfl, .data _ _ (.int _ _)⟩
   ·simp at h
  ·rename_i b lo hi'
   obtain ⟨A, len, cap, sz, B, cap', hc, hl0, hlh, hhl, hB, hcc, rfl⟩ := hv.vsl_inv
   have e : ∀ {α : Type} (l : List α), len = l.length → qh (ldrop (ltake l hi') lo) = ((hi' - lo).toNat : Int) := by
    intro α l hl
    simp only [ilen_eq, ldrop, ltake, List.length_drop, List.length_take]
    omega
   split at h
   ·rename_i hb
    obtain ⟨h2, _⟩ := QS hm (.inl hb) hc
    rw [e _ h2] at h
    exact ⟨_, _, h, sl rfl rfl, .data _ _ (.int _ _)⟩
   ·rename_i hb
    obtain ⟨h2, _⟩ := QS hm (.inr hb) hc
    rw [e _ h2] at h
    exact ⟨_, _, h, sl rfl rfl, .data _ _ (.int _ _)⟩
   ·simp at h
  ·rename_i b
   obtain ⟨c, hc, rfl⟩ := hv.mref_inv
   rw [JZ hs] at hd
   split at h
   ·rename_i hb
    obtain ⟨c', es, clock, e1, e2, e3, _⟩ := hm.blocks b _ hb
    rw [hc] at e1; cases e1
    rw [ilen_eq] at h
    refine ⟨_, _, h, ?_, .data _ _ (.int _ _)⟩
    simp [Builtin.len_, h0, h1, run_underlying hd w, goInt, getObj, Sem.run, e2, e3]
   ·simp at h
  ·simp at h
theorem MK (ns : List Int) : ∀ s : ByteArray, ns.foldl (fun r n => r.push (UInt8.ofNat n.toNat)) s = s ++ ⟨(KI ns).toArray⟩ := by
 induction ns with
 | nil => intro s; apply ByteArray.ext; simp [KI]
 | cons n r ih =>
   intro s
   rw [List.foldl_cons, ih]
   apply ByteArray.ext
   simp [KI]
theorem RZ (hE : EnvOK P E) (hm : MemOK base ok G w M) {src dst : TypeId} {av : AV} {x : Value} (hv : VR G.D G.σ w av x) {k : AV → Option R} {r : R} (h : YG E M src dst av k = some r) :
  ∃ v y, k v = some r ∧ (convert src dst x).run P w = .ok y w ∧ VR G.D G.σ w v y := by
 unfold YG at h
 split at h
 ·rename_i j i hj hi
  obtain ⟨d, hd, hs, _⟩ := (hE.ty dst i hi).und
  obtain ⟨d', hd', hs', _⟩ := (hE.ty src j hj).und
  generalize hsh : i.sh = s at h hs
  split at h
  ·rw [hv.int_inv]
   rw [vb hs] at hd
   exact ⟨_, _, h, by simp [convert, run_underlying hd w, run_underlying hd' w, Conv.intToInt], .data _ _ (.int _ _)⟩
  ·rw [hv.str_inv]
   rw [gq hs] at hd
   exact ⟨_, _, h, by simp [convert, run_underlying hd w, run_underlying hd' w], .data _ _ (.str _)⟩
  ·rename_i b
   obtain ⟨A, len, cap, sz, hc, rfl⟩ := hv.vec_inv
   rw [gq hs] at hd
   generalize hsh' : j.sh = s' at h hs'
   split at h
   ·rename_i e
    rw [j3 hs'] at hd'
    have go : ∀ {l : List Int}, E.t e = E.t e → (∃ q, E.t e = some q ∧ q.sh = .int .u8) → (M[b]? = some (Blk.vec (.int .u8) l) ∨ M[b]? = some (Blk.fvec (.int .u8) l)) → cnd (qit l) (k (.str (KI l))) none = some r →
      ∃ v y, k v = some r ∧ (convert src dst (.slice (A.map blkA) len cap)).run P w = .ok y w ∧ VR G.D G.σ w v y := by
     intro l _ he hb h
     obtain ⟨q, hq, hq'⟩ := he
     obtain ⟨de, hde, hse, _⟩ := (hE.ty e q hq).und
     rw [hq'] at hse
     rw [vb hse] at hde
     replace h := qA h
     obtain ⟨_, h⟩ := h
     obtain ⟨hlen, hsz, _⟩ := QS hm hb hc
     refine ⟨_, .string ⟨(KI l).toArray⟩, h, ?_, .data _ _ (.str _)⟩
     rw [run_convert_bytes_string w src dst e _ _ _ hd' hde hd]
     cases A with
     | none =>
       have hl : l = [] := by
        rcases hb with hb | hb
        ·obtain ⟨A, cap'', e1, _, e3, _⟩ := hm.blocks b _ hb; rw [hc] at e1; cases e1; exact (e3 rfl).1
        ·obtain ⟨A, cap'', e1, e2⟩ := hm.blocks b _ hb; rw [hc] at e1; cases e1
         cases l with
         | nil => rfl
         | cons q qs =>
           generalize hx : Value.slice (Option.map blkA none) (q :: qs).length cap = xx at e2
           cases e2 with
           | sl _ _ A'' _ cv hcap hA hone hr =>
             obtain ⟨a, ha', _⟩ := hA 0 (by simp)
             subst ha'
             injection hx with hx1
             simp at hx1
       subst hl
       simp [Conv.bytesToString, KI]
       rfl
     | some c =>
       obtain ⟨_, _, h3⟩ := At.of_vec hm hb hc
       have hcells : (loadCells (blkA c) len).run P w = .ok (l.map (Value.int .u8)).toArray w := by
        have := run_loadCells_list (P := P) w (blkA c) (l.map (Value.int .u8)) (fun q v hv => by
         rw [List.getElem?_map] at hv
         cases hq : l[q]? with
         | none => simp [hq] at hv
         | some n =>
           obtain ⟨hlt, hn⟩ := List.getElem?_eq_some_iff.1 hq
           simp [hq] at hv
           obtain ⟨x, hx, _, hr⟩ := h3 q hlt 0 (by simp [Kd.cells])
           rw [add_zero] at hx
           simp only [Kd.cells, List.getElem_cons_zero] at hr
           cases hr
           rw [← hv, ← hn]
           simpa [Kd.size] using hx)
        rw [hlen]
        simpa using this
       rw [Option.map_some, run_bytesToString w _ _ _ l hcells, MK]
       congr 2
    revert h
    generalize hsho : (E.t e).map TyI.sh = o
    generalize hbo : M[b]? = o'
    intro h
    have he : ∀ {kk : IntKind}, o = some (Sh.int kk) → ∃ q, E.t e = some q ∧ q.sh = .int kk := by
     intro kk ho
     rw [ho] at hsho
     cases hq : E.t e with
     | none => simp [hq] at hsho
     | some q => simp [hq] at hsho; exact ⟨q, rfl, hsho⟩
    split at h
    ·exact go rfl (he rfl) (.inl hbo) h
    ·exact go rfl (he rfl) (.inr hbo) h
    ·simp at h
   ·simp at h
  ·simp at h
 ·simp at h
end Go.Sx
