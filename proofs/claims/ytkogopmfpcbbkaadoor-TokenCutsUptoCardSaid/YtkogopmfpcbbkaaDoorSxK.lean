/-
  SX, part K: the kinds of data that occur, their Lean types, abstract values and memory.
-/
import Derived.Orders
import Derived.ScopeJumps
import Derived.Below
import Derived.KernelRfl
set_option linter.unusedVariables false
set_option linter.unusedSimpArgs false
namespace Go.Sx
open Go

structure Place where
  kind : Int
  id : Int
  deriving DecidableEq
structure Seen where
  item : Int
  at_ : Place
  deriving DecidableEq
structure Exits where
  e0 : Int
  e1 : Int
  e2 : Int
  e3 : Int
  deriving DecidableEq
structure Desc where
  exits : List Exits
  players : List Int
  coins : List Int
  items : List Int
  boxes : List Bool
  room : Int
  player : Int
  box : Int
  deriving DecidableEq
structure World where
  desc : Desc
  at_ : List Int
  coins : List Int
  where_ : List Place
  deriving DecidableEq
structure Key where
  kind : Int
  id : Int
  deriving DecidableEq
structure Write where
  kind : Int
  id : Int
  num : Int
  place : Place
  deriving DecidableEq
structure Cmd where
  kind : Int
  dir : Int
  item : Int
  box : Int
  who : Int
  gives : List Int
  pay : Int
  wants : List Int
  fee : Int
  deriving DecidableEq
structure Reply where
  err : Int
  kind : Int
  room : Int
  players : List Int
  items : List Seen
  coins : Int
  deriving DecidableEq
abbrev Str := List UInt8
structure Sess where
  player : Int
  lines : List Str
  next : Int
  phase : Int
  step : Int
  cmd : Cmd
  foot : List Key
  has : Int
  plan : List Write
  reply : Reply
  stale : Bool
  tries : Int
  ver : Int
  room : Int
  copies : List Place
  heads : List Int
  purse : Int
  deriving DecidableEq
structure Call where
  player : Int
  cmd : Cmd
  frm : Int
  to : Int
  reply : Reply
  deriving DecidableEq
structure Script where
  player : Int
  lines : List Str
  deriving DecidableEq

/-- The named structs. -/
inductive SN where
  | place | seen | exits | desc | world | key | write | cmd | reply | sess | call | script
  deriving DecidableEq

@[reducible] def SN.T : SN → Type
  | .place => Place | .seen => Seen | .exits => Exits | .desc => Desc | .world => World | .key => Key | .write => Write
  | .cmd => Cmd | .reply => Reply | .sess => Sess | .call => Call | .script => Script

/-- The kinds of data. -/
inductive Kd where
  | int (k : IntKind)
  | bool
  | str
  | sl (e : Kd)
  | st (s : SN)
  deriving DecidableEq

@[reducible] def Kd.T : Kd → Type
  | .int _ => Int
  | .bool => Bool
  | .str => Str
  | .sl e => List e.T
  | .st s => s.T

/-- Abstract values. -/
inductive AV where
  | junk
  | undef
  | int (k : IntKind) (n : Int)
  | bool (b : Bool)
  | str (s : Str)
  | sl (e : Kd) (l : List e.T)
  | slc (e : Kd) (l : List e.T)
  | nilsl | nilp | nilf | nilm | nili | err
  | ptr (b off : Nat)
  | pidx (b off n : Nat) (i : Int)
  | dref (cs : List AV) (off : Nat)
  | didx (cs : List AV) (off n : Nat) (i : Int)
  | vec (b : Nat)
  | vsl (b : Nat) (lo hi : Int)
  | vref (b : Nat) (i : Int) (off : Nat)
  | csl (b off len : Nat)
  | agg (cs : List AV)
  | tup (cs : List AV)
  | func (f : FuncId) (first cap : List AV)
  | mref (b : Nat)
  | gp (g off : Nat)
  deriving Inhabited

def SN.size : SN → Nat
  | .place => 2 | .seen => 3 | .exits => 4 | .desc => 8 | .world => 11 | .key => 2 | .write => 5
  | .cmd => 9 | .reply => 6 | .sess => 30 | .call => 18 | .script => 2

def Kd.size : Kd → Nat
  | .st s => s.size
  | _ => 1

def i64 (n : Int) : AV := .int .i64 n
def ints (l : List Int) : AV := .sl (.int .i64) l
def Place.cells (p : Place) : List AV := [.int .i64 p.kind, .int .i64 p.id]
def Seen.cells (p : Seen) : List AV := [.int .i64 p.item, .int .i64 p.at_.kind, .int .i64 p.at_.id]
def Exits.cells (p : Exits) : List AV := [.int .i64 p.e0, .int .i64 p.e1, .int .i64 p.e2, .int .i64 p.e3]
def Desc.cells (d : Desc) : List AV := [.sl (.st .exits) d.exits, .sl (.int .i64) d.players, .sl (.int .i64) d.coins, .sl (.int .i64) d.items, .sl .bool d.boxes, .int .i64 d.room, .int .i64 d.player, .int .i64 d.box]
def World.cells (w : World) : List AV := [.sl (.st .exits) w.desc.exits, .sl (.int .i64) w.desc.players, .sl (.int .i64) w.desc.coins, .sl (.int .i64) w.desc.items, .sl .bool w.desc.boxes, .int .i64 w.desc.room, .int .i64 w.desc.player, .int .i64 w.desc.box, .sl (.int .i64) w.at_, .sl (.int .i64) w.coins, .sl (.st .place) w.where_]
def Key.cells (p : Key) : List AV := [.int .i64 p.kind, .int .i64 p.id]
def Write.cells (p : Write) : List AV := [.int .i64 p.kind, .int .i64 p.id, .int .i64 p.num, .int .i64 p.place.kind, .int .i64 p.place.id]
def Cmd.cells (c : Cmd) : List AV := [.int .i64 c.kind, .int .i64 c.dir, .int .i64 c.item, .int .i64 c.box, .int .i64 c.who, .sl (.int .i64) c.gives, .int .i64 c.pay, .sl (.int .i64) c.wants, .int .i64 c.fee]
def Reply.cells (r : Reply) : List AV := [.int .i64 r.err, .int .i64 r.kind, .int .i64 r.room, .sl (.int .i64) r.players, .sl (.st .seen) r.items, .int .i64 r.coins]
def Sess.cells (s : Sess) : List AV := [.int .i64 s.player, .sl .str s.lines, .int .i64 s.next, .int .i64 s.phase, .int .i64 s.step,
  .int .i64 s.cmd.kind, .int .i64 s.cmd.dir, .int .i64 s.cmd.item, .int .i64 s.cmd.box, .int .i64 s.cmd.who, .sl (.int .i64) s.cmd.gives, .int .i64 s.cmd.pay, .sl (.int .i64) s.cmd.wants, .int .i64 s.cmd.fee,
  .sl (.st .key) s.foot, .int .i64 s.has, .sl (.st .write) s.plan,
  .int .i64 s.reply.err, .int .i64 s.reply.kind, .int .i64 s.reply.room, .sl (.int .i64) s.reply.players, .sl (.st .seen) s.reply.items, .int .i64 s.reply.coins,
  .bool s.stale, .int .i64 s.tries, .int .i64 s.ver, .int .i64 s.room, .sl (.st .place) s.copies, .sl (.int .i64) s.heads, .int .i64 s.purse]
def Call.cells (c : Call) : List AV := [.int .i64 c.player,
  .int .i64 c.cmd.kind, .int .i64 c.cmd.dir, .int .i64 c.cmd.item, .int .i64 c.cmd.box, .int .i64 c.cmd.who, .sl (.int .i64) c.cmd.gives, .int .i64 c.cmd.pay, .sl (.int .i64) c.cmd.wants, .int .i64 c.cmd.fee,
  .int .i64 c.frm, .int .i64 c.to,
  .int .i64 c.reply.err, .int .i64 c.reply.kind, .int .i64 c.reply.room, .sl (.int .i64) c.reply.players, .sl (.st .seen) c.reply.items, .int .i64 c.reply.coins]
def Script.cells (s : Script) : List AV := [.int .i64 s.player, .sl .str s.lines]

def SN.cells : (s : SN) → s.T → List AV
  | .place, x => Place.cells x | .seen, x => Seen.cells x | .exits, x => Exits.cells x | .desc, x => Desc.cells x | .world, x => World.cells x
  | .key, x => Key.cells x | .write, x => Write.cells x | .cmd, x => Cmd.cells x | .reply, x => Reply.cells x | .sess, x => Sess.cells x
  | .call, x => Call.cells x | .script, x => Script.cells x

/-- The cells of a value of a kind. -/
def Kd.cells : (k : Kd) → k.T → List AV
  | .int k, n => [.int k n]
  | .bool, b => [.bool b]
  | .str, s => [.str s]
  | .sl e, l => [.sl e l]
  | .st s, x => s.cells x

theorem SN.cells_length (s : SN) (x : s.T) : (s.cells x).length = s.size := by cases s <;> rfl
theorem Kd.cells_length (k : Kd) (x : k.T) : (k.cells x).length = k.size := by
  cases k <;> first | rfl | exact SN.cells_length _ _

/-- A value of a kind, as an abstract value. -/
def Kd.of : (k : Kd) → k.T → AV
  | .int k, n => .int k n
  | .bool, b => .bool b
  | .str, s => .str s
  | .sl e, l => .sl e l
  | .st s, x => .agg (s.cells x)

def castL {e e' : Kd} (h : e' = e) (l : List e'.T) : List e.T := h ▸ l

/-- One cell read as an integer, a bool, a string, a slice. -/
def AV.asInt (k : IntKind) : AV → Option Int
  | .int k' n => if k' = k then some n else none
  | _ => none
def AV.asBool : AV → Option Bool
  | .bool b => some b
  | _ => none
def AV.asStr : AV → Option Str
  | .str s => some s
  | _ => none
def AV.asSl (e : Kd) : AV → Option (List e.T)
  | .sl e' l => if h : e' = e then some (castL h l) else none
  | .slc e' l => if h : e' = e then some (castL h l) else none
  | .nilsl => some []
  | _ => none

def Place.of : List AV → Option Place
  | [a, b] => (a.asInt .i64).bind fun a => (b.asInt .i64).bind fun b => some ⟨a, b⟩
  | _ => none
def Seen.of : List AV → Option Seen
  | [a, b, c] => (a.asInt .i64).bind fun a => (b.asInt .i64).bind fun b => (c.asInt .i64).bind fun c => some ⟨a, ⟨b, c⟩⟩
  | _ => none
def Exits.of : List AV → Option Exits
  | [a, b, c, d] => (a.asInt .i64).bind fun a => (b.asInt .i64).bind fun b => (c.asInt .i64).bind fun c => (d.asInt .i64).bind fun d => some ⟨a, b, c, d⟩
  | _ => none
def Desc.of : List AV → Option Desc
  | [a, b, c, d, e, f, g, h] => (a.asSl (.st .exits)).bind fun a => (b.asSl (.int .i64)).bind fun b => (c.asSl (.int .i64)).bind fun c => (d.asSl (.int .i64)).bind fun d => (e.asSl .bool).bind fun e => (f.asInt .i64).bind fun f => (g.asInt .i64).bind fun g => (h.asInt .i64).bind fun h => some ⟨a, b, c, d, e, f, g, h⟩
  | _ => none
def World.of : List AV → Option World
  | a :: b :: c :: d :: e :: f :: g :: h :: [i, j, l] => (Desc.of [a, b, c, d, e, f, g, h]).bind fun d => (i.asSl (.int .i64)).bind fun i => (j.asSl (.int .i64)).bind fun j => (l.asSl (.st .place)).bind fun l => some ⟨d, i, j, l⟩
  | _ => none
def Key.of : List AV → Option Key
  | [a, b] => (a.asInt .i64).bind fun a => (b.asInt .i64).bind fun b => some ⟨a, b⟩
  | _ => none
def Write.of : List AV → Option Write
  | [a, b, c, d, e] => (a.asInt .i64).bind fun a => (b.asInt .i64).bind fun b => (c.asInt .i64).bind fun c => (d.asInt .i64).bind fun d => (e.asInt .i64).bind fun e => some ⟨a, b, c, ⟨d, e⟩⟩
  | _ => none
def Cmd.of : List AV → Option Cmd
  | [a, b, c, d, e, f, g, h, i] => (a.asInt .i64).bind fun a => (b.asInt .i64).bind fun b => (c.asInt .i64).bind fun c => (d.asInt .i64).bind fun d => (e.asInt .i64).bind fun e => (f.asSl (.int .i64)).bind fun f => (g.asInt .i64).bind fun g => (h.asSl (.int .i64)).bind fun h => (i.asInt .i64).bind fun i => some ⟨a, b, c, d, e, f, g, h, i⟩
  | _ => none
def Reply.of : List AV → Option Reply
  | [a, b, c, d, e, f] => (a.asInt .i64).bind fun a => (b.asInt .i64).bind fun b => (c.asInt .i64).bind fun c => (d.asSl (.int .i64)).bind fun d => (e.asSl (.st .seen)).bind fun e => (f.asInt .i64).bind fun f => some ⟨a, b, c, d, e, f⟩
  | _ => none
def Sess.of : List AV → Option Sess
  | a :: b :: c :: d :: e :: f1 :: f2 :: f3 :: f4 :: f5 :: f6 :: f7 :: f8 :: f9 :: g :: h :: i :: r1 :: r2 :: r3 :: r4 :: r5 :: r6 :: [j, l, m, n, o, p, q] =>
    (a.asInt .i64).bind fun a => (b.asSl .str).bind fun b => (c.asInt .i64).bind fun c => (d.asInt .i64).bind fun d => (e.asInt .i64).bind fun e =>
    (Cmd.of [f1, f2, f3, f4, f5, f6, f7, f8, f9]).bind fun f => (g.asSl (.st .key)).bind fun g => (h.asInt .i64).bind fun h => (i.asSl (.st .write)).bind fun i =>
    (Reply.of [r1, r2, r3, r4, r5, r6]).bind fun r => j.asBool.bind fun j => (l.asInt .i64).bind fun l => (m.asInt .i64).bind fun m => (n.asInt .i64).bind fun n =>
    (o.asSl (.st .place)).bind fun o => (p.asSl (.int .i64)).bind fun p => (q.asInt .i64).bind fun q => some ⟨a, b, c, d, e, f, g, h, i, r, j, l, m, n, o, p, q⟩
  | _ => none
def Call.of : List AV → Option Call
  | a :: f1 :: f2 :: f3 :: f4 :: f5 :: f6 :: f7 :: f8 :: f9 :: g :: h :: [r1, r2, r3, r4, r5, r6] =>
    (a.asInt .i64).bind fun a => (Cmd.of [f1, f2, f3, f4, f5, f6, f7, f8, f9]).bind fun f => (g.asInt .i64).bind fun g => (h.asInt .i64).bind fun h =>
    (Reply.of [r1, r2, r3, r4, r5, r6]).bind fun r => some ⟨a, f, g, h, r⟩
  | _ => none
def Script.of : List AV → Option Script
  | [a, b] => (a.asInt .i64).bind fun a => (b.asSl .str).bind fun b => some ⟨a, b⟩
  | _ => none
def SN.of : (s : SN) → List AV → Option s.T
  | .place, x => Place.of x | .seen, x => Seen.of x | .exits, x => Exits.of x | .desc, x => Desc.of x | .world, x => World.of x
  | .key, x => Key.of x | .write, x => Write.of x | .cmd, x => Cmd.of x | .reply, x => Reply.of x | .sess, x => Sess.of x
  | .call, x => Call.of x | .script, x => Script.of x

/-- A data value read as of a kind. -/
def AV.as : (k : Kd) → AV → Option k.T
  | .int k, v => v.asInt k
  | .bool, v => v.asBool
  | .str, v => v.asStr
  | .sl e, v => v.asSl e
  | .st s, .agg cs => s.of cs
  | _, _ => none
/-- The cells of one value, read as of a kind. -/
def Kd.ofCells : (k : Kd) → List AV → Option k.T
  | .st s, cs => s.of cs
  | k, [v] => v.as k
  | _, _ => none

def zPlace : Place := ⟨0, 0⟩
def zCmd : Cmd := ⟨0, 0, 0, 0, 0, [], 0, [], 0⟩
def zReply : Reply := ⟨0, 0, 0, [], [], 0⟩
def SN.zero : (s : SN) → s.T
  | .place => zPlace | .seen => ⟨0, zPlace⟩ | .exits => ⟨0, 0, 0, 0⟩ | .desc => ⟨[], [], [], [], [], 0, 0, 0⟩ | .world => ⟨⟨[], [], [], [], [], 0, 0, 0⟩, [], [], []⟩
  | .key => ⟨0, 0⟩ | .write => ⟨0, 0, 0, zPlace⟩ | .cmd => zCmd | .reply => zReply
  | .sess => ⟨0, [], 0, 0, 0, zCmd, [], 0, [], zReply, false, 0, 0, 0, [], [], 0⟩
  | .call => ⟨0, zCmd, 0, 0, zReply⟩ | .script => ⟨0, []⟩
def Kd.zero : (k : Kd) → k.T
  | .int _ => (0 : Int)
  | .bool => false
  | .str => ([] : Str)
  | .sl e => ([] : List e.T)
  | .st s => s.zero
def Kd.beq : (k : Kd) → k.T → k.T → Bool
  | .int _, (a : Int), b => decide (a = b)
  | .bool, (a : Bool), b => decide (a = b)
  | .str, (a : Str), b => decide (a = b)
  | .st .place, (a : Place), b => decide (a = b)
  | .st .key, (a : Key), b => decide (a = b)
  | _, _, _ => false

/-- Abstract blocks of the call's own memory. -/
inductive Blk where
  | dead
  | cells (cs : List AV)
  | vec (e : Kd) (l : List e.T)
  | fvec (e : Kd) (l : List e.T)
  | map (kk kv : Kd) (l : List (kk.T × kv.T))
  | amap (ks vs : List AV)
  deriving Inhabited

abbrev Mem := List Blk
/-- A state: temporaries, memory, the slices that a frame which waits has in its temporaries, how many blocks there were when this frame was entered. -/
structure St where
  T : List AV
  M : Mem
  lock : List Nat
  lo : Nat

end Go.Sx
