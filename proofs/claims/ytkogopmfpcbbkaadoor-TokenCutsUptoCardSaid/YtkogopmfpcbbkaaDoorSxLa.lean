/-
  SX: what a law is handed: data, of its kinds.
-/
import Derived.Test.YtkogopmfpcbbkaaDoorSxFn
import Derived.SizedLaws
import Derived.ChangeArms
set_option linter.unusedVariables false
set_option linter.unusedSimpArgs false
namespace Go.Sx
open Go
open Go.RowKit (Below)

def SN.kds : SN → List Kd
  | .place => [.int .i64, .int .i64]
  | .seen => [.int .i64, .int .i64, .int .i64]
  | .exits => [.int .i64, .int .i64, .int .i64, .int .i64]
  | .desc => [.sl (.st .exits), .sl (.int .i64), .sl (.int .i64), .sl (.int .i64), .sl .bool, .int .i64, .int .i64, .int .i64]
  | .world => [.sl (.st .exits), .sl (.int .i64), .sl (.int .i64), .sl (.int .i64), .sl .bool, .int .i64, .int .i64, .int .i64, .sl (.int .i64), .sl (.int .i64), .sl (.st .place)]
  | .key => [.int .i64, .int .i64]
  | .write => [.int .i64, .int .i64, .int .i64, .int .i64, .int .i64]
  | .cmd => [.int .i64, .int .i64, .int .i64, .int .i64, .int .i64, .sl (.int .i64), .int .i64, .sl (.int .i64), .int .i64]
  | .reply => [.int .i64, .int .i64, .int .i64, .sl (.int .i64), .sl (.st .seen), .int .i64]
  | .sess => [.int .i64, .sl .str, .int .i64, .int .i64, .int .i64, .int .i64, .int .i64, .int .i64, .int .i64, .int .i64, .sl (.int .i64), .int .i64, .sl (.int .i64), .int .i64,
      .sl (.st .key), .int .i64, .sl (.st .write), .int .i64, .int .i64, .int .i64, .sl (.int .i64), .sl (.st .seen), .int .i64, .bool, .int .i64, .int .i64, .int .i64, .sl (.st .place), .sl (.int .i64), .int .i64]
  | .call => [.int .i64, .int .i64, .int .i64, .int .i64, .int .i64, .int .i64, .sl (.int .i64), .int .i64, .sl (.int .i64), .int .i64, .int .i64, .int .i64, .int .i64, .int .i64, .int .i64, .sl (.int .i64), .sl (.st .seen), .int .i64]
  | .script => [.int .i64, .sl .str]
def SN.bytes : SN → Nat
  | .place => 16 | .seen => 24 | .exits => 32 | .desc => 144 | .world => 216 | .key => 16 | .write => 40 | .cmd => 104 | .reply => 80 | .sess => 392 | .call => 208 | .script => 32
def Kd.bytes : Kd → Nat
  | .int k => k.bits / 8
  | .bool => 1
  | .str => 16
  | .sl _ => 24
  | .st s => s.bytes
@[reducible] def Lf : List Kd → Type
  | [] => Unit
  | k :: r => k.T × Lf r
def cellsL : (ks : List Kd) → Lf ks → List AV
  | [], _ => []
  | k :: r, x => k.of x.1 :: cellsL r x.2
def SN.mk : (s : SN) → Lf s.kds → s.T
  | .place, x => (⟨x.1, x.2.1⟩ : Place)
  | .seen, x => (⟨x.1, ⟨x.2.1, x.2.2.1⟩⟩ : Seen)
  | .exits, x => (⟨x.1, x.2.1, x.2.2.1, x.2.2.2.1⟩ : Exits)
  | .desc, x => (⟨x.1, x.2.1, x.2.2.1, x.2.2.2.1, x.2.2.2.2.1, x.2.2.2.2.2.1, x.2.2.2.2.2.2.1, x.2.2.2.2.2.2.2.1⟩ : Desc)
  | .world, (a, b, c, d, e, f, g, h, i, j, l, _) => (⟨⟨a, b, c, d, e, f, g, h⟩, i, j, l⟩ : Sx.World)
  | .key, x => (⟨x.1, x.2.1⟩ : Key)
  | .write, (a, b, c, d, e, _) => (⟨a, b, c, ⟨d, e⟩⟩ : Write)
  | .cmd, (a, b, c, d, e, f, g, h, i, _) => (⟨a, b, c, d, e, f, g, h, i⟩ : Cmd)
  | .reply, (a, b, c, d, e, f, _) => (⟨a, b, c, d, e, f⟩ : Reply)
  | .sess, (a, b, c, d, e, f1, f2, f3, f4, f5, f6, f7, f8, f9, g, h, i, r1, r2, r3, r4, r5, r6, j, l, m, n, o, p, q, _) => (⟨a, b, c, d, e, ⟨f1, f2, f3, f4, f5, f6, f7, f8, f9⟩, g, h, i, ⟨r1, r2, r3, r4, r5, r6⟩, j, l, m, n, o, p, q⟩ : Sess)
  | .call, (a, f1, f2, f3, f4, f5, f6, f7, f8, f9, g, h, r1, r2, r3, r4, r5, r6, _) => (⟨a, ⟨f1, f2, f3, f4, f5, f6, f7, f8, f9⟩, g, h, ⟨r1, r2, r3, r4, r5, r6⟩⟩ : Sx.Call)
  | .script, x => (⟨x.1, x.2.1⟩ : Script)
def SN.flds : (s : SN) → s.T → Lf s.kds
  | .place, (y : Place) => (y.kind, y.id, ())
  | .seen, (y : Seen) => (y.item, y.at_.kind, y.at_.id, ())
  | .exits, (y : Exits) => (y.e0, y.e1, y.e2, y.e3, ())
  | .desc, (y : Desc) => (y.exits, y.players, y.coins, y.items, y.boxes, y.room, y.player, y.box, ())
  | .world, (y : Sx.World) => (y.desc.exits, y.desc.players, y.desc.coins, y.desc.items, y.desc.boxes, y.desc.room, y.desc.player, y.desc.box, y.at_, y.coins, y.where_, ())
  | .key, (y : Key) => (y.kind, y.id, ())
  | .write, (y : Write) => (y.kind, y.id, y.num, y.place.kind, y.place.id, ())
  | .cmd, (y : Cmd) => (y.kind, y.dir, y.item, y.box, y.who, y.gives, y.pay, y.wants, y.fee, ())
  | .reply, (y : Reply) => (y.err, y.kind, y.room, y.players, y.items, y.coins, ())
  | .sess, (s : Sess) => (s.player, s.lines, s.next, s.phase, s.step, s.cmd.kind, s.cmd.dir, s.cmd.item, s.cmd.box, s.cmd.who, s.cmd.gives, s.cmd.pay, s.cmd.wants, s.cmd.fee, s.foot, s.has, s.plan,
      s.reply.err, s.reply.kind, s.reply.room, s.reply.players, s.reply.items, s.reply.coins, s.stale, s.tries, s.ver, s.room, s.copies, s.heads, s.purse, ())
  | .call, (c : Sx.Call) => (c.player, c.cmd.kind, c.cmd.dir, c.cmd.item, c.cmd.box, c.cmd.who, c.cmd.gives, c.cmd.pay, c.cmd.wants, c.cmd.fee, c.frm, c.to, c.reply.err, c.reply.kind, c.reply.room, c.reply.players, c.reply.items, c.reply.coins, ())
  | .script, (y : Script) => (y.player, y.lines, ())
theorem SN.cells_mk (s : SN) (x : Lf s.kds) : s.cells (s.mk x) = cellsL s.kds x := by cases s <;> rfl
theorem SN.flds_mk (s : SN) (x : Lf s.kds) : s.flds (s.mk x) = x := by cases s <;> rfl

/-- A kind, cell by cell. -/
def Kd.kdl : Kd → List Kd
  | .st s => s.kds
  | k => [k]
def Kd.mk : (k : Kd) → Lf k.kdl → k.T
  | .st s, x => s.mk x
  | .int _, x => x.1
  | .bool, x => x.1
  | .str, x => x.1
  | .sl _, x => x.1
def Kd.flds : (k : Kd) → k.T → Lf k.kdl
  | .st s, y => s.flds y
  | .int _, y => (y, ())
  | .bool, y => (y, ())
  | .str, y => (y, ())
  | .sl _, y => (y, ())
theorem Kd.cells_mk (k : Kd) (x : Lf k.kdl) : k.cells (k.mk x) = cellsL k.kdl x := by
  cases k with
  | st s => exact SN.cells_mk s x
  | _ => rfl
theorem Kd.flds_mk (k : Kd) (x : Lf k.kdl) : k.flds (k.mk x) = x := by
  cases k with
  | st s => exact SN.flds_mk s x
  | _ => rfl

/-- Data as it may come: numbers of their kinds, no slice and no string greater than may lie in memory. -/
def wfL (p : (k : Kd) → k.T → Prop) : (ks : List Kd) → Lf ks → Prop
  | [], _ => True
  | k :: r, x => p k x.1 ∧ wfL p r x.2
def wf : Nat → (k : Kd) → k.T → Prop
  | 0, _, _ => True
  | _ + 1, .int k, n => k.min ≤ n ∧ n ≤ k.max
  | _ + 1, .str, s => s.length ≤ reachBytes
  | n + 1, .sl e, l => l.length * e.bytes ≤ reachBytes ∧ ∀ y ∈ l, wfL (wf n) e.kdl (e.flds y)
  | _ + 1, _, _ => True

/-- Does a type consist of these kinds, one behind the other? What is left of them. -/
def lf (P : Program) : Nat → TypeId → List Kd → Option (List Kd)
  | 0, _, _ => none
  | n + 1, t, ks => match P.underlying t with
    | some (.struct fs) => match fs.toList.foldlM (fun (st : Nat × List Kd) f => bif Nat.beq f.offset st.1 then (lf P n f.type st.2).map (fun r => (st.1 + P.cellsOf f.type, r)) else none) (0, ks) with
      | some st => bif Nat.beq st.1 (P.cellsOf t) then some st.2 else none
      | none => none
    | some (.array m e) => bif Nat.beq (P.cellsOf t) (m * P.cellsOf e) then (List.range m).foldlM (fun r _ => lf P n e r) ks else none
    | some (.int k) => match ks with
      | .int k' :: r => bif decide (k' = k) then some r else none
      | _ => none
    | some .bool => match ks with
      | .bool :: r => some r
      | _ => none
    | some .string => match ks with
      | .str :: r => some r
      | _ => none
    | some (.slice et) => match ks with
      | .sl e :: r => bif Nat.beq (P.cellsOf et) e.size && Nat.beq (P.bytesOf et) e.bytes && (match lf P n et e.kdl with | some [] => true | _ => false) then some r else none
      | _ => none
    | _ => none

variable {P : Program} {H : Type} {enc : TypeId × Value → H} {w : GW} {spare : Nat → Bool} {held : Bool}

theorem cellsL_len : ∀ (ks : List Kd) (x : Lf ks), (cellsL ks x).length = ks.length
  | [], _ => rfl
  | k :: r, x => by simp [cellsL, cellsL_len r x.2]
/-- Two rows, one behind the other. -/
def Lf.app : (ks : List Kd) → {ls : List Kd} → Lf ks → Lf ls → Lf (ks ++ ls)
  | [], _, _, y => y
  | _ :: r, _, x, y => (x.1, Lf.app r x.2 y)
theorem cellsL_app : ∀ (ks : List Kd) {ls : List Kd} (x : Lf ks) (y : Lf ls), cellsL (ks ++ ls) (Lf.app ks x y) = cellsL ks x ++ cellsL ls y
  | [], _, _, _ => rfl
  | k :: r, ls, x, y => by
    show k.of x.1 :: cellsL (r ++ ls) (Lf.app r x.2 y) = _
    rw [cellsL_app r x.2 y]; rfl
theorem wfL_app {p : (k : Kd) → k.T → Prop} : ∀ (ks : List Kd) {ls : List Kd} (x : Lf ks) (y : Lf ls), wfL p ks x → wfL p ls y → wfL p (ks ++ ls) (Lf.app ks x y)
  | [], _, _, _, _, h => h
  | _ :: r, _, x, y, h1, h2 => ⟨h1.1, wfL_app r x.2 y h1.2 h2⟩

/-- Blocks that are there. -/
def There (w : GW) : Nat → Prop := fun c => c < w.heap.size

theorem LR.nil {R : AV → Value → Prop} : LR R [] [] := ⟨rfl, fun i h => by simp at h⟩
theorem LR.one {R : AV → Value → Prop} {v : AV} {x : Value} (h : R v x) (ho : x.oneCell' = true) : LR R [v] [x] :=
  ⟨rfl, fun i h1 h2 => by have : i = 0 := by simp at h1; exact h1
                          subst this; exact ⟨ho, h⟩⟩
end Go.Sx
