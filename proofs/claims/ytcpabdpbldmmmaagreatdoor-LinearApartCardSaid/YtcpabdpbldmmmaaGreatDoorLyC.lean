/-
  What the program's own variables hold.
-/
import Derived.Test.YtcpabdpbldmmmaaGreatDoorSxBaseD
set_option linter.unusedVariables false
set_option linter.unusedSimpArgs false
namespace Go.Sx
open Go
def GL : List (Nat × List AV) := [(0, [.str [], .str [109, 111, 118, 101], .str [112, 117, 115, 104], .str [103, 101, 116], .str [100, 114, 111, 112], .str [112, 117, 116], .str [116, 97, 107, 101], .str [103, 105, 118, 101], .str [116, 114, 97, 100, 101], .str [108, 111, 111, 107], .str [111, 119, 110]]), (1, [.str [110, 111, 114, 116, 104], .str [101, 97, 115, 116], .str [115, 111, 117, 116, 104], .str [119, 101, 115, 116]])]
@[reducible] def wBP : BP := .cells [.sl (.st .exits), .sl (.int .i64), .sl (.int .i64), .sl (.int .i64), .sl .bool, .int .i64, .int .i64, .int .i64, .sl (.int .i64), .sl (.int .i64), .sl (.st .place)]
abbrev WTy : Type := ((List Sx.Exits) × ((List Int) × ((List Int) × ((List Int) × ((List Bool) × (Int × (Int × (Int × ((List Int) × ((List Int) × ((List Sx.Place) × Unit)))))))))))
abbrev DTy : Type := ((List Sx.Exits) × ((List Int) × ((List Int) × ((List Int) × ((List Bool) × (Int × (Int × (Int × Unit))))))))
abbrev CTy : Type := (Int × (Int × (Int × (Int × (Int × (Int × ((List Int) × (Int × ((List Int) × (Int × (Int × (Int × (Int × (Int × (Int × ((List Int) × ((List Sx.Seen) × (Int × Unit))))))))))))))))))
@[reducible] def wTo (w : Sx.World) : WTy := (w.desc.exits, w.desc.players, w.desc.coins, w.desc.items, w.desc.boxes, w.desc.room, w.desc.player, w.desc.box, w.at_, w.coins, w.where_, ())
@[reducible] def dTo (d : Desc) : DTy := (d.exits, d.players, d.coins, d.items, d.boxes, d.room, d.player, d.box, ())
@[reducible] def cTo (c : Sx.Call) : CTy := (c.player, c.cmd.kind, c.cmd.dir, c.cmd.item, c.cmd.box, c.cmd.who, c.cmd.gives, c.cmd.pay, c.cmd.wants, c.cmd.fee, c.frm, c.to, c.reply.err, c.reply.kind, c.reply.room, c.reply.players, c.reply.items, c.reply.coins, ())
@[reducible] def wOf (t : WTy) : Sx.World := ⟨⟨t.1, t.2.1, t.2.2.1, t.2.2.2.1, t.2.2.2.2.1, t.2.2.2.2.2.1, t.2.2.2.2.2.2.1, t.2.2.2.2.2.2.2.1⟩, t.2.2.2.2.2.2.2.2.1, t.2.2.2.2.2.2.2.2.2.1, t.2.2.2.2.2.2.2.2.2.2.1⟩
@[reducible] def dOf (t : DTy) : Desc := ⟨t.1, t.2.1, t.2.2.1, t.2.2.2.1, t.2.2.2.2.1, t.2.2.2.2.2.1, t.2.2.2.2.2.2.1, t.2.2.2.2.2.2.2.1⟩
@[reducible] def cBP : BP := .cells [.int .i64, .int .i64, .int .i64, .int .i64, .int .i64, .int .i64, .sl (.int .i64), .int .i64, .sl (.int .i64), .int .i64, .int .i64, .int .i64, .int .i64, .int .i64, .int .i64, .sl (.int .i64), .sl (.st .seen), .int .i64]
abbrev Kd.I : Kd := .int .i64
abbrev Pt.I : Pt := .int .i64
abbrev Sh.I : Sh := .int .i64
abbrev AV.I : Int → AV := .int .i64
end Go.Sx
