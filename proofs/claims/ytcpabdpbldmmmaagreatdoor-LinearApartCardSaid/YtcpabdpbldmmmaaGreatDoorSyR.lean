/-
  What the listed variables hold when a call begins (printed by wip/dev/mkR.py).
-/
import Derived.Test.YtcpabdpbldmmmaaGreatDoorLyC
import Derived.Test.YtcpabdpbldmmmaaGreatDoorRows
import Derived.Lib.LaidTab
import Derived.Lib.LaidU8
import Derived.Stop.LaidErr
import Derived.Lay
import Derived.LaidByTextLater
import Derived.ProofKit
import Derived.SizedLaws
set_option linter.unusedVariables false
set_option linter.unusedSimpArgs false
namespace Go.Sx
open Go Go.Proofs
def lays : List (String × DataW Unit) := [("innkeep/cmd.kinds", YtcpabdpbldmmmaaGreatDoor.Rows.laid_innkeep_cmd_kinds), ("innkeep/cmd.ways", YtcpabdpbldmmmaaGreatDoor.Rows.laid_innkeep_cmd_ways)]
/-- A variable's block. -/
theorem var_row {P : Program} {W : GW} {n : String} {g : Nat} {cs : Array Value} (hg : P.globalNamed n = some g) (h : W.var? P n = some cs) : ∃ t fr, W.heap[g]? = some (.cells cs t fr) := by
  unfold World.var? at h
  rw [hg] at h
  simp only [Option.bind_some] at h
  split at h
  · rename_i cs' t fr e
    cases h
    exact ⟨t, fr, e⟩
  · cases h
theorem gok_strs {W : GW} {g : Nat} {zs : List Str} (h : ∃ t fr, W.heap[g]? = some (.cells (zs.map fun z => Value.string ⟨z.toArray⟩).toArray t fr)) :
    g < W.heap.size ∧ There W g ∧ (∀ j (h : j < (zs.map AV.str).length), ∃ x, W.cell? ((blkA g).add j) = some x ∧ x.oneCell' = true ∧ DR (There W) W (zs.map AV.str)[j] x) ∧ ∃ row t fr, W.heap[g]? = some (.cells row t fr) ∧ row.size = (zs.map AV.str).length := by
  obtain ⟨t, fr, h⟩ := h
  have hl : g < W.heap.size := (Array.getElem?_eq_some_iff.1 h).1
  refine ⟨hl, hl, fun j hj => ?_, _, t, fr, h, by simp⟩
  have hz : j < zs.length := by simpa using hj
  refine ⟨.string ⟨zs[j].toArray⟩, ?_, rfl, ?_⟩
  · simp only [blkA, add_lit, Nat.zero_add]
    simp [World.cell?, h, hz]
  · simp only [List.getElem_map]
    exact .str _
/-- An array of strings that reads as these strings holds them, cell for cell. -/
theorem cells_of_strs {H : Type} {enc : TypeId × Value → H} {P : Program} {w : Go.World} {base : Nat} {sp : Nat → Bool} {held : Bool} {fuel : Nat} {t e : TypeId} {n : Nat} {cs : List Value} {zs : List Str} {p : List MemPlace}
    (ht : P.underlying t = some (.array n e)) (he : P.underlying e = some .string) (hce : P.cellsOf e = 1) (hct : P.cellsOf t = n)
    (h : DataW.trod enc P w base sp held fuel t cs = some (.agg (zs.map fun z => DataW.lit (.string z)), p)) : cs = zs.map fun z => Value.string ⟨z.toArray⟩ := by
  cases fuel with
  | zero => simp [DataW.trod] at h
  | succ fuel =>
    simp only [DataW.trod, ht, hce, hct, Nat.mul_one] at h
    split at h
    · rename_i hl
      obtain ⟨xs, hm, hx⟩ := Option.map_eq_some_iff.1 h
      have hxs : xs.map (·.1) = zs.map fun z => (DataW.lit (.string z) : DataW H) := by
        have := congrArg Prod.fst hx
        simpa using this
      have hxl : xs.length = n := by simpa using Lib.mapM_length hm
      have hzl : zs.length = n := by
        have := congrArg List.length hxs
        simp at this
        omega
      apply List.ext_getElem?
      intro i
      by_cases hi : i < n
      · obtain ⟨b, hb, hf⟩ := Lib.mapM_at hm i i (by simp [hi])
        obtain ⟨z, hc, hz, _⟩ := DataW.trod_string he hf
        have h1 : cs[i]? = some (.string z) := by
          have := congrArg (·[0]?) hc
          simpa [List.getElem?_take, List.getElem?_drop] using this
        have h2 : (xs.map (·.1))[i]? = some (DataW.lit (.string z.data.toList) : DataW H) := by
          simp [hb, hz]
        rw [hxs] at h2
        simp only [List.getElem?_map, Option.map_eq_some_iff, DataW.lit.injEq, Lit.string.injEq] at h2
        obtain ⟨z', hz', rfl⟩ := h2
        simp [h1, hz']
      · rw [List.getElem?_eq_none (by omega), List.getElem?_eq_none (by simp; omega)]
    · cases h
theorem strs_of_head {P : Program} {W : Go.World} {name : String} {zs : List Str} {rest : List (String × DataW Unit)} {g : Nat} {t e : TypeId} {n : Nat}
    (hg : P.globalNamed name = some g) (hty : (P.globals[g]?).map (·.type) = some t) (ht : P.underlying t = some (.array n e)) (he : P.underlying e = some .string) (hce : P.cellsOf e = 1) (hct : P.cellsOf t = n)
    (h : laidMet P ((name, .agg (zs.map fun z => DataW.lit (.string z))) :: rest) W) : W.var? P name = some (zs.map fun z => Value.string ⟨z.toArray⟩).toArray := by
  obtain ⟨ps, ⟨g', t', cs, fuel, p, q, hg', ht', hvar, hd, _, _⟩, _⟩ := h
  obtain rfl := Option.some.inj (hg.symm.trans hg')
  obtain rfl := Option.some.inj (hty.symm.trans ht')
  rw [hvar, ← cells_of_strs ht he hce hct hd]
theorem uStr : Tryz.prog.underlying 9 = some .string := by kernel_rfl
theorem cStr : Tryz.prog.cellsOf 9 = 1 := by kernel_rfl
theorem gok_laid {W : GW} (hL : laidMetH Tryz.prog lays W) : GOK GL W.heap.size (There W) W := by
  rw [MakeChecks.laidMetH_plain _ _ _ (by kernel_rfl)] at hL
  have h0 : W.var? Tryz.prog "innkeep/cmd.kinds" = some (([[], [109, 111, 118, 101], [112, 117, 115, 104], [103, 101, 116], [100, 114, 111, 112], [112, 117, 116], [116, 97, 107, 101], [103, 105, 118, 101], [116, 114, 97, 100, 101], [108, 111, 111, 107], [111, 119, 110]] : List Str).map fun z => Value.string ⟨z.toArray⟩).toArray := strs_of_head (show Tryz.prog.globalNamed "innkeep/cmd.kinds" = some 0 by kernel_rfl) (show (Tryz.prog.globals[0]?).map (·.type) = some 117 by kernel_rfl) (show Tryz.prog.underlying 117 = some (.array 11 9) by kernel_rfl) uStr cStr (by kernel_rfl) hL
  have t0 := hL.tail
  have h1 : W.var? Tryz.prog "innkeep/cmd.ways" = some (([[110, 111, 114, 116, 104], [101, 97, 115, 116], [115, 111, 117, 116, 104], [119, 101, 115, 116]] : List Str).map fun z => Value.string ⟨z.toArray⟩).toArray := strs_of_head (show Tryz.prog.globalNamed "innkeep/cmd.ways" = some 1 by kernel_rfl) (show (Tryz.prog.globals[1]?).map (·.type) = some 121 by kernel_rfl) (show Tryz.prog.underlying 121 = some (.array 4 9) by kernel_rfl) uStr cStr (by kernel_rfl) t0
  intro g cs hg
  match g, hg with
  | 0, hg => cases hg; exact gok_strs (zs := [[], [109, 111, 118, 101], [112, 117, 115, 104], [103, 101, 116], [100, 114, 111, 112], [112, 117, 116], [116, 97, 107, 101], [103, 105, 118, 101], [116, 114, 97, 100, 101], [108, 111, 111, 107], [111, 119, 110]]) (var_row (show Tryz.prog.globalNamed "innkeep/cmd.kinds" = some 0 by kernel_rfl) h0)
  | 1, hg => cases hg; exact gok_strs (zs := [[110, 111, 114, 116, 104], [101, 97, 115, 116], [115, 111, 117, 116, 104], [119, 101, 115, 116]]) (var_row (show Tryz.prog.globalNamed "innkeep/cmd.ways" = some 1 by kernel_rfl) h1)
  | n + 2, hg => cases hg
end Go.Sx
