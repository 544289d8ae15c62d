/-
  What the listed variables hold when a call begins (printed by wip/dev/mkR.py).
-/
import Derived.Test.YtcpildkbkjeijaaDoorSyC
import Derived.Test.YtcpildkbkjeijaaDoorRows
import Derived.Lib.LaidTab
import Derived.Lib.LaidU8
import Derived.Stop.LaidErr
import Derived.Lay
import Derived.LaidByTextLater
import Derived.ProofKit
import Derived.SizedLaws
set_option linter.unusedVariables false
set_option linter.unusedSimpArgs false
namespace Go.Sx
open Go Go.Proofs
def lays : List (String × DataW Unit) := [("math/bits.deBruijn32tab", YtcpildkbkjeijaaDoor.Rows.laid_math_bits_deBruijn32tab), ("math/bits.deBruijn64tab", YtcpildkbkjeijaaDoor.Rows.laid_math_bits_deBruijn64tab), ("internal/strconv.uint64pow10", YtcpildkbkjeijaaDoor.Rows.laid_internal_strconv_uint64pow10), ("unicode/utf8.acceptRanges", YtcpildkbkjeijaaDoor.Rows.laid_unicode_utf8_acceptRanges), ("innkeep/cmd.kinds", YtcpildkbkjeijaaDoor.Rows.laid_innkeep_cmd_kinds), ("strconv.ErrRange", YtcpildkbkjeijaaDoor.Rows.laid_strconv_ErrRange), ("strconv.ErrSyntax", YtcpildkbkjeijaaDoor.Rows.laid_strconv_ErrSyntax), ("innkeep/reply.places", YtcpildkbkjeijaaDoor.Rows.laid_innkeep_reply_places), ("unicode/utf8.first", YtcpildkbkjeijaaDoor.Rows.laid_unicode_utf8_first)]
/-- A variable's block. -/
theorem var_row {P : Program} {W : GW} {n : String} {g : Nat} {cs : Array Value} (hg : P.globalNamed n = some g) (h : W.var? P n = some cs) : ∃ t fr, W.heap[g]? = some (.cells cs t fr) := by
  unfold World.var? at h
  rw [hg] at h
  simp only [Option.bind_some] at h
  split at h
  · rename_i cs' t fr e
    cases h
    exact ⟨t, fr, e⟩
  · cases h
theorem gok_one {W : GW} {g : Nat} {tp : TypeId} {v : Value} (h : ∃ t fr, W.heap[g]? = some (.cells #[.iface tp v] t fr)) :
    g < W.heap.size ∧ There W g ∧ (∀ j (h : j < [AV.err].length), ∃ x, W.cell? ((blkA g).add j) = some x ∧ x.oneCell' = true ∧ DR (There W) W [AV.err][j] x) ∧ ∃ row t fr, W.heap[g]? = some (.cells row t fr) ∧ row.size = [AV.err].length := by
  obtain ⟨t, fr, h⟩ := h
  have hl : g < W.heap.size := (Array.getElem?_eq_some_iff.1 h).1
  refine ⟨hl, hl, fun j hj => ?_, _, t, fr, h, rfl⟩
  obtain rfl : j = 0 := by simp at hj; omega
  refine ⟨.iface tp v, ?_, rfl, .err _ _⟩
  rw [add_zero]
  simp [World.cell?, blkA, h]
theorem gok_ints {W : GW} {g : Nat} {k : IntKind} {zs : List Int} (h : ∃ t fr, W.heap[g]? = some (.cells (zs.map fun z => Value.int k z).toArray t fr)) :
    g < W.heap.size ∧ There W g ∧ (∀ j (h : j < (zs.map (AV.int k)).length), ∃ x, W.cell? ((blkA g).add j) = some x ∧ x.oneCell' = true ∧ DR (There W) W (zs.map (AV.int k))[j] x) ∧ ∃ row t fr, W.heap[g]? = some (.cells row t fr) ∧ row.size = (zs.map (AV.int k)).length := by
  obtain ⟨t, fr, h⟩ := h
  have hl : g < W.heap.size := (Array.getElem?_eq_some_iff.1 h).1
  refine ⟨hl, hl, fun j hj => ?_, _, t, fr, h, by simp⟩
  have hz : j < zs.length := by simpa using hj
  refine ⟨.int k zs[j], ?_, rfl, ?_⟩
  · simp only [blkA, add_lit, Nat.zero_add]
    simp [World.cell?, h, hz]
  · simp only [List.getElem_map]
    exact .int _ _
theorem gok_strs {W : GW} {g : Nat} {zs : List Str} (h : ∃ t fr, W.heap[g]? = some (.cells (zs.map fun z => Value.string ⟨z.toArray⟩).toArray t fr)) :
    g < W.heap.size ∧ There W g ∧ (∀ j (h : j < (zs.map AV.str).length), ∃ x, W.cell? ((blkA g).add j) = some x ∧ x.oneCell' = true ∧ DR (There W) W (zs.map AV.str)[j] x) ∧ ∃ row t fr, W.heap[g]? = some (.cells row t fr) ∧ row.size = (zs.map AV.str).length := by
  obtain ⟨t, fr, h⟩ := h
  have hl : g < W.heap.size := (Array.getElem?_eq_some_iff.1 h).1
  refine ⟨hl, hl, fun j hj => ?_, _, t, fr, h, by simp⟩
  have hz : j < zs.length := by simpa using hj
  refine ⟨.string ⟨zs[j].toArray⟩, ?_, rfl, ?_⟩
  · simp only [blkA, add_lit, Nat.zero_add]
    simp [World.cell?, h, hz]
  · simp only [List.getElem_map]
    exact .str _
/-- An array of strings that reads as these strings holds them, cell for cell. -/
theorem cells_of_strs {H : Type} {enc : TypeId × Value → H} {P : Program} {w : Go.World} {base : Nat} {sp : Nat → Bool} {held : Bool} {fuel : Nat} {t e : TypeId} {n : Nat} {cs : List Value} {zs : List Str} {p : List MemPlace}
    (ht : P.underlying t = some (.array n e)) (he : P.underlying e = some .string) (hce : P.cellsOf e = 1) (hct : P.cellsOf t = n)
    (h : DataW.trod enc P w base sp held fuel t cs = some (.agg (zs.map fun z => DataW.lit (.string z)), p)) : cs = zs.map fun z => Value.string ⟨z.toArray⟩ := by
  cases fuel with
  | zero => simp [DataW.trod] at h
  | succ fuel =>
    simp only [DataW.trod, ht, hce, hct, Nat.mul_one] at h
    split at h
    · rename_i hl
      obtain ⟨xs, hm, hx⟩ := Option.map_eq_some_iff.1 h
      have hxs : xs.map (·.1) = zs.map fun z => (DataW.lit (.string z) : DataW H) := by
        have := congrArg Prod.fst hx
        simpa using this
      have hxl : xs.length = n := by simpa using Lib.mapM_length hm
      have hzl : zs.length = n := by
        have := congrArg List.length hxs
        simp at this
        omega
      apply List.ext_getElem?
      intro i
      by_cases hi : i < n
      · obtain ⟨b, hb, hf⟩ := Lib.mapM_at hm i i (by simp [hi])
        obtain ⟨z, hc, hz, _⟩ := DataW.trod_string he hf
        have h1 : cs[i]? = some (.string z) := by
          have := congrArg (·[0]?) hc
          simpa [List.getElem?_take, List.getElem?_drop] using this
        have h2 : (xs.map (·.1))[i]? = some (DataW.lit (.string z.data.toList) : DataW H) := by
          simp [hb, hz]
        rw [hxs] at h2
        simp only [List.getElem?_map, Option.map_eq_some_iff, DataW.lit.injEq, Lit.string.injEq] at h2
        obtain ⟨z', hz', rfl⟩ := h2
        simp [h1, hz']
      · rw [List.getElem?_eq_none (by omega), List.getElem?_eq_none (by simp; omega)]
    · cases h
theorem strs_of_head {P : Program} {W : Go.World} {name : String} {zs : List Str} {rest : List (String × DataW Unit)} {g : Nat} {t e : TypeId} {n : Nat}
    (hg : P.globalNamed name = some g) (hty : (P.globals[g]?).map (·.type) = some t) (ht : P.underlying t = some (.array n e)) (he : P.underlying e = some .string) (hce : P.cellsOf e = 1) (hct : P.cellsOf t = n)
    (h : laidMet P ((name, .agg (zs.map fun z => DataW.lit (.string z))) :: rest) W) : W.var? P name = some (zs.map fun z => Value.string ⟨z.toArray⟩).toArray := by
  obtain ⟨ps, ⟨g', t', cs, fuel, p, q, hg', ht', hvar, hd, _, _⟩, _⟩ := h
  obtain rfl := Option.some.inj (hg.symm.trans hg')
  obtain rfl := Option.some.inj (hty.symm.trans ht')
  rw [hvar, ← cells_of_strs ht he hce hct hd]
theorem uErr : Tryd.prog.underlying 115 = some (.interface #[("Error", 96)]) := by kernel_rfl
theorem uPt : Tryd.prog.underlying 169 = some (.pointer 171) := by kernel_rfl
def fldS : Field := { name := "s", type := 9, offset := 0, embedded := false, tag := "", pkgPath := "errors", byteOffset := 0 }
theorem uSt : Tryd.prog.underlying 171 = some (.struct #[fldS]) := by kernel_rfl
theorem uStr : Tryd.prog.underlying 9 = some .string := by kernel_rfl
theorem cSt : Tryd.prog.cellsOf 171 = 1 := by kernel_rfl
theorem cStr : Tryd.prog.cellsOf 9 = 1 := by kernel_rfl
theorem star : "*" ++ "errors.errorString" = "*errors.errorString" := by decide
theorem rowPt (u : TypeId) (h : Tryd.prog.typeName? 3 u = some "*errors.errorString") : u = 169 :=
  typeName_ptr_named (nm := "errors.errorString") (by rw [star]; kernel_rfl) (by kernel_rfl) (by decide) u (by rw [star]; exact h)
theorem gok_laid {W : GW} (hL : laidMetH Tryd.prog lays W) : GOK GL W.heap.size (There W) W := by
  rw [MakeChecks.laidMetH_plain _ _ _ (by kernel_rfl)] at hL
  have t0 := hL.tail
  have t1 := t0.tail
  have h4 : Lib.TabIs Tryd.prog W "internal/strconv.uint64pow10" .u64 powL := Lib.tabIs_of_head pow_named (show (Tryd.prog.globals[4]?).map (·.type) = some 142 by kernel_rfl) (show Tryd.prog.underlying 142 = some (.array 20 134) by kernel_rfl) (by kernel_rfl) (by kernel_rfl) (by kernel_rfl) t1
  have t2 := t1.tail
  have t3 := t2.tail
  have h0 : W.var? Tryd.prog "innkeep/cmd.kinds" = some (([[], [109, 111, 118, 101], [112, 117, 115, 104], [103, 101, 116], [100, 114, 111, 112], [112, 117, 116], [116, 97, 107, 101], [103, 105, 118, 101], [116, 114, 97, 100, 101], [108, 111, 111, 107], [111, 119, 110]] : List Str).map fun z => Value.string ⟨z.toArray⟩).toArray := strs_of_head (show Tryd.prog.globalNamed "innkeep/cmd.kinds" = some 0 by kernel_rfl) (show (Tryd.prog.globals[0]?).map (·.type) = some 90 by kernel_rfl) (show Tryd.prog.underlying 90 = some (.array 11 9) by kernel_rfl) uStr cStr (by kernel_rfl) t3
  have t4 := t3.tail
  obtain ⟨a8, s8, h8, _⟩ := laid_sentinel t4 (show Tryd.prog.globalNamed "strconv.ErrRange" = some 8 by kernel_rfl) (show (Tryd.prog.globals[8]?).map (·.type) = some 115 by kernel_rfl) uErr rowPt uPt uSt rfl rfl uStr cSt cStr
  have t5 := t4.tail
  obtain ⟨a7, s7, h7, _⟩ := laid_sentinel t5 (show Tryd.prog.globalNamed "strconv.ErrSyntax" = some 7 by kernel_rfl) (show (Tryd.prog.globals[7]?).map (·.type) = some 115 by kernel_rfl) uErr rowPt uPt uSt rfl rfl uStr cSt cStr
  have t6 := t5.tail
  have h1 : W.var? Tryd.prog "innkeep/reply.places" = some (([[105, 110], [119, 105, 116, 104], [98, 111, 120]] : List Str).map fun z => Value.string ⟨z.toArray⟩).toArray := strs_of_head (show Tryd.prog.globalNamed "innkeep/reply.places" = some 1 by kernel_rfl) (show (Tryd.prog.globals[1]?).map (·.type) = some 91 by kernel_rfl) (show Tryd.prog.underlying 91 = some (.array 3 9) by kernel_rfl) uStr cStr (by kernel_rfl) t6
  have t7 := t6.tail
  intro g cs hg
  match g, hg with
  | 0, hg => cases hg; exact gok_strs (zs := [[], [109, 111, 118, 101], [112, 117, 115, 104], [103, 101, 116], [100, 114, 111, 112], [112, 117, 116], [116, 97, 107, 101], [103, 105, 118, 101], [116, 114, 97, 100, 101], [108, 111, 111, 107], [111, 119, 110]]) (var_row (show Tryd.prog.globalNamed "innkeep/cmd.kinds" = some 0 by kernel_rfl) h0)
  | 1, hg => cases hg; exact gok_strs (zs := [[105, 110], [119, 105, 116, 104], [98, 111, 120]]) (var_row (show Tryd.prog.globalNamed "innkeep/reply.places" = some 1 by kernel_rfl) h1)
  | 2, hg => cases hg
  | 3, hg => cases hg
  | 4, hg => cases hg; exact gok_ints (var_row pow_named h4)
  | 5, hg => cases hg
  | 6, hg => cases hg
  | 7, hg => cases hg; exact gok_one (var_row (show Tryd.prog.globalNamed "strconv.ErrSyntax" = some 7 by kernel_rfl) h7)
  | 8, hg => cases hg; exact gok_one (var_row (show Tryd.prog.globalNamed "strconv.ErrRange" = some 8 by kernel_rfl) h8)
  | n + 9, hg => cases hg
end Go.Sx
