/-
  Words: what the rows have in common: what the listed variables hold when the call begins.
-/
import Derived.Test.YtkogopmfpcbbkaaDoorSxTk
import Derived.Test.YtkogopmfpcbbkaaDoorRows
import Derived.Lib.LaidTab
import Derived.Lib.LaidU8
import Derived.Stop.LaidErr
import Derived.Lay
import Derived.LaidByTextLater
import Derived.ProofKit
import Derived.SizedLaws
set_option linter.unusedVariables false
set_option linter.unusedSimpArgs false
namespace Go.Sx
open Go Go.Proofs
/-- What the six rows list. -/
def lays : List (String × DataW Unit) := [("math/bits.deBruijn32tab", YtkogopmfpcbbkaaDoor.Rows.laid_math_bits_deBruijn32tab), ("math/bits.deBruijn64tab", YtkogopmfpcbbkaaDoor.Rows.laid_math_bits_deBruijn64tab), ("internal/strconv.uint64pow10", YtkogopmfpcbbkaaDoor.Rows.laid_internal_strconv_uint64pow10), ("unicode/utf8.acceptRanges", YtkogopmfpcbbkaaDoor.Rows.laid_unicode_utf8_acceptRanges), ("strconv.ErrRange", YtkogopmfpcbbkaaDoor.Rows.laid_strconv_ErrRange), ("strconv.ErrSyntax", YtkogopmfpcbbkaaDoor.Rows.laid_strconv_ErrSyntax), ("unicode/utf8.first", YtkogopmfpcbbkaaDoor.Rows.laid_unicode_utf8_first)]
theorem g_syn : Tryd.prog.globalNamed "strconv.ErrSyntax" = some 0 := by kernel_rfl
theorem g_ran : Tryd.prog.globalNamed "strconv.ErrRange" = some 1 := by kernel_rfl
theorem ty_syn : (Tryd.prog.globals[0]?).map (·.type) = some 45 := by kernel_rfl
theorem ty_ran : (Tryd.prog.globals[1]?).map (·.type) = some 45 := by kernel_rfl
theorem ty_pow : (Tryd.prog.globals[5]?).map (·.type) = some 93 := by kernel_rfl
theorem u45 : Tryd.prog.underlying 45 = some (.interface #[("Error", 53)]) := by kernel_rfl
theorem u89 : Tryd.prog.underlying 89 = some (.pointer 91) := by kernel_rfl
def fldS : Field := { name := "s", type := 9, offset := 0, embedded := false, tag := "", pkgPath := "errors", byteOffset := 0 }
theorem u91 : Tryd.prog.underlying 91 = some (.struct #[fldS]) := by kernel_rfl
theorem u9 : Tryd.prog.underlying 9 = some .string := by kernel_rfl
theorem u93 : Tryd.prog.underlying 93 = some (.array 20 69) := by kernel_rfl
theorem u69 : Tryd.prog.underlying 69 = some (.int .u64) := by kernel_rfl
theorem c91 : Tryd.prog.cellsOf 91 = 1 := by kernel_rfl
theorem c9 : Tryd.prog.cellsOf 9 = 1 := by kernel_rfl
theorem c69 : Tryd.prog.cellsOf 69 = 1 := by kernel_rfl
theorem c93 : Tryd.prog.cellsOf 93 = 20 := by kernel_rfl
theorem star : "*" ++ "errors.errorString" = "*errors.errorString" := by decide
theorem row89 (u : TypeId) (h : Tryd.prog.typeName? 3 u = some "*errors.errorString") : u = 89 :=
  typeName_ptr_named (nm := "errors.errorString") (by rw [star]; kernel_rfl) (by kernel_rfl) (by decide) u (by rw [star]; exact h)
theorem pow_data : (YtkogopmfpcbbkaaDoor.Rows.laid_internal_strconv_uint64pow10 : DataW Unit) = Lib.tabData .u64 powL := rfl
/-- A variable's block. -/
theorem var_row {P : Program} {W : GW} {n : String} {g : Nat} {cs : Array Value} (hg : P.globalNamed n = some g) (h : W.var? P n = some cs) : ∃ t fr, W.heap[g]? = some (.cells cs t fr) := by
  unfold World.var? at h
  rw [hg] at h
  simp only [Option.bind_some] at h
  split at h
  · rename_i cs' t fr e
    cases h
    exact ⟨t, fr, e⟩
  · cases h
theorem gok_one {W : GW} {g : Nat} {tp : TypeId} {v : Value} (h : ∃ t fr, W.heap[g]? = some (.cells #[.iface tp v] t fr)) :
    g < W.heap.size ∧ There W g ∧ (∀ j (h : j < [AV.err].length), ∃ x, W.cell? ((blkA g).add j) = some x ∧ x.oneCell' = true ∧ DR (There W) W [AV.err][j] x) ∧ ∃ row t fr, W.heap[g]? = some (.cells row t fr) ∧ row.size = [AV.err].length := by
  obtain ⟨t, fr, h⟩ := h
  have hl : g < W.heap.size := (Array.getElem?_eq_some_iff.1 h).1
  refine ⟨hl, hl, fun j hj => ?_, _, t, fr, h, rfl⟩
  obtain rfl : j = 0 := by simp at hj; omega
  refine ⟨.iface tp v, ?_, rfl, .err _ _⟩
  rw [add_zero]
  simp [World.cell?, blkA, h]
theorem gok_ints {W : GW} {g : Nat} {k : IntKind} {zs : List Int} (h : ∃ t fr, W.heap[g]? = some (.cells (zs.map fun z => Value.int k z).toArray t fr)) :
    g < W.heap.size ∧ There W g ∧ (∀ j (h : j < (zs.map (AV.int k)).length), ∃ x, W.cell? ((blkA g).add j) = some x ∧ x.oneCell' = true ∧ DR (There W) W (zs.map (AV.int k))[j] x) ∧ ∃ row t fr, W.heap[g]? = some (.cells row t fr) ∧ row.size = (zs.map (AV.int k)).length := by
  obtain ⟨t, fr, h⟩ := h
  have hl : g < W.heap.size := (Array.getElem?_eq_some_iff.1 h).1
  refine ⟨hl, hl, fun j hj => ?_, _, t, fr, h, by simp⟩
  have hz : j < zs.length := by simpa using hj
  refine ⟨.int k zs[j], ?_, rfl, ?_⟩
  · simp only [blkA, add_lit, Nat.zero_add]
    simp [World.cell?, h, hz]
  · simp only [List.getElem_map]
    exact .int _ _
theorem gok_laid {W : GW} (hL : laidMetH Tryd.prog lays W) : GOK GL W.heap.size (There W) W := by
  rw [MakeChecks.laidMetH_plain _ _ _ (by kernel_rfl)] at hL
  have h3 := hL.tail.tail
  have h5 := h3.tail.tail
  have h6 := h5.tail
  have hp : Lib.TabIs Tryd.prog W "internal/strconv.uint64pow10" .u64 powL := Lib.tabIs_of_head pow_named ty_pow u93 u69 c69 c93 h3
  obtain ⟨a1, s1, hv1, _⟩ := laid_sentinel h5 g_ran ty_ran u45 row89 u89 u91 rfl rfl u9 c91 c9
  obtain ⟨a2, s2, hv2, _⟩ := laid_sentinel h6 g_syn ty_syn u45 row89 u89 u91 rfl rfl u9 c91 c9
  intro g cs hg
  match g, hg with
  | 0, hg => cases hg; exact gok_one (var_row g_syn hv2)
  | 1, hg => cases hg; exact gok_one (var_row g_ran hv1)
  | 2, hg => cases hg
  | 3, hg => cases hg
  | 4, hg => cases hg
  | 5, hg => cases hg; exact gok_ints (var_row pow_named hp)
  | n + 6, hg => cases hg
end Go.Sx
