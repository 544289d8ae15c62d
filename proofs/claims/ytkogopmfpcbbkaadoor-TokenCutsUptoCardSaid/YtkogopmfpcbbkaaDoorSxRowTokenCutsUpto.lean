/- The law TokenCuts of the program is true for every input of bulk at most 1048576, and leaves its input as it was (of whatever line and words: cut, and joined). Conditions: the bulk; the listed variables are tied to the program's text. -/
import Derived.Test.YtkogopmfpcbbkaaDoorRows
import Derived.Test.YtkogopmfpcbbkaaDoorCards
import Derived.Test.YtkogopmfpcbbkaaDoorTie
import Derived.Test.YtkogopmfpcbbkaaDoorSxT2
import Derived.ProofKit
import Derived.SizedLaws
import Derived.Lay
import Derived.LaidOnce
import Derived.SevenTiedAt
import Derived.Deep.DeepHandedRow
namespace Go.Proofs.YtkogopmfpcbbkaaDoor.sxTokenCutsUpto
open Go Go.Sx Go.ChangeShapes Go.WideShapes Go.ChangeAt Go.RowKit
theorem own : ownKnob Tryd.prog.godebug = none := by kernel_rfl
theorem laidOut : laidOutB Tryd.prog = true := by kernel_rfl
theorem okKinds : argsK Tryd.prog Tryd.f3.params.toList [.str, .sl .str] = true := by kernel_rfl
theorem uSl : Tryd.prog.underlying 22 = some (.slice 9) := by kernel_rfl
theorem uStr : Tryd.prog.underlying 9 = some .string := by kernel_rfl
theorem cStr : Tryd.prog.cellsOf 9 = 1 := by kernel_rfl
theorem pars : Tryd.f3.params = #[9, 22] := by kernel_rfl
theorem bulk_strs {H : Type} : ∀ l : List Str, sumL l ≤ Rows.uptoBulkAll (l.map fun s => DataW.lit (H := H) (.string s))
  | [] => Nat.le_refl _
  | s :: r => by
    have := bulk_strs (H := H) r
    simp only [sumL, List.map_cons, Rows.uptoBulkAll, Rows.uptoBulk]
    omega
theorem short {H : Type} {enc : TypeId × Value → H} {W : World} {args : Array Value} {ds gs : List (DataW H)} {before : List MemPlace}
    (hW : DataW.Whole enc Tryd.prog Tryd.f3.params.toList Rows.tokenCutsSpec.vars false W args.toList ds gs before) (hk : Rows.uptoSmall H (ds ++ gs) = true)
    (xs : Lf [.str, .sl .str]) (hx : DRs (There W) W (cellsL [.str, .sl .str] xs) args.toList) : sumL xs.2.1 ≤ 10000000 := by
  obtain ⟨s, l, u⟩ := xs
  obtain ⟨p, q, hA0, _⟩ := hW
  rw [pars] at hA0
  obtain ⟨v0, vs0, d0, ds0, p0, q0, hargs, rfl, rfl, h0, r0⟩ := trodAll_cons hA0
  obtain ⟨v1, vs1, d1, ds1, p1, q1, rfl, rfl, rfl, h1, r1⟩ := trodAll_cons r0
  have hd : DR (There W) W (.sl .str l) v1 := by
    rw [hargs] at hx
    exact hx.2 1 (by simp [cellsL]) (by simp)
  have hb : Rows.uptoBulkAll ((d0 :: d1 :: ds1) ++ gs) ≤ 1048576 := of_decide_eq_true hk
  simp only [List.cons_append, Rows.uptoBulkAll] at hb
  show sumL l ≤ 10000000
  rcases strs_read uSl uStr cStr h1 hd with rfl | ⟨sp, rfl⟩
  · simp [sumL]
  · have := bulk_strs (H := H) l
    simp only [Rows.uptoBulk] at hb
    omega
set_option maxRecDepth 100000 in
theorem reads (os : Os) {H : Type} (enc : TypeId × Value → H) : ∃ places, DataW.whole enc Tryd.prog ((World.laidAll Tryd.prog os Rows.tokenCutsRow.laid).forCall (fun _ _ => 0) ⟨#[], #[.string ByteArray.empty, .slice none 0 0], []⟩).memory Tryd.f3.params.toList Rows.tokenCutsSpec.vars false #[Value.string ByteArray.empty, .slice none 0 0].toList 8 = some ([.lit (.string []), .nil], [], places) :=
  ⟨[], by kernel_rfl⟩
set_option maxRecDepth 100000 in
theorem lifted (os : Os) (started : os.Started) (H : Type) (enc : TypeId × Value → H) (F : Stop.Interp) :
    ReturnsInHanded {} Tryd.checked os 3 .any ((Rows.OpenSpec.upto Rows.tokenCutsSpec).preRow enc Tryd.prog Tryd.f3 Rows.tokenCutsUptoRow.domain false Rows.tokenCutsUptoRow.laid) (((Rows.OpenSpec.upto Rows.tokenCutsSpec).at F).post enc Tryd.prog Tryd.f3 false true false false) := by
  obtain ⟨places, hx⟩ := reads os enc
  have hl : laidMetH Tryd.prog Rows.tokenCutsUptoRow.laid ((World.laidAll Tryd.prog os Rows.tokenCutsRow.laid).forCall (fun _ _ => 0) ⟨#[], #[.string ByteArray.empty, .slice none 0 0], []⟩).memory := by
    show laidMetH Tryd.prog Rows.tokenCutsRow.laid _
    rw [MakeChecks.laidMetH_plain _ _ _ (by kernel_rfl)]
    exact laidMet_laidAll _ (by kernel_rfl) (by kernel_rfl)
  have hok : Input.okWideB Tryd.checked.prog ((World.laidAll Tryd.prog os Rows.tokenCutsRow.laid).forCall (fun _ _ => 0) ⟨#[], #[.string ByteArray.empty, .slice none 0 0], []⟩) 3 ⟨#[], #[.string ByteArray.empty, .slice none 0 0], []⟩ = true := by kernel_rfl
  refine returnsInHanded_of_row (C := Tryd.checked) (s := Rows.OpenSpec.upto Rows.tokenCutsSpec) own started (by kernel_rfl) Tryd.func3
    ⟨World.laidAll Tryd.prog os Rows.tokenCutsRow.laid, fun _ _ => 0, ⟨#[], #[.string ByteArray.empty, .slice none 0 0], []⟩, World.laidAll_os _ _ _, World.shaped_of_ZipB (by kernel_rfl) (by kernel_rfl), (Input.okWide_of_okWideB (base := 0) hok).1, (Input.okWide_of_okWideB hok).2,
      OpenSpec.preRow_of_cond 8 hx (by kernel_rfl) (fun k hk => by cases hk; kernel_rfl) (by kernel_rfl) hl, by
        simp only [Assume.holds]
        exact ⟨by simp, by simp, fun _ => Modest.zero, by simp, by simp⟩⟩ ?_
  intro W base args ds gs before hval0 hW0 _ hcond hsz0 hL _ _
  have hsz : (DataW.weightsEach Tryd.prog (Tryd.f3.params.toList ++ Rows.tokenCutsSpec.plain.varTypes Tryd.prog) (ds ++ gs)).all (· ≤ reachBytes) = true := hsz0
  have hval : ∀ (j : Nat) t v, Tryd.f3.params[j]? = some t → args[j]? = some v → Value.okWide Tryd.prog W .any base t v := hval0
  have hW : DataW.Whole enc Tryd.prog Tryd.f3.params.toList Rows.tokenCutsSpec.vars false W args.toList ds gs before := hW0
  have hk : Rows.uptoSmall H (ds ++ gs) = true := hcond _ rfl
  exact law_calls_q (fn := Tryd.f3) (ks := [.str, .sl .str]) (tb := 4) (Q := fun xs => sumL xs.2.1 ≤ 10000000) (fun xs _ hq => tokenCuts_calls xs hq) (fun xs hx => short hW hk xs hx) (gok_laid hL) laidOut okKinds rfl (by kernel_rfl) (by kernel_rfl) (fun ds hd => match ds, hd with | [_, _], _ => rfl) hval hW hsz
theorem proved : Rows.TokenCutsUptoSaid :=
  OpenClaim.holds_of_cond 3 Tryd.f3 rfl rfl rfl rfl rfl rfl rfl ⟨rfl, rfl, rfl, rfl, rfl⟩ rfl rfl rfl rfl rfl (by kernel_rfl) Tryd.func3 (by kernel_rfl)
    (of_decide_eq_true (by kernel_rfl)) (by unfold Func.isWrapper; first | (rw [if_pos (by decide +kernel)]; kernel_rfl) | (rw [if_neg (by decide +kernel)]; exact ⟨rfl, rfl⟩))
    (fun os started H enc _ F => by rw [OpenClaim.pre_eq_preRow]; exact lifted os started H enc F)
theorem plainP (f : FuncId) (fn : Func) (hf : Tryd.pinned.checked.prog.funcNamed "innkeep/innkeeplaw02.TokenCuts" = some f) (hfn : Tryd.pinned.checked.prog.funcs[f]? = some fn) :
    true = Tryd.pinned.checked.prog.looks [] ∧ ∀ (j : Nat) t, fn.params[j]? = some t → Tryd.pinned.checked.prog.wantsStandIn t = false := by
  obtain rfl : f = 3 := Option.some.inj ((show Tryd.prog.funcNamed "innkeep/innkeeplaw02.TokenCuts" = some 3 by kernel_rfl).symm.trans hf) |>.symm
  obtain rfl : fn = Tryd.f3 := (Option.some.inj (Tryd.func3.symm.trans hfn)).symm
  exact ⟨by kernel_rfl, fun j t ht => by
    rw [pars] at ht
    have hm : t ∈ [9, 22] := by simpa using Array.mem_of_getElem? ht
    have hall : ([9, 22].all fun u => !Tryd.prog.wantsStandIn u) = true := by kernel_rfl
    exact (show Tryd.prog.wantsStandIn t = false by simpa using List.all_eq_true.1 hall t hm)⟩
theorem card : Rows.TokenCutsUptoCardSaid :=
  Claim7.holds_tied_plain_at .later [] _ _ _ _ proved (fun _ h => by cases h) (by kernel_rfl) (fun _ h => by cases h) tokenCutsUpto_row_tie rfl ⟨rfl, rfl⟩ (by kernel_rfl) rfl plainP (by kernel_rfl)
end Go.Proofs.YtkogopmfpcbbkaaDoor.sxTokenCutsUpto
namespace Go.Proofs.YtkogopmfpcbbkaaDoor
/-- The card, under a short name. -/
theorem tokenCutsUpto_holds : Rows.TokenCutsUptoCardSaid := sxTokenCutsUpto.card
end Go.Proofs.YtkogopmfpcbbkaaDoor
