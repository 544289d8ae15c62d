/-
  SX: from calls to the statement of a law.
-/
import Derived.Test.YtkogopmfpcbbkaaDoorSxLb
import Derived.ProofKit
set_option linter.unusedVariables false
set_option linter.unusedSimpArgs false
namespace Go.Sx
open Go
open Go.RowKit (Below)
open Go.ChangeShapes Go.WideShapes
variable {P : Program} {H : Type} {enc : TypeId × Value → H} {W W' : GW} {spare : Nat → Bool} {held : Bool}

def isAggT (P : Program) (t : TypeId) : Bool :=
  match P.underlying t with
  | some (.struct _) => true
  | some (.array _ _) => true
  | _ => false
def Kd.isSt : Kd → Bool
  | .st _ => true
  | _ => false
/-- Are parameters of these types of these kinds? -/
def argsK (P : Program) : List TypeId → List Kd → Bool
  | [], [] => true
  | t :: ts, k :: ks => (match lf P 9 t k.kdl with | some [] => true | _ => false) && (isAggT P t == k.isSt) && P.readableRec t && Nat.blt t P.types.size && argsK P ts ks
  | _, _ => false

theorem not_agg {base : Nat} {t : TypeId} {v : Value} (h : Value.okWide P W .any base t v) (ha : isAggT P t = false) : (∀ cs, v ≠ .agg cs) := by
  unfold isAggT at ha
  unfold Value.okWide at h
  intro cs hv
  subst hv
  split at h
  · rename_i fs hu; rw [hu] at ha; cases ha
  · rename_i n e hu; rw [hu] at ha; cases ha
  · unfold Cell.okWide at h
    split at h <;> try (rename_i he; cases he)
    unfold Cell.ok at h
    split at h <;> first | (rename_i he; cases he) | exact h

theorem arg_sound {base : Nat} {t : TypeId} {v : Value} {d : DataW H} {ps : List MemPlace} {kd : Kd} (hok : Value.okWide P W .any base t v) (h : DataW.Trod enc P W 0 spare held t v d ps) (hlf : lf P 9 t kd.kdl = some []) (hsh : isAggT P t = kd.isSt) (hw : (d.weights P t).all (· ≤ reachBytes) = true) :
    ∃ y : kd.T, DR (There W) W (kd.of y) v ∧ ∀ m, wfL (wf m) kd.kdl (kd.flds y) := by
  obtain ⟨fuel, h⟩ := h
  obtain ⟨us, y, e1, e2, e3⟩ := lf_sound 9 t kd.kdl [] fuel _ _ hlf h hw
  have hus : kd.kdl = us := by simpa using e1
  subst hus
  refine ⟨kd.mk y, ?_, fun m => by rw [Kd.flds_mk]; exact e3 m⟩
  have leaf : kd.isSt = false → LR (DR (There W) W) [kd.of (kd.mk y)] v.cells.toList → DR (There W) W (kd.of (kd.mk y)) v := by
    intro hst hlr
    have hna := not_agg hok (by rw [hsh]; exact hst)
    have hc : v.cells = #[v] := by
      cases v with
      | agg cs => exact absurd rfl (hna cs)
      | _ => rfl
    rw [hc] at hlr
    exact (hlr.2 0 (by simp) (by simp)).2
  cases kd with
  | st s =>
    have hagg : ∃ cs, v = .agg cs := by
      unfold isAggT at hsh
      unfold Value.okWide at hok
      split at hsh
      · rename_i fs hu
        rw [hu] at hok
        obtain ⟨cs, hv, _⟩ := hok
        exact ⟨cs, hv⟩
      · rename_i n e hu
        rw [hu] at hok
        obtain ⟨cs, hv, _⟩ := hok
        exact ⟨cs, hv⟩
      · cases hsh
    obtain ⟨cs, rfl⟩ := hagg
    have hcs : (Value.agg cs).cells.toList = cs.toList := rfl
    rw [hcs] at e2
    have : DR (There W) W (.agg ((Kd.st s).cells ((Kd.st s).mk y))) (.agg cs.toList.toArray) := by
      rw [Kd.cells_mk]
      exact .agg _ _ e2.1 (fun u hu => by obtain ⟨q, hq, rfl⟩ := List.getElem_of_mem hu; exact (e2.2 q (by rw [e2.1]; exact hq) hq).1) fun i h1 h2 => (e2.2 i h1 h2).2
    rw [Array.toArray_toList] at this
    exact this
  | int k => exact leaf rfl e2
  | bool => exact leaf rfl e2
  | str => exact leaf rfl e2
  | sl e => exact leaf rfl e2

/-- What is asked of all of a law's inputs. -/
def wfA (m : Nat) : (ks : List Kd) → Lf ks → Prop := wfL fun k y => wfL (wf m) k.kdl (k.flds y)

theorem args_sound {base : Nat} : ∀ (ts : List TypeId) (ks : List Kd) (vs : List Value) (ds : List (DataW H)) (ps : List MemPlace), argsK P ts ks = true → DataW.TrodAll enc P W 0 spare held ts vs ds ps → (∀ (j : Nat) t v, ts[j]? = some t → vs[j]? = some v → Value.okWide P W .any base t v) →
    (DataW.weightsEach P ts ds).all (· ≤ reachBytes) = true → ∃ xs : Lf ks, DRs (There W) W (cellsL ks xs) vs ∧ ∀ m, wfA m ks xs
  | [], [], vs, ds, ps, _, h, _, _ => by
    obtain ⟨rfl, rfl, rfl⟩ := trodAll_nil h
    exact ⟨(), ⟨rfl, fun i h => by simp [cellsL] at h⟩, fun _ => trivial⟩
  | t :: ts, k :: ks, vs, ds, ps, hk, h, hok, hw => by
    simp only [argsK, Bool.and_eq_true, beq_iff_eq] at hk
    obtain ⟨⟨⟨⟨hk1, hk2⟩, _⟩, _⟩, hk3⟩ := hk
    have hlf : lf P 9 t k.kdl = some [] := by
      split at hk1
      · assumption
      · cases hk1
    obtain ⟨v, vs1, d, ds1, a, b, rfl, rfl, rfl, h1, h2⟩ := trodAll_cons h
    unfold DataW.weightsEach at hw
    obtain ⟨w1, w2⟩ := all_append hw
    obtain ⟨y, g1, g2⟩ := arg_sound (hok 0 t v rfl rfl) h1 hlf hk2 w1
    obtain ⟨xs, g3, g4⟩ := args_sound ts ks vs1 ds1 b hk3 h2 (fun j t v a b => hok (j + 1) t v (by simpa using a) (by simpa using b)) w2
    refine ⟨(y, xs), ⟨by simp [cellsL, g3.1], fun i h h' => ?_⟩, fun m => ⟨g2 m, g4 m⟩⟩
    cases i with
    | zero => exact g1
    | succ i => exact g3.2 i (by simpa [cellsL] using h) (by simpa using h')
  | [], _ :: _, _, _, _, hk, _, _, _ => by simp [argsK] at hk
  | _ :: _, [], _, _, _, hk, _, _, _ => by simp [argsK] at hk

theorem trodAll_below (hl : laidOutB P = true) : ∀ (ts : List TypeId) (ks : List Kd) (vs : List Value) (ds : List (DataW H)) (ps : List MemPlace), argsK P ts ks = true → DataW.TrodAll enc P W 0 (fun _ => true) true ts vs ds ps → (∀ p ∈ ps, p.block < W.heap.size) → Below W.heap.size W W' → ∀ sp : Nat → Bool, (∀ p ∈ ps, sp p.block = true) →
    DataW.TrodAll enc P W' 0 sp true ts vs ds ps
  | [], [], vs, ds, ps, _, h, _, _, sp, _ => by
    obtain ⟨rfl, rfl, rfl⟩ := trodAll_nil h
    rfl
  | t :: ts, k :: ks, vs, ds, ps, hk, h, hlt, hb, sp, hsp => by
    simp only [argsK, Bool.and_eq_true, beq_iff_eq] at hk
    obtain ⟨⟨⟨_, hr⟩, hs⟩, hk3⟩ := hk
    obtain ⟨v, vs1, d, ds1, a, b, rfl, rfl, rfl, h1, h2⟩ := trodAll_cons h
    refine ⟨a, b, WideElems.Trod_stays hl hr (Nat.le_of_ble_eq_true hs) h1 (fun p hp => hb.same (hlt p (List.mem_append.2 (.inl hp)))) (fun p hp => hsp p (List.mem_append.2 (.inl hp))), ?_, rfl⟩
    exact trodAll_below hl ts ks vs1 ds1 b hk3 h2 (fun p hp => hlt p (List.mem_append.2 (.inr hp))) hb sp (fun p hp => hsp p (List.mem_append.2 (.inr hp)))
  | [], _ :: _, _, _, _, hk, _, _, _, _, _ => by simp [argsK] at hk
  | _ :: _, [], _, _, _, hk, _, _, _, _, _ => by simp [argsK] at hk

/-- A law that answers true and leaves its inputs as they were. -/
theorem law_post {f : Func} {s : ChangeSpec} {apart fresh handsOn again : Bool} {args : Array Value} {ds gs : List (DataW H)} {before : List MemPlace} {tb : TypeId} (hW : DataW.Whole enc P f.params.toList s.vars apart W args.toList ds gs before) (hl : laidOutB P = true) {ks : List Kd} (hk : argsK P f.params.toList ks = true)
    (hb : Below W.heap.size W W') (hvars : s.vars = []) (hres : f.resultTypes = #[tb]) (htb : P.underlying tb = some .bool) (hspec : s.fn H ds = { results := [.lit (.bool true)], args := ds }) :
    s.post enc P f apart fresh handsOn again W args (.bool true) W' := by
  have hWW := hW
  obtain ⟨pa, pv, hA, hV, hps, hz, hn⟩ := hW
  have hlt : ∀ p ∈ before, p.block < W.heap.size := hWW.lt
  rw [hvars] at hV
  obtain ⟨rfl, rfl⟩ := trodVars_none hV
  simp only [List.append_nil] at hps
  subst hps
  have hsp : s.fn H (ds ++ []) = { results := [.lit (.bool true)], args := ds } := by rw [List.append_nil]; exact hspec
  have hres' : ∀ (b : Nat) (sp : Nat → Bool) (hd : Bool), DataW.TrodAll enc P W' b sp hd f.resultTypes.toList ((Value.bool true).resultList f.resultTypes.size) (s.fn H (ds ++ [])).results [] := by
    intro b sp hd
    rw [hsp, hres]
    exact trodAll_mk1 (RowKit.shut_bool htb true)
  have hargs : ∀ sp : Nat → Bool, (∀ p ∈ before, sp p.block = true) → DataW.TrodAll enc P W' 0 sp true f.params.toList args.toList (s.fn H (ds ++ [])).args before := by
    intro sp hs
    rw [hsp]
    exact trodAll_below hl _ ks _ _ _ hk hA hlt hb sp hs
  have hvars' : ∀ sp : Nat → Bool, DataW.TrodVars enc P W' sp s.vars (s.fn H (ds ++ [])).vars [] := by
    intro sp
    rw [hsp, hvars]
    rfl
  have hold : ∀ p ∈ before, (fun b => decide (b < W.heap.size)) p.block = true := fun p hp => by simpa using hlt p hp
  refine ⟨ds, [], before, [], before, [], hWW, hres' _ _ _, hargs _ hold, hvars' _, World.keptBut_mono (fun p hp => ⟨hp, ?_⟩) (hb.frame (· ∈ before)), fun _ => ?_⟩
  · exact .inr (by simpa using hp)
  · refine ⟨RowKit.ok_one hres rfl (RowKit.okWide_bool_mk htb true), _, _, ([] ++ before) ++ [], ⟨[] ++ before, [], trodAll_append (hargs _ (fun _ _ => rfl)) (hres' _ _ _), hvars' _, rfl, ?_, ?_⟩, ?_⟩
    · intro b off hp
      have hp' : MemPlace.cell b off ∈ before := by simpa using hp
      rw [hb.frozen (p := ⟨b, off, Option.none⟩) (hlt _ hp')]
      exact hz b off hp'
    · intro ha
      have := hn ha
      simpa using this
    · intro p hp _
      simpa using hp

/-- A law's calls, as they are asked for. -/
theorem law_calls_gl {gl : List (Nat × List AV)} {f : FuncId} {fn : Func} {s : ChangeSpec} {apart fresh handsOn again : Bool} {args : Array Value} {ds gs : List (DataW H)} {before : List MemPlace} {tb : TypeId} {base : Nat} {ks : List Kd}
    (hlaw : ∀ xs : Lf ks, (∀ m, wfA m ks xs) → CallsTo P gl f (cellsL ks xs) (.bool true)) (hgl : GOK gl W.heap.size (There W) W)
    (hl : laidOutB P = true) (hk : argsK P fn.params.toList ks = true) (hvars : s.vars = []) (hres : fn.resultTypes = #[tb]) (htb : P.underlying tb = some .bool) (hspec : ∀ ds : List (DataW H), ds.length = ks.length → s.fn H ds = { results := [.lit (.bool true)], args := ds })
    (hval : ∀ (j : Nat) t v, fn.params[j]? = some t → args[j]? = some v → Value.okWide P W .any base t v)
    (hW : DataW.Whole enc P fn.params.toList s.vars apart W args.toList ds gs before)
    (hsz : (DataW.weightsEach P (fn.params.toList ++ s.plain.varTypes P) (ds ++ gs)).all (· ≤ reachBytes) = true) :
    Calls P f args W fun e W' => ∃ v, e = .returned v ∧ s.post enc P fn apart fresh handsOn again W args v W' := by
  have hWW := hW
  obtain ⟨pa, pv, hA, hV, hps, hz, hn⟩ := hW
  rw [hvars] at hV
  obtain ⟨hgs, hpv⟩ := trodVars_none hV
  subst hgs
  have hvt : s.plain.varTypes P = [] := by
    simp [ChangeSpec.plain, DataSpec.varTypes, hvars]
  rw [hvt, List.append_nil, List.append_nil] at hsz
  obtain ⟨xs, hx, hwf⟩ := args_sound fn.params.toList ks args.toList ds pa hk hA (fun j t v a b => hval j t v (by simpa using a) (by simpa using b)) hsz
  have hlen : ds.length = ks.length := by
    have h1 : ∀ (ts : List TypeId) (ks : List Kd) (vs : List Value) (ds : List (DataW H)) (ps : List MemPlace), argsK P ts ks = true → DataW.TrodAll enc P W 0 (fun _ => true) true ts vs ds ps → ds.length = ks.length := by
      intro ts
      induction ts with
      | nil =>
        intro ks vs ds ps hk h
        obtain ⟨rfl, rfl, rfl⟩ := trodAll_nil h
        cases ks with
        | nil => rfl
        | cons k ks => simp [argsK] at hk
      | cons t ts ih =>
        intro ks vs ds ps hk h
        obtain ⟨v, vs1, d, ds1, a, b, rfl, rfl, rfl, h1, h2⟩ := trodAll_cons h
        cases ks with
        | nil => simp [argsK] at hk
        | cons k ks =>
          simp only [argsK, Bool.and_eq_true] at hk
          simp [ih ks vs1 ds1 b hk.2 h2]
    exact h1 _ _ _ _ _ hk hA
  have hcall := hlaw xs hwf (There W) W args.toList (fun c h => h) hgl hx
  rw [Array.toArray_toList] at hcall
  refine hcall.mono ?_
  rintro e W' ⟨cv, rfl, hb, hdr⟩
  cases hdr
  exact ⟨_, rfl, law_post hWW hl hk hb hvars hres htb (hspec ds hlen)⟩
theorem law_calls {f : FuncId} {fn : Func} {s : ChangeSpec} {apart fresh handsOn again : Bool} {args : Array Value} {ds gs : List (DataW H)} {before : List MemPlace} {tb : TypeId} {base : Nat} {ks : List Kd}
    (hlaw : ∀ xs : Lf ks, (∀ m, wfA m ks xs) → CallsTo P [] f (cellsL ks xs) (.bool true))
    (hl : laidOutB P = true) (hk : argsK P fn.params.toList ks = true) (hvars : s.vars = []) (hres : fn.resultTypes = #[tb]) (htb : P.underlying tb = some .bool) (hspec : ∀ ds : List (DataW H), ds.length = ks.length → s.fn H ds = { results := [.lit (.bool true)], args := ds })
    (hval : ∀ (j : Nat) t v, fn.params[j]? = some t → args[j]? = some v → Value.okWide P W .any base t v)
    (hW : DataW.Whole enc P fn.params.toList s.vars apart W args.toList ds gs before)
    (hsz : (DataW.weightsEach P (fn.params.toList ++ s.plain.varTypes P) (ds ++ gs)).all (· ≤ reachBytes) = true) :
    Calls P f args W fun e W' => ∃ v, e = .returned v ∧ s.post enc P fn apart fresh handsOn again W args v W' :=
  law_calls_gl hlaw (fun g cs h => by simp [look_nil] at h) hl hk hvars hres htb hspec hval hW hsz
end Go.Sx
