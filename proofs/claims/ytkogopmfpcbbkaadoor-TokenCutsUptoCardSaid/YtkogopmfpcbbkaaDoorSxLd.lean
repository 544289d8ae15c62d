/-
  SX: what a law is handed, a condition on it besides.
-/
import Derived.Test.YtkogopmfpcbbkaaDoorSxLc
set_option linter.unusedVariables false
set_option linter.unusedSimpArgs false
namespace Go.Sx
open Go
open Go.RowKit (Below)
open Go.ChangeShapes Go.WideShapes
variable {P : Program} {H : Type} {enc : TypeId × Value → H} {W W' : GW} {spare : Nat → Bool} {held : Bool}

/-- A list of words, and what is read of it. -/
theorem strs_read {D : Nat → Prop} {t e : TypeId} (ht : P.underlying t = some (.slice e)) (he : P.underlying e = some .string) (hc : P.cellsOf e = 1) {v : Value} {d : DataW H} {ps : List MemPlace} {l : List Str}
    (h : DataW.Trod enc P W 0 spare held t v d ps) (hd : DR D W (.sl .str l) v) : l = [] ∨ ∃ sp, d = .slice (l.map fun s => .lit (.string s)) sp := by
  obtain ⟨fuel, h⟩ := h
  cases hd with
  | sl _ _ A cap cv hcap hA hone hr =>
    rcases DataW.trod_slice ht h with ⟨h1, _⟩ | ⟨a, len, cap', elems, rest, n, _, h1, h2, _, _, _, hlen, hel, _, _⟩
    · left
      have h1' : [Value.slice A l.length cap] = [.slice none 0 0] := h1
      simp at h1'
      exact h1'.2.1
    · right
      have h1' : [Value.slice A l.length cap] = [.slice (some a) len cap'] := h1
      simp only [List.cons.injEq, Value.slice.injEq, and_true] at h1'
      obtain ⟨rfl, rfl, rfl⟩ := h1'
      cases h2
      refine ⟨_, congrArg (fun z => DataW.slice z _) ?_⟩
      refine List.ext_getElem (by simpa using hlen) fun i g1 g2 => ?_
      have hi : i < l.length := by simpa using g2
      have hie : i < elems.length := by simpa using g1
      have q1 := hel i hi
      rw [List.getElem?_eq_getElem hie, Option.bind_eq_some_iff] at q1
      obtain ⟨ci, hci, q2⟩ := q1
      obtain ⟨s, rfl, q3, _⟩ := DataW.trod_string he q2
      obtain ⟨_, _, c3⟩ := World.cells?_some hci
      have c4 := c3 0 (by rw [hc]; omega)
      rw [add_zero, hc] at c4
      obtain ⟨a', ha', _, q4⟩ := hA i hi
      cases ha'
      have q5 := q4 0 (by simp [Kd.size])
      simp only [Kd.size, Nat.mul_one, Nat.add_zero] at q5
      rw [Nat.mul_one, q5] at c4
      have q6 := hr i hi 0 (by simp [Kd.cells])
      have q7 : cv i 0 = .string s := by simpa using c4
      rw [q7] at q6
      simp only [List.getElem_map]
      rw [q3]
      cases q6
      simp [Kd.cells] at *
  
/-- A law's calls, where its inputs meet a condition besides. -/
theorem law_calls_q {gl : List (Nat × List AV)} {f : FuncId} {fn : Func} {s : ChangeSpec} {apart fresh handsOn again : Bool} {args : Array Value} {ds gs : List (DataW H)} {before : List MemPlace} {tb : TypeId} {base : Nat} {ks : List Kd} {Q : Lf ks → Prop}
    (hlaw : ∀ xs : Lf ks, (∀ m, wfA m ks xs) → Q xs → CallsTo P gl f (cellsL ks xs) (.bool true)) (hQ : ∀ xs : Lf ks, DRs (There W) W (cellsL ks xs) args.toList → Q xs) (hgl : GOK gl W.heap.size (There W) W)
    (hl : laidOutB P = true) (hk : argsK P fn.params.toList ks = true) (hvars : s.vars = []) (hres : fn.resultTypes = #[tb]) (htb : P.underlying tb = some .bool) (hspec : ∀ ds : List (DataW H), ds.length = ks.length → s.fn H ds = { results := [.lit (.bool true)], args := ds })
    (hval : ∀ (j : Nat) t v, fn.params[j]? = some t → args[j]? = some v → Value.okWide P W .any base t v)
    (hW : DataW.Whole enc P fn.params.toList s.vars apart W args.toList ds gs before)
    (hsz : (DataW.weightsEach P (fn.params.toList ++ s.plain.varTypes P) (ds ++ gs)).all (· ≤ reachBytes) = true) :
    Calls P f args W fun e W' => ∃ v, e = .returned v ∧ s.post enc P fn apart fresh handsOn again W args v W' := by
  have hWW := hW
  obtain ⟨pa, pv, hA, hV, hps, hz, hn⟩ := hW
  rw [hvars] at hV
  obtain ⟨hgs, hpv⟩ := trodVars_none hV
  subst hgs
  have hvt : s.plain.varTypes P = [] := by
    simp [ChangeSpec.plain, DataSpec.varTypes, hvars]
  rw [hvt, List.append_nil, List.append_nil] at hsz
  obtain ⟨xs, hx, hwf⟩ := args_sound fn.params.toList ks args.toList ds pa hk hA (fun j t v a b => hval j t v (by simpa using a) (by simpa using b)) hsz
  have hlen : ds.length = ks.length := by
    have h1 : ∀ (ts : List TypeId) (ks : List Kd) (vs : List Value) (ds : List (DataW H)) (ps : List MemPlace), argsK P ts ks = true → DataW.TrodAll enc P W 0 (fun _ => true) true ts vs ds ps → ds.length = ks.length := by
      intro ts
      induction ts with
      | nil =>
        intro ks vs ds ps hk h
        obtain ⟨rfl, rfl, rfl⟩ := trodAll_nil h
        cases ks with
        | nil => rfl
        | cons k ks => simp [argsK] at hk
      | cons t ts ih =>
        intro ks vs ds ps hk h
        obtain ⟨v, vs1, d, ds1, a, b, rfl, rfl, rfl, h1, h2⟩ := trodAll_cons h
        cases ks with
        | nil => simp [argsK] at hk
        | cons k ks =>
          simp only [argsK, Bool.and_eq_true] at hk
          simp [ih ks vs1 ds1 b hk.2 h2]
    exact h1 _ _ _ _ _ hk hA
  have hcall := hlaw xs hwf (hQ xs hx) (There W) W args.toList (fun c h => h) hgl hx
  rw [Array.toArray_toList] at hcall
  refine hcall.mono ?_
  rintro e W' ⟨cv, rfl, hb, hdr⟩
  cases hdr
  exact ⟨_, rfl, law_post hWW hl hk hb hvars hres htb (hspec ds hlen)⟩
end Go.Sx
