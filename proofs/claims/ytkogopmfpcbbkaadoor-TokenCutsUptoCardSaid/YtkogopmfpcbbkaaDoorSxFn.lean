/-
  SX: functions, and contracts of functions.
-/
import Derived.Test.YtkogopmfpcbbkaaDoorSxCo
set_option linter.unusedVariables false
set_option linter.unusedSimpArgs false
namespace Go.Sx
open Go
open Go.RowKit (Below)
variable {P : Program} {E : Env} {base : Nat} {w0 : GW} {ok : Nat → Prop} {en : Ent} {G G' : Gam} {s : St} {a : Act} {w w' : GW} {R : Type} {M : Mem}

theorem Rel.frz1D (h : Rel E base w0 ok en G s a w) (v : AV) : ∃ G', Rel E base w0 ok en G' { s with M := Sx.frz1 s.M v } a w ∧ G'.σ = G.σ ∧ ∀ c, G.D c → G'.D c := by
  cases v with
  | vec b => exact h.freezeD b
  | vsl b i j => exact h.freezeD b
  | _ => exact ⟨G, h, rfl, fun _ h => h⟩
theorem Rel.frzsD : ∀ (vs : List AV) {s : St} {G : Gam}, Rel E base w0 ok en G s a w → ∃ G', Rel E base w0 ok en G' { s with M := Sx.frzs s.M vs } a w ∧ G'.σ = G.σ ∧ ∀ c, G.D c → G'.D c
  | [], s, G, h => ⟨G, h, rfl, fun _ h => h⟩
  | v :: r, s, G, h => by
    obtain ⟨G1, h1, e1, d1⟩ := h.frz1D v
    obtain ⟨G2, h2, e2, d2⟩ := Rel.frzsD r h1
    exact ⟨G2, h2, e2.trans e1, fun c hc => d2 c (d1 c hc)⟩
theorem Rel.frzD (h : Rel E base w0 ok en G s a w) (v : AV) : ∃ G', Rel E base w0 ok en G' { s with M := Sx.frz s.M v } a w ∧ G'.σ = G.σ ∧ ∀ c, G.D c → G'.D c := by
  unfold Sx.frz
  split
  · exact Rel.frzsD _ h
  · exact h.frz1D _
theorem Rel.frzArgsD : ∀ (vs : List AV) {s : St} {G : Gam}, Rel E base w0 ok en G s a w → ∃ G', Rel E base w0 ok en G' { s with M := Sx.frzArgs s.M vs } a w ∧ G'.σ = G.σ ∧ ∀ c, G.D c → G'.D c
  | [], s, G, h => ⟨G, h, rfl, fun _ h => h⟩
  | v :: r, s, G, h => by
    obtain ⟨G1, h1, e1, d1⟩ := h.frzD v
    obtain ⟨G2, h2, e2, d2⟩ := Rel.frzArgsD r h1
    exact ⟨G2, h2, e2.trans e1, fun c hc => d2 c (d1 c hc)⟩

theorem resD_sound {v v' : AV} {x : Value} (h : Rel E base w0 ok en G s a w) (hv : VR G.D G.σ w v x) (hd : evalF.dataRes (evalF.frzRes s.M v) v = some v') : ∃ G', Rel E base w0 ok en G' { s with M := evalF.frzRes s.M v } a w ∧ DR G'.D w v' x := by
  unfold evalF.dataRes at hd
  split at hd
  · rename_i vs
    obtain ⟨G1, h1, e1, d1⟩ := h.frzArgsD vs
    obtain ⟨us, hus, hd⟩ := Option.bind_eq_some_iff.1 hd
    cases hd
    refine ⟨G1, h1, ?_⟩
    obtain ⟨l1, l2⟩ := dataArgs_sound h1.mem hus
    obtain ⟨xs, x1, x2, rfl⟩ := hv.tup_inv
    exact .tup us xs (by omega) fun i a1 a2 => l2 i (by omega) a1 _ ((x2 i (by omega) a2).grow (fun c hc => ⟨d1 c hc, rfl⟩) (fun _ _ => by rw [e1]))
  · rename_i hne
    have e : evalF.frzRes s.M v = Sx.frz s.M v := by
      unfold evalF.frzRes
      cases v <;> first | rfl | exact absurd rfl (hne _)
    rw [e] at hd ⊢
    obtain ⟨G1, h1, e1, d1⟩ := h.frzD v
    exact ⟨G1, h1, dataArg_sound h1.mem (hv.grow (fun c hc => ⟨d1 c hc, rfl⟩) (fun _ _ => by rw [e1])) hd⟩

theorem evalF_sound (hE : EnvOK P E) {H : Hints} (hin : ∀ f fn c, look E.inl f = some fn → fn.body = some c → ToldC E H f c) {f : Nat} {fn : Func} (hf : P.funcs[f]? = some fn) (htold : ∀ c, fn.body = some c → ToldC E H f c) {args : List AV} {fin : AV → Option R} {r : R} (h : evalF E H f fn args fin = some r) :
    ∀ (ok : Nat → Prop) (w : GW) (xs : List Value), (∀ c, ok c → c < w.heap.size) → GOK E.glob w.heap.size ok w → DRs ok w args xs →
    Calls P f xs.toArray w fun e w' => ∃ v cv, fin v = some r ∧ e = .returned cv ∧ Below w.heap.size w w' ∧ DR (fun c => ok c ∨ (w.heap.size ≤ c ∧ c < w'.heap.size)) w' v cv := by
  intro ok w xs hok hgok hargs
  unfold evalF at h
  split at h
  · rename_i c hc
    rw [fS_eq, junks_eq] at h
    refine calls_of_wp hf hc ?_
    let G0 : Gam := ⟨fun _ => .none, ok⟩
    let en : Ent := (G0, w, [], 0)
    have hrel : Rel E w.heap.size w ok en G0 { T := args ++ List.replicate (fn.ntmps - args.length) .junk, M := [], lock := [], lo := 0 } { tmps := xs.toArray ++ Array.replicate (fn.ntmps - xs.toArray.size) undef, defers := [] } w := by
      have hl := hargs.1
      refine ⟨rfl, by simp [hl], fun t v ht => ?_, ⟨fun b x hb => by simp at hb, fun b x c hb => by simp at hb, fun b b' x x' c hb => by simp at hb, hok, fun c hc => .inl hc, fun _ _ => rfl⟩, Below.refl _ _, hgok, Nat.le_refl _, fun c hc => ⟨hc, rfl⟩, fun b hb => by simp at hb, Nat.le_refl _, ⟨rfl, rfl⟩⟩
      have ht' : (args ++ List.replicate (fn.ntmps - args.length) AV.junk)[t]? = some v := ht
      rw [List.getElem?_append] at ht'
      split at ht'
      · rename_i hlt
        rw [List.getElem?_eq_getElem hlt] at ht'
        cases ht'
        have hlt2 : t < xs.length := by omega
        have := hargs.2 t hlt hlt2
        have e : (xs.toArray ++ Array.replicate (fn.ntmps - xs.toArray.size) undef).getD t undef = xs[t]'hlt2 := by
          simp [Array.getD_eq_getD_getElem?, Array.getElem?_append, hlt2]
        rw [e]
        exact .data _ _ this
      · rw [List.getElem?_replicate] at ht'
        split at ht'
        · cases ht'; exact .junk _
        · cases ht'
    have fin' : ∀ (s' : St) (G' : Gam) (a' : Act) (w' : GW), ((resAV E fn s').bind fun v => (evalF.dataRes (evalF.frzRes s'.M v) v).bind fin) = some r → Rel E w.heap.size w ok en G' s' a' w' →
        a'.defers = [] ∧ ∃ v, (results fn a'.tmps).run P w' = .ok v w' ∧ ∃ v1 cv, fin v1 = some r ∧ Ending.returned v = .returned cv ∧ Below w.heap.size w w' ∧ DR (fun c => ok c ∨ (w.heap.size ≤ c ∧ c < w'.heap.size)) w' v1 cv := by
      intro s' G' a' w' hk h'
      obtain ⟨v, hv, hk⟩ := Option.bind_eq_some_iff.1 hk
      obtain ⟨v', hv', hk⟩ := Option.bind_eq_some_iff.1 hk
      obtain ⟨x, hx1, hx2⟩ := resAV_sound hE h' hv
      obtain ⟨G2, h2, hdr⟩ := resD_sound h' hx2 hv'
      refine ⟨h'.defers, x, hx1, v', x, hk, rfl, h2.below, hdr.mono fun c hc => ⟨?_, rfl⟩⟩
      rcases h2.mem.dok c hc with h3 | h3
      · exact .inl h3
      · exact .inr ⟨h3, h2.mem.dlt c hc⟩
    refine evalC_sound hE hin 400 R f c _ _ r en G0 _ w _ (htold c hc) h hrel fun e s' G' a' w' hk h' => ?_
    cases e with
    | normal => exact fin' s' G' a' w' hk h'
    | ret => exact fin' s' G' a' w' hk h'
    | exit i => cases hk
    | goto l => cases hk
  · cases h
end Go.Sx
