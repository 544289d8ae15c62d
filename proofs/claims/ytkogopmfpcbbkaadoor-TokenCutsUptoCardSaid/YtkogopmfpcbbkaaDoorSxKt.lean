/-
  SX: contracts out of functions.
-/
import Derived.Test.YtkogopmfpcbbkaaDoorSxFn
import Derived.Test.YtkogopmfpcbbkaaDoorSxLa
import Derived.Test.YtkogopmfpcbbkaaDoorSxKd
set_option linter.unusedVariables false
set_option linter.unusedSimpArgs false
namespace Go.Sx
open Go
open Go.RowKit (Below)

def apL {Z : Type} : (ks : List Kd) → Fn ks Z → Lf ks → Z
  | [], f, _ => f
  | _ :: r, f, x => apL r (f x.1) x.2
theorem apK_nat {R Z : Type} (g : Z → AV) (k : AV → Option R) : ∀ (ks : List Kd) (F : Fn ks (Option Z)) (args : List AV), apK ks F args (fun z => k (g z)) = (apK ks F args fun z => some (g z)).bind k
  | [], F, [] => by simp [apK, obind, Option.bind_assoc]
  | [], F, _ :: _ => by simp [apK]
  | k' :: r, F, [] => by simp [apK]
  | k' :: r, F, v :: vs => by
    simp only [apK, Option.bind_assoc]
    congr 1
    funext x
    exact apK_nat g k r (F x) vs
theorem apK_spec {R Z : Type} {k : Z → Option R} {r : R} : ∀ (ks : List Kd) (F : Fn ks (Option Z)) (args : List AV), apK ks F args k = some r → ∃ (xs : Lf ks) (z : Z), apL ks F xs = some z ∧ k z = some r ∧ args.length = ks.length ∧
    ∀ (D : Nat → Prop) (w : GW) (vs : List Value), DRs D w args vs → DRs D w (cellsL ks xs) vs
  | [], F, [], h => by
    simp only [apK, obind] at h
    obtain ⟨z, hz, h⟩ := Option.bind_eq_some_iff.1 h
    exact ⟨(), z, hz, h, rfl, fun D w vs h => h⟩
  | [], F, _ :: _, h => by simp [apK] at h
  | k' :: r', F, [], h => by simp [apK] at h
  | k' :: r', F, v :: vs, h => by
    simp only [apK] at h
    obtain ⟨x, hx, h⟩ := Option.bind_eq_some_iff.1 h
    obtain ⟨xs, z, h1, h2, h3, h4⟩ := apK_spec r' (F x) vs h
    refine ⟨(x, xs), z, h1, h2, by simp [h3], fun D w us hd => ?_⟩
    cases us with
    | nil => have := hd.1; simp at this
    | cons u us =>
      have := h4 D w us ⟨by have := hd.1; simpa using this, fun i a b => by have := hd.2 (i + 1) (by simpa using a) (by simpa using b); simpa using this⟩
      refine ⟨by simp [cellsL, this.1], fun i a b => ?_⟩
      cases i with
      | zero => exact AV.as_as hx _ _ _ (hd.2 0 (by simp) (by simp))
      | succ i => exact this.2 i (by simpa [cellsL] using a) (by simpa using b)

theorem asRL_spec : ∀ (kr : List Kd) (vs : List AV) (z : Rs kr), asRL kr vs = some z → C2 vs (rL kr z)
  | [], [], _, _ => .nil
  | [], _ :: _, _, h => by simp [asRL] at h
  | [k], [], _, h => by simp [asRL] at h
  | [k], [v], z, h => .cons (AV.as_as (show v.as k = some z from h)) .nil
  | [k], _ :: _ :: _, _, h => by simp [asRL] at h
  | k :: q :: r, [], _, h => by simp [asRL] at h
  | k :: q :: r, v :: vs, z, h => by
    simp only [asRL] at h
    obtain ⟨x, hx, h⟩ := Option.bind_eq_some_iff.1 h
    obtain ⟨y, hy, h⟩ := Option.bind_eq_some_iff.1 h
    cases h
    exact .cons (AV.as_as hx) (asRL_spec (q :: r) vs y hy)
theorem c2_tup {vs us : List AV} (h : C2 vs us) : CellAs (.tup vs) (.tup us) := by
  intro D w x hx
  cases hx with
  | tup _ xs hl hh => exact .tup us xs (by rw [← h.length]; exact hl) fun i h1 h2 => h.get i (by rw [h.length]; exact h1) h1 _ _ _ (hh i (by rw [h.length]; exact h1) h2)
theorem asR_spec (kr : List Kd) (v : AV) (z : Rs kr) (h : asR kr v = some z) : CellAs v (rA kr z) := by
  unfold asR at h
  split at h
  · exact AV.as_as h
  · exact CellAs.refl _
  · exact c2_tup (asRL_spec _ _ _ h)
  · cases h

theorem callsTo_of {P : Program} {E : Env} (hE : EnvOK P E) {H : Hints} (hin : ∀ f fn c, look E.inl f = some fn → fn.body = some c → ToldC E H f c) {f : Nat} {fn : Func} (hf : P.funcs[f]? = some fn) (htold : ∀ c, fn.body = some c → ToldC E H f c) {args : List AV} {kr : List Kd} {z : Rs kr} (h : evalF E H f fn args (asR kr) = some z) :
    CallsTo P E.glob f args (rA kr z) := by
  intro ok w xs h1 h2 h3
  refine (evalF_sound hE hin hf htold h ok w xs h1 h2 h3).mono ?_
  rintro e w' ⟨v, cv, hv, rfl, hb, hd⟩
  exact ⟨cv, rfl, hb, asR_spec kr v z hv _ _ _ hd⟩

theorem ctr_ok {P : Program} {gl : List (Nat × List AV)} {f : Nat} {ks kr : List Kd} {F : Fn ks (Option (Rs kr))} (hF : ∀ (xs : Lf ks) (z : Rs kr), apL ks F xs = some z → CallsTo P gl f (cellsL ks xs) (rA kr z)) : CtrOK P gl f (ctrOf ks kr F) := by
  refine ⟨fun R args k => apK_nat (rA kr) k ks F args, fun R args k r h => ?_⟩
  obtain ⟨xs, z, h1, h2, h3, h4⟩ := apK_spec ks F args h
  refine ⟨rA kr z, h2, fun ok w vs g1 g2 g3 => ?_⟩
  exact hF xs z h1 ok w vs g1 g2 (h4 ok w vs g3)
end Go.Sx
