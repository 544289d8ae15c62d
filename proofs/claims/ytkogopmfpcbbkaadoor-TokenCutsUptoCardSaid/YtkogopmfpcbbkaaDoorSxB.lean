/-
  SX, part B: operations in their order.
-/
import Derived.Test.YtkogopmfpcbbkaaDoorSxZ
import Derived.Test.YtkogopmfpcbbkaaDoorSxA
set_option linter.unusedVariables false
set_option linter.unusedSimpArgs false
namespace Go.Sx
open Go
open Go.RowKit (Below)
variable {P : Program} {E : Env} {base : Nat} {w0 : GW} {ok : Nat → Prop} {en : Ent} {G G' : Gam} {s : St} {a : Act} {w w' : GW} {R : Type} {M : Mem}

/-- Whether an operation is wanted, by its guard. -/
def Wt (ops : Array Oper) (o : Oper) (T : List AV) (b : Bool) : Prop :=
  match o.guard with
  | none => b = true
  | some (j, want) => ∃ g, (ops[j]?).bind (·.dst) = some g ∧ (T[g]? = some (.bool (if b then want else !want)) ∨ (b = false ∧ T[g]? = some .undef))

theorem set_self {α : Type} {l : List α} {i : Nat} {x : α} (h : l[i]? = some x) : l.set i x = l := by
  apply List.ext_getElem?
  intro j
  rw [List.getElem?_set]
  by_cases e : i = j
  · subst e
    have := (List.getElem?_eq_some_iff.1 h).1
    rw [if_pos rfl, if_pos this, h]
  · simp [e]

theorem guard_cases {ops : Array Oper} {o : Oper} {s : St} {yes no : St → Option R} {r : R} (h : guardK ops o s yes no = some r) : (Wt ops o s.T true ∧ yes s = some r) ∨ (Wt ops o s.T false ∧ no s = some r) := by
  unfold guardK at h
  unfold Wt
  split at h
  · rename_i hg
    rw [hg]
    exact .inl ⟨rfl, h⟩
  · rename_i j want hg
    rw [hg]
    split at h
    · simp at h
    · rename_i g hj
      simp only [nthq_eq, setR_eq] at h
      split at h
      · rename_i t ht
        cases t with
        | true =>
          have e : ({ s with T := s.T.set g (.bool true) } : St) = s := by rw [set_self ht]
          simp only [cnd, cond_true, e] at h
          cases want with
          | true => exact .inl ⟨⟨g, hj, .inl ht⟩, h⟩
          | false => exact .inr ⟨⟨g, hj, .inl ht⟩, h⟩
        | false =>
          have e : ({ s with T := s.T.set g (.bool false) } : St) = s := by rw [set_self ht]
          simp only [cnd, cond_false, e] at h
          cases want with
          | true => exact .inr ⟨⟨g, hj, .inl ht⟩, h⟩
          | false => exact .inl ⟨⟨g, hj, .inl ht⟩, h⟩
      · rename_i ht
        exact .inr ⟨⟨g, hj, .inr ⟨rfl, ht⟩⟩, h⟩
      · simp at h

theorem Wt.wanted {ops : Array Oper} {o : Oper} {T : List AV} {b : Bool} (h : Wt ops o T b) (hsize : a.tmps.size = T.length) (hval : ∀ g t, (∃ j want, o.guard = some (j, want) ∧ (ops[j]?).bind (·.dst) = some g) → T[g]? = some (.bool t) → a.tmps.getD g undef = .bool t) (hval2 : ∀ g, (∃ j want, o.guard = some (j, want) ∧ (ops[j]?).bind (·.dst) = some g) → T[g]? = some .undef → a.tmps.getD g undef = undef) : Region.wanted o (yielded ops a.tmps) = b := by
  unfold Wt at h
  unfold Region.wanted
  split at h
  · rename_i hg; rw [hg, h]
  · rename_i j want hg
    rw [hg]
    obtain ⟨g, hj, ht | ⟨rfl, ht⟩⟩ := h
    rotate_left
    · have hv := hval2 g ⟨j, want, hg, hj⟩ ht
      have hlt : g < a.tmps.size := by rw [hsize]; exact (List.getElem?_eq_some_iff.1 ht).1
      have hy : yielded ops a.tmps j = none := by
        unfold yielded
        rw [hj]
        simp only [Option.bind_some]
        rw [Array.getElem?_eq_getElem hlt]
        have : a.tmps[g] = undef := by
          rw [← hv]; simp [hlt]
        rw [this]
        rfl
      simp only [hy]
      rfl
    have hv := hval g _ ⟨j, want, hg, hj⟩ ht
    have hlt : g < a.tmps.size := by rw [hsize]; exact (List.getElem?_eq_some_iff.1 ht).1
    have hy : yielded ops a.tmps j = some (if b then want else !want) := by
      unfold yielded
      rw [hj]
      simp only [Option.bind_some]
      rw [Array.getElem?_eq_getElem hlt]
      have : a.tmps[g] = .bool (if b then want else !want) := by
        rw [← hv]; simp [hlt]
      rw [this]
    simp only [hy]
    cases b <;> cases want <;> rfl
theorem Rel.undefs (h : Rel E base w0 ok en G s a w) {g : Nat} (ht : s.T[g]? = some .undef) : a.tmps.getD g undef = undef := by
  have := h.val g _ ht
  revert this
  generalize a.tmps.getD g undef = x
  intro this
  cases this with
  | data _ _ h => cases h
  | undef => rfl
theorem Rel.bools (h : Rel E base w0 ok en G s a w) {g : Nat} {t : Bool} (ht : s.T[g]? = some (.bool t)) : a.tmps.getD g undef = .bool t := (h.val g _ ht).bool_inv

/-- What is asked of the walk of an inner call. -/
def RunOK (P : Program) (E : Env) (base : Nat) (w0 : GW) (ok : Nat → Prop) (run : RunIn R) : Prop :=
  ∀ (g : Nat) (fn : Func) (args : List AV) (s : St) (k : AV → St → Option R) (r : R) (en : Ent) (G : Gam) (a : Act) (w : GW) (xs : List Value), look E.inl g = some fn → run g fn args s k = some r → Rel E base w0 ok en G s a w →
    args.length = xs.length → (∀ i (h : i < args.length) (h' : i < xs.length), VR G.D G.σ w args[i] xs[i]) →
    Calls P g xs.toArray w fun e w' => ∃ v x G' s', e = .returned x ∧ k v s' = some r ∧ Rel E base w0 ok en G' s' a w' ∧ VR G'.D G'.σ w' v x

theorem wild_wp {o : Oper} {k : St → Option R} {r : R} (h : Wild P E base w0 ok en o a k r ((execOp a.eval o).run P w)) {K : Act → GW → Prop} {Q : Exit → Act → GW → Prop} (hK : ∀ s' G' a' w', k s' = some r → Rel E base w0 ok en G' s' a' w' → K a' w') : o.wp P a w K Q := by
  obtain ⟨nx, w', x, G', s', hrun, hx, hk, hrel⟩ := h
  unfold Oper.wp
  rw [hrun]
  rcases hx with ⟨rfl, rfl⟩ | rfl
  · exact hK _ _ _ _ hk hrel
  · exact hK _ _ _ _ hk hrel

theorem calm_wp {o : Oper} {slot : Nat} {b : Option Blk} {v : AV} (h : Calm P G w slot b v ((execOp a.eval o).run P w)) {K : Act → GW → Prop} {Q : Exit → Act → GW → Prop} (hK : ∀ x G' w', Step G w slot b G' w' → VR G'.D G'.σ w' v x → K (a.put o.dst x) w') : o.wp P a w K Q := by
  unfold Oper.wp
  generalize (execOp a.eval o).run P w = res at h
  unfold Calm at h
  split at h
  · rename_i x w1
    obtain ⟨G', h1, h2⟩ := h
    exact hK x G' w1 h1 h2
  · rename_i f args w1
    obtain ⟨rfl, h⟩ := h
    refine h.mono ?_
    rintro e w2 ⟨x, rfl, G', h1, h2⟩
    exact hK x G' w2 h1 h2
  · exact h.elim

theorem frz1_length (M : Mem) (v : AV) : (frz1 M v).length = M.length := by cases v <;> simp [frz1]
theorem frzs_length : ∀ (vs : List AV) (M : Mem), (frzs M vs).length = M.length
  | [], _ => rfl
  | v :: r, M => (frzs_length r (frz1 M v)).trans (frz1_length M v)
theorem frz_length (M : Mem) (v : AV) : (frz M v).length = M.length := by
  unfold frz
  split
  · exact frzs_length _ _
  · exact frz1_length _ _
theorem frzArgs_length : ∀ (vs : List AV) (M : Mem), (frzArgs M vs).length = M.length
  | [], _ => rfl
  | v :: r, M => (frzArgs_length r (frz M v)).trans (frz_length M v)
theorem frzOp_length (ev : Operand → AV) (M : Mem) (o : Oper) : (frzOp ev M o).length = M.length := by
  unfold frzOp
  split
  · split
    · exact frzArgs_length _ _
    · rfl
  · exact frzArgs_length _ _
  · rfl
theorem plain1_vr {D D' : Nat → Prop} {σ σ' : Nat → SB} {v : AV} {x : Value} (h : plain1 v = true) (hv : VR D σ w v x) : VR D' σ' w v x := by
  cases v with
  | int k n => rw [hv.int_inv]; exact .data _ _ (.int _ _)
  | bool b => rw [hv.bool_inv]; exact .data _ _ (.bool _)
  | str s => rw [hv.str_inv]; exact .data _ _ (.str _)
  | _ => simp [plain1] at h
theorem plain_vr {D D' : Nat → Prop} {σ σ' : Nat → SB} {v : AV} {x : Value} (h : plainA v = true) (hv : VR D σ w v x) : VR D' σ' w v x := by
  unfold plainA at h
  split at h
  · obtain ⟨xs, h1, h2, rfl⟩ := hv.tup_inv
    rw [List.all_eq_true] at h
    exact .tup _ xs h1 fun i a b => plain1_vr (h _ (List.getElem_mem a)) (h2 i a b)
  · exact plain1_vr h hv
theorem opK_sound (hE : EnvOK P E) {run : RunIn R} (hrun : RunOK P E base w0 ok run) (h : Rel E base w0 ok en G s a w) {ops : Array Oper} {o : Oper} {k : St → Option R} {r : R} (hk : opK E run ops o s k = some r) {K : Act → GW → Prop} {Q : Exit → Act → GW → Prop} (hK : ∀ s' G' a' w', k s' = some r → Rel E base w0 ok en G' s' a' w' → K a' w') :
    (Region.wanted o (yielded ops a.tmps) = true ∧ o.wp P a w K Q) ∨ (Region.wanted o (yielded ops a.tmps) = false ∧ K (a.put o.dst undef) w) := by
  unfold opK at hk
  rcases guard_cases hk with ⟨hw, hk⟩ | ⟨hw, hk⟩
  · refine .inl ⟨hw.wanted h.size (fun g t _ ht => h.bools ht) (fun g _ ht => h.undefs ht), ?_⟩
    cases hwild : isWild o with
    | true =>
      rw [hwild] at hk
      exact wild_wp (wildK_sound hE h hk) hK
    | false =>
      rw [hwild] at hk
      simp only [cond_false] at hk
      split at hk
      · rename_i f fn args hc
        unfold isCallIn at hc
        split at hc
        · rename_i c ho
          split at hc
          · rename_i x hcal
            split at hc
            · rename_i p hp
              split at hc
              · rename_i fn' hfn
                cases hc
                obtain ⟨xs, e1, e2, e3⟩ := call_value (evO_sound (G := G) (w := w) (a := a) h.val) ho hcal hp
                obtain ⟨i1, i2, i3⟩ := hE.inl _ _ hfn
                unfold Oper.wp
                rw [e1, run_callFunc i1 i2 i3]
                refine (hrun _ _ _ _ _ r en G a w xs hfn hk h e2 e3).mono ?_
                rintro e w' ⟨v, x, G', s', rfl, h1, h2, h3⟩
                exact hK _ _ _ _ h1 (h2.put h3 _)
              · simp at hc
            · simp at hc
          · simp at hc
        · simp at hc
      · obtain ⟨G1, h1, hσ⟩ := h.frzOp (evO s.T) o
        obtain ⟨v, b, hk', hcalm⟩ := calm_sound hE h1.mem h1.glob h1.base (h1.mem.out _ (Nat.le_refl _)) (evO_sound (G := G1) (w := w) (a := a) h1.val) (by
          simp only [frzOp_length]
          exact hk)
        cases hpl : (plainA v && b.isNone) with
        | false =>
          rw [hpl] at hk'
          refine calm_wp hcalm fun x G' w' hst hv => ?_
          exact hK _ _ _ _ hk' ((h1.push hst).put hv _)
        | true =>
          rw [hpl] at hk'
          rw [Bool.and_eq_true] at hpl
          have hb : b = none := Option.isNone_iff_eq_none.1 hpl.2
          subst hb
          refine calm_wp hcalm fun x G' w' hst hv => ?_
          have hst2 : Step G w s.M.length none G w' := ⟨hst.below, fun _ h => h, fun _ h => .inl h, fun _ _ => rfl, rfl⟩
          have hv2 : VR G.D G.σ w' v x := plain_vr hpl.1 hv
          exact hK _ _ _ _ hk' ((h.push hst2).put hv2 _)
  · exact .inr ⟨hw.wanted h.size (fun g t _ ht => h.bools ht) (fun g _ ht => h.undefs ht), hK _ _ _ _ hk (h.put .undef _)⟩

theorem opsK_sound (hE : EnvOK P E) {run : RunIn R} (hrun : RunOK P E base w0 ok run) {ops : Array Oper} {k : St → Option R} {r : R} {Q : Exit → Act → GW → Prop} (hQ : ∀ s' G' a' w', k s' = some r → Rel E base w0 ok en G' s' a' w' → Q .normal a' w') :
    ∀ (l : List Oper) (s : St) (G : Gam) (a : Act) (w : GW), opsK E run ops l s k = some r → Rel E base w0 ok en G s a w → wpList P ops Q l a w
  | [], s, G, a, w, hk, h => hQ _ _ _ _ hk h
  | o :: l, s, G, a, w, hk, h => by
    unfold opsK at hk
    have := opK_sound hE hrun h hk (K := wpList P ops Q l) (Q := Q) fun s' G' a' w' hk' h' => opsK_sound hE hrun hQ l s' G' a' w' (by rw [fO_eq] at hk'; exact hk') h'
    unfold wpList
    rcases this with ⟨h1, h2⟩ | ⟨h1, h2⟩
    · rw [if_pos h1]; exact .inl h2
    · rw [if_neg (by rw [h1]; simp)]; exact h2
end Go.Sx
