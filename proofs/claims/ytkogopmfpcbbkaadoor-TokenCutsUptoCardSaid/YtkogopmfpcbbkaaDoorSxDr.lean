/-
  SX: regions that draw their order.
-/
import Derived.Test.YtkogopmfpcbbkaaDoorSxB
set_option linter.unusedVariables false
set_option linter.unusedSimpArgs false
namespace Go.Sx
open Go
open Go.RowKit (Below)
variable {P : Program} {E : Env} {base : Nat} {w0 : GW} {ok : Nat → Prop} {en : Ent} {G G' : Gam} {s : St} {a : Act} {w w' : GW} {R : Type} {M : Mem}

abbrev Oc := Option (AV × Option Blk)
noncomputable def applyOc (n0 i : Nat) (o : Oper) (s : St) : Oc → St
  | some p => ({ s with M := s.M.set (n0 + i) (frzV p.2) } : St).put o.dst p.1
  | none => s.put o.dst .undef
/-- The state when just the operations of S are done. -/
noncomputable def accS (n0 : Nat) (S : Nat → Bool) : Nat → List Oper → List Oc → St → St
  | i, o :: r, c :: tr, s => accS n0 S (i + 1) r tr (bif S i then applyOc n0 i o s c else s)
  | _, _, _, s => s
/-- What one operation came to. -/
def OcOK (E : Env) (ops : Array Oper) (bf : List Nat) (n0 i : Nat) (o : Oper) (s : St) : Oc → Prop
  | some p => Wt ops o s.T true ∧ (calmK E (evM s.T o) (restr n0 (bf.getD i 0) 0 s.M) (n0 + i) o fun v b => some (v, b)) = some p
  | none => Wt ops o s.T false
def TrOK (E : Env) (ops : Array Oper) (bf : List Nat) (n0 : Nat) : Nat → List Oper → List Oc → St → Prop
  | _, [], [], _ => True
  | i, o :: r, c :: tr, s => OcOK E ops bf n0 i o s c ∧ TrOK E ops bf n0 (i + 1) r tr (applyOc n0 i o s c)
  | _, _, _, _ => False

theorem calms_trace (hctr : ∀ f c, look E.ctr f = some c → ∀ (R : Type) (args : List AV) (k : AV → Option R), c.run args k = (c.run args some).bind k) {ops : Array Oper} {bf : List Nat} {n0 : Nat} {k : St → Option R} {r : R} :
    ∀ (l : List Oper) (i : Nat) (s : St), calmsK E ops bf n0 i l s k = some r → ∃ tr, TrOK E ops bf n0 i l tr s ∧ k (accS n0 (fun _ => true) i l tr s) = some r
  | [], i, s, h => ⟨[], trivial, h⟩
  | o :: l, i, s, h => by
    unfold calmsK at h
    rcases guard_cases h with ⟨hw, h⟩ | ⟨hw, h⟩
    · rw [calmK_nat hctr] at h
      obtain ⟨p, hp, h⟩ := Option.bind_eq_some_iff.1 h
      rw [fS_eq] at h
      obtain ⟨tr, h1, h2⟩ := calms_trace hctr l (i + 1) _ h
      exact ⟨some p :: tr, ⟨⟨hw, hp⟩, h1⟩, h2⟩
    · rw [fO_eq] at h
      obtain ⟨tr, h1, h2⟩ := calms_trace hctr l (i + 1) _ h
      exact ⟨none :: tr, ⟨hw, h1⟩, h2⟩

theorem accS_none {n0 : Nat} {S : Nat → Bool} : ∀ (l : List Oper) (tr : List Oc) (i : Nat) (s : St), (∀ q, i ≤ q → S q = false) → accS n0 S i l tr s = s
  | [], _, _, _, _ => rfl
  | _ :: _, [], _, _, _ => rfl
  | o :: l, c :: tr, i, s, h => by
    unfold accS
    rw [h i (Nat.le_refl _)]
    exact accS_none l tr (i + 1) s fun q hq => h q (by omega)
theorem accS_congr {n0 : Nat} {S S' : Nat → Bool} : ∀ (l : List Oper) (tr : List Oc) (i : Nat) (s : St), (∀ q, i ≤ q → q < i + l.length → S q = S' q) → accS n0 S i l tr s = accS n0 S' i l tr s
  | [], _, _, _, _ => by unfold accS; rfl
  | _ :: _, [], _, _, _ => by unfold accS; rfl
  | o :: l, c :: tr, i, s, h => by
    unfold accS
    rw [h i (Nat.le_refl _) (by simp)]
    exact accS_congr l tr (i + 1) _ fun q hq hq' => h q (by omega) (by simp; omega)

theorem trace_get {ops : Array Oper} {bf : List Nat} {n0 : Nat} : ∀ (l : List Oper) (tr : List Oc) (i : Nat) (s : St), TrOK E ops bf n0 i l tr s → tr.length = l.length ∧ ∀ j (h : j < l.length) (h' : j < tr.length), OcOK E ops bf n0 (i + j) l[j] (accS n0 (fun q => decide (q < i + j)) i l tr s) tr[j]
  | [], [], _, _, _ => ⟨rfl, fun j h => by simp at h⟩
  | [], _ :: _, _, _, h => h.elim
  | _ :: _, [], _, _, h => h.elim
  | o :: l, c :: tr, i, s, h => by
    obtain ⟨h1, h2⟩ := h
    obtain ⟨h3, h4⟩ := trace_get l tr (i + 1) _ h2
    refine ⟨by simp [h3], fun j hj hj' => ?_⟩
    cases j with
    | zero =>
      rw [accS_none _ _ _ _ fun q hq => by simp; omega]
      exact h1
    | succ j =>
      have := h4 j (by simpa using hj) (by simpa using hj')
      simp only [List.getElem_cons_succ]
      rw [show i + (j + 1) = i + 1 + j by omega]
      unfold accS
      rw [show decide (i < i + 1 + j) = true by simp; omega]
      exact this

theorem applyOc_T (n0 i : Nat) (o : Oper) (s : St) (c : Oc) (t : Nat) (h : o.dst ≠ some t) : (applyOc n0 i o s c).T[t]? = s.T[t]? := by
  have : ∀ (s : St) (v : AV), (s.put o.dst v).T[t]? = s.T[t]? := by
    intro s v
    unfold St.put
    split
    · rename_i d hd
      simp only [setR_eq]
      have : d ≠ t := fun e => h (by rw [hd, e])
      simp [List.getElem?_set_ne this]
    · rfl
  cases c with
  | some p => exact this _ _
  | none => exact this _ _
theorem applyOc_T' (n0 i : Nat) (o : Oper) (s s' : St) (c : Oc) (t : Nat) (h : o.dst = some t) (hs : s.T[t]? = s'.T[t]?) : (applyOc n0 i o s c).T[t]? = (applyOc n0 i o s' c).T[t]? := by
  have : ∀ (s s' : St) (v : AV), s.T[t]? = s'.T[t]? → (s.put o.dst v).T[t]? = (s'.put o.dst v).T[t]? := by
    intro s s' v hs
    unfold St.put
    rw [h]
    simp only [setR_eq]
    simp only [List.getElem?_set_self', hs]
  cases c with
  | some p => exact this _ _ _ hs
  | none => exact this _ _ _ hs
theorem accS_T {n0 : Nat} {S S' : Nat → Bool} {t : Nat} : ∀ (l : List Oper) (tr : List Oc) (i : Nat) (s s' : St), s.T[t]? = s'.T[t]? → (∀ j (h : j < l.length), l[j].dst = some t → S (i + j) = S' (i + j)) →
    (accS n0 S i l tr s).T[t]? = (accS n0 S' i l tr s').T[t]?
  | [], _, _, _, _, h, _ => by unfold accS; exact h
  | _ :: _, [], _, _, _, h, _ => by unfold accS; exact h
  | o :: l, c :: tr, i, s, s', h, hS => by
    unfold accS
    refine accS_T l tr (i + 1) _ _ ?_ fun j hj hd => by
      have := hS (j + 1) (by simpa using hj) (by simpa using hd)
      rw [show i + (j + 1) = i + 1 + j by omega] at this
      exact this
    by_cases hd : o.dst = some t
    · have := hS 0 (by simp) (by simpa using hd)
      simp only [Nat.add_zero] at this
      rw [this]
      cases S' i with
      | true => exact applyOc_T' n0 i o s s' c t hd h
      | false => exact h
    · have e : ∀ (b : Bool) (s : St), (bif b then applyOc n0 i o s c else s).T[t]? = s.T[t]? := by
        intro b s
        cases b with
        | true => exact applyOc_T n0 i o s c t hd
        | false => rfl
      rw [e, e]; exact h
theorem put_M (s : St) (d : Option Nat) (v : AV) : (s.put d v).M = s.M := by cases d <;> rfl
theorem put_lo (s : St) (d : Option Nat) (v : AV) : (s.put d v).lo = s.lo ∧ (s.put d v).lock = s.lock ∧ (s.put d v).T.length = s.T.length := by cases d <;> simp [St.put, setR_eq]
theorem applyOc_M (n0 i : Nat) (o : Oper) (s : St) (c : Oc) : (applyOc n0 i o s c).M = match c with | some p => s.M.set (n0 + i) (frzV p.2) | none => s.M := by
  cases c <;> exact put_M _ _ _
theorem accS_M {n0 : Nat} {S S' : Nat → Bool} {q : Nat} : ∀ (l : List Oper) (tr : List Oc) (i : Nat) (s s' : St), s.M[q]? = s'.M[q]? → (∀ j (_ : j < l.length), n0 + (i + j) = q → S (i + j) = S' (i + j)) →
    (accS n0 S i l tr s).M[q]? = (accS n0 S' i l tr s').M[q]?
  | [], _, _, _, _, h, _ => by unfold accS; exact h
  | _ :: _, [], _, _, _, h, _ => by unfold accS; exact h
  | o :: l, c :: tr, i, s, s', h, hS => by
    unfold accS
    refine accS_M l tr (i + 1) _ _ ?_ fun j hj hd => by
      have := hS (j + 1) (by simpa using hj) (by omega)
      rw [show i + (j + 1) = i + 1 + j by omega] at this
      exact this
    by_cases hq : n0 + i = q
    · have := hS 0 (by simp) (by omega)
      simp only [Nat.add_zero] at this
      rw [this]
      cases S' i with
      | false => exact h
      | true =>
        simp only [cond_true, applyOc_M]
        cases c with
        | none => exact h
        | some p => subst hq; simp only [List.getElem?_set_self', h]
    · have e : ∀ (b : Bool) (s : St), (bif b then applyOc n0 i o s c else s).M[q]? = s.M[q]? := by
        intro b s
        cases b with
        | false => rfl
        | true =>
          simp only [cond_true, applyOc_M]
          cases c with
          | none => rfl
          | some p => simp only [List.getElem?_set_ne hq]
      rw [e, e]; exact h
theorem accS_len {n0 : Nat} {S : Nat → Bool} : ∀ (l : List Oper) (tr : List Oc) (i : Nat) (s : St), (accS n0 S i l tr s).M.length = s.M.length ∧ (accS n0 S i l tr s).T.length = s.T.length
  | [], _, _, _ => by unfold accS; exact ⟨rfl, rfl⟩
  | _ :: _, [], _, _ => by unfold accS; exact ⟨rfl, rfl⟩
  | o :: l, c :: tr, i, s => by
    unfold accS
    obtain ⟨h1, h2⟩ := accS_len l tr (i + 1) (bif S i then applyOc n0 i o s c else s)
    rw [h1, h2]
    cases S i with
    | false => exact ⟨rfl, rfl⟩
    | true =>
      simp only [cond_true]
      refine ⟨?_, ?_⟩
      · rw [applyOc_M]; cases c <;> simp
      · cases c with
        | none => exact (put_lo _ _ _).2.2
        | some p => exact (put_lo _ _ _).2.2

theorem apply_comm {n0 i i' : Nat} {o o' : Oper} (s : St) (c c' : Oc) (hi : i ≠ i') (hd : ∀ d, o.dst = some d → o'.dst ≠ some d) : applyOc n0 i o (applyOc n0 i' o' s c') c = applyOc n0 i' o' (applyOc n0 i o s c) c' := by
  have hn : n0 + i ≠ n0 + i' := by omega
  have hp : ∀ (s : St) (v v' : AV), (s.put o'.dst v').put o.dst v = (s.put o.dst v).put o'.dst v' := by
    intro s v v'
    cases h : o.dst with
    | none => cases h' : o'.dst <;> rfl
    | some d => cases h' : o'.dst with
      | none => rfl
      | some d' =>
        have : d' ≠ d := fun e => hd d h (by rw [h', e])
        simp only [St.put, setR_eq, List.set_comm _ _ this]
  have hpm : ∀ (s : St) (d : Option Nat) (v : AV) (M : Mem), ({ s.put d v with M := M } : St) = ({ s with M := M } : St).put d v := by
    intro s d v M; cases d <;> rfl
  cases c with
  | none =>
    cases c' with
    | none => exact hp _ _ _
    | some p' => simp only [applyOc, put_M, hpm]; exact hp _ _ _
  | some p =>
    cases c' with
    | none => simp only [applyOc, put_M, hpm]; exact hp _ _ _
    | some p' =>
      simp only [applyOc, put_M, hpm]
      rw [hp, List.set_comm _ _ hn.symm]
theorem accS_comm {n0 i0 : Nat} {S : Nat → Bool} {o : Oper} {c : Oc} : ∀ (l : List Oper) (tr : List Oc) (i : Nat) (s : St), i0 < i → (∀ j (h : j < l.length), S (i + j) = true → ∀ d, o.dst = some d → l[j].dst ≠ some d) →
    accS n0 S i l tr (applyOc n0 i0 o s c) = applyOc n0 i0 o (accS n0 S i l tr s) c
  | [], _, _, _, _, _ => by unfold accS; rfl
  | _ :: _, [], _, _, _, _ => by unfold accS; rfl
  | o' :: l, c' :: tr, i, s, hi, hS => by
    unfold accS
    have key : (bif S i then applyOc n0 i o' (applyOc n0 i0 o s c) c' else applyOc n0 i0 o s c) = applyOc n0 i0 o (bif S i then applyOc n0 i o' s c' else s) c := by
      cases hb : S i with
      | false => rfl
      | true =>
        simp only [cond_true]
        refine (apply_comm s c c' (by omega) fun d hd => ?_).symm
        exact hS 0 (by simp) (by simpa using hb) d hd
    rw [key]
    refine accS_comm l tr (i + 1) _ (by omega) fun j hj hs d hd => ?_
    have := hS (j + 1) (by simpa using hj) (by rw [show i + (j + 1) = i + 1 + j by omega]; exact hs) d hd
    simpa using this
/-- One operation more. -/
theorem accS_add {n0 : Nat} {S S' : Nat → Bool} : ∀ (l : List Oper) (tr : List Oc) (i : Nat) (s : St) (j : Nat) (h : j < l.length) (h' : j < tr.length), S (i + j) = false → S' (i + j) = true → (∀ q, q ≠ i + j → S' q = S q) →
    (∀ q (hq : q < l.length), j < q → S (i + q) = true → ∀ d, l[j].dst = some d → l[q].dst ≠ some d) → accS n0 S' i l tr s = applyOc n0 (i + j) l[j] (accS n0 S i l tr s) tr[j]
  | [], _, _, _, _, h, _, _, _, _, _ => by simp at h
  | _ :: _, [], _, _, _, _, h, _, _, _, _ => by simp at h
  | o :: l, c :: tr, i, s, j, h, h', h1, h2, h3, h4 => by
    unfold accS
    cases j with
    | zero =>
      simp only [Nat.add_zero] at h1 h2 h3 ⊢
      rw [h1, h2]
      simp only [cond_true, cond_false, List.getElem_cons_zero]
      rw [accS_congr l tr (i + 1) _ (S := S') (S' := S) fun q hq _ => h3 q (by omega)]
      refine accS_comm l tr (i + 1) s (by omega) fun q hq hs d hd => ?_
      have := h4 (q + 1) (by simpa using hq) (by omega) (by rw [show i + (q + 1) = i + 1 + q by omega]; exact hs) d hd
      simpa using this
    | succ j =>
      rw [h3 i (by omega)]
      have e : i + (j + 1) = i + 1 + j := by omega
      rw [e] at h1 h2 h3 ⊢
      refine accS_add l tr (i + 1) _ j (by simpa using h) (by simpa using h') h1 h2 h3 fun q hq hjq hs d hd => ?_
      have := h4 (q + 1) (by simpa using hq) (by omega) (by rw [show i + (q + 1) = i + 1 + q by omega]; exact hs) d (by simpa using hd)
      simpa using this

/-! what an operation waits for -/
theorem bef1_bit {acc : List Nat} {q : Nat} : ∀ {es : List Edge}, Nat.testBit (bef1 acc es) q = true → ∃ e ∈ es, Region.binds .any e = true ∧ (q = e.on ∨ Nat.testBit (acc.getD e.on 0) q = true)
  | [], h => by simp [bef1] at h
  | e :: r, h => by
    unfold bef1 at h
    cases hb : Region.binds .any e with
    | false =>
      rw [hb] at h
      obtain ⟨e', h1, h2⟩ := bef1_bit h
      exact ⟨e', by simp [h1], h2⟩
    | true =>
      rw [hb] at h
      simp only [cond_true] at h
      have h' : Nat.testBit ((2 ^ e.on ||| acc.getD e.on 0) ||| bef1 acc r) q = true := h
      simp only [Nat.testBit_or, Bool.or_eq_true, Nat.testBit_two_pow, decide_eq_true_eq] at h'
      rcases h' with (h' | h') | h'
      · exact ⟨e, by simp, hb, .inl h'.symm⟩
      · exact ⟨e, by simp, hb, .inr h'⟩
      · obtain ⟨e', h1, h2⟩ := bef1_bit h'
        exact ⟨e', by simp [h1], h2⟩
theorem bef1_mem {acc : List Nat} {e : Edge} : ∀ {es : List Edge}, e ∈ es → Region.binds .any e = true → Nat.testBit (bef1 acc es) e.on = true
  | [], h, _ => by simp at h
  | e' :: r, h, hb => by
    unfold bef1
    rcases List.mem_cons.1 h with rfl | h
    · rw [hb]
      show Nat.testBit ((2 ^ e.on ||| acc.getD e.on 0) ||| bef1 acc r) e.on = true
      simp [Nat.testBit_or, Nat.testBit_two_pow]
    · have ih := bef1_mem (acc := acc) h hb
      cases hb' : Region.binds .any e' with
      | false => exact ih
      | true =>
        show Nat.testBit ((2 ^ e'.on ||| acc.getD e'.on 0) ||| bef1 acc r) e.on = true
        rw [Nat.testBit_or, ih, Bool.or_true]
theorem befL_spec : ∀ (l : List Oper) (acc : List Nat), (befL l acc).length = acc.length + l.length ∧ (befL l acc).take acc.length = acc ∧ ∀ p (h : p < l.length), (befL l acc).getD (acc.length + p) 0 = bef1 ((befL l acc).take (acc.length + p)) l[p].after.toList
  | [], acc => ⟨by simp [befL], by simp [befL], fun p h => by simp at h⟩
  | o :: r, acc => by
    obtain ⟨h1, h2, h3⟩ := befL_spec r (acc ++ [bef1 acc o.after.toList])
    simp only [List.length_append, List.length_singleton] at h1 h2 h3
    have e : befL (o :: r) acc = befL r (acc ++ [bef1 acc o.after.toList]) := rfl
    rw [e]
    have htake : (befL r (acc ++ [bef1 acc o.after.toList])).take acc.length = acc := by
      have := congrArg (List.take acc.length) h2
      rw [List.take_take, Nat.min_eq_left (by omega)] at this
      rw [this]; simp
    refine ⟨by rw [h1]; simp; omega, htake, fun p hp => ?_⟩
    cases p with
    | zero =>
      simp only [Nat.add_zero, List.getElem_cons_zero, htake]
      have : (befL r (acc ++ [bef1 acc o.after.toList]))[acc.length]? = some (bef1 acc o.after.toList) := by
        have := congrArg (fun l => l[acc.length]?) h2
        simp only [List.getElem?_take] at this
        rw [if_pos (by omega)] at this
        rw [this]; simp
      rw [List.getD_eq_getElem?_getD, this]; rfl
    | succ p =>
      have := h3 p (by simpa using hp)
      rw [show acc.length + 1 + p = acc.length + (p + 1) by omega] at this
      simpa using this

theorem restr_get {n0 bits : Nat} : ∀ (M : Mem) (i p : Nat), (restr n0 bits i M)[p]? = (M[p]?).map fun b => bif Nat.blt (i + p) n0 then b else bif Nat.testBit bits (i + p - n0) then b else .dead
  | [], _, _ => by simp [restr]
  | b :: r, i, p => by
    unfold restr
    cases p with
    | zero => simp
    | succ p =>
      simp only [List.getElem?_cons_succ]
      rw [restr_get r (i + 1) p, show i + 1 + p = i + (p + 1) by omega]
theorem restr_len {n0 bits : Nat} : ∀ (M : Mem) (i : Nat), (restr n0 bits i M).length = M.length
  | [], _ => rfl
  | b :: r, i => by simp [restr, restr_len r (i + 1)]
theorem mutC_dead (sb : SB) : mutC sb .dead = none := by cases sb <;> rfl
theorem MemOK.mask {M' : Mem} (hm : MemOK base ok G w M) (h : ∀ (q : Nat) (x : Blk), M'[q]? = some x → x = .dead ∨ M[q]? = some x) (hl : M'.length = M.length) : MemOK base ok G w M' := by
  refine ⟨fun b x hb => ?_, fun b x c hb hc => ?_, fun b b' x x' c hb hc hb' hc' => ?_, hm.dlt, hm.dok, fun b hb => hm.out b (by omega)⟩
  · rcases h b x hb with rfl | h
    · trivial
    · exact hm.blocks b x h
  · rcases h b x hb with rfl | h
    · rw [mutC_dead] at hc; cases hc
    · exact hm.own b x c h hc
  · rcases h b x hb with rfl | h1
    · rw [mutC_dead] at hc; cases hc
    · rcases h b' x' hb' with rfl | h2
      · rw [mutC_dead] at hc'; cases hc'
      · exact hm.apart b b' x x' c h1 hc h2 hc'
end Go.Sx
