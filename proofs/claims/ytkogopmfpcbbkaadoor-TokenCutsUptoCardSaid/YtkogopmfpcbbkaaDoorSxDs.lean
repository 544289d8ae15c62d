/-
  SX: regions that draw their order, the walk.
-/
import Derived.Test.YtkogopmfpcbbkaaDoorSxDr
set_option linter.unusedVariables false
set_option linter.unusedSimpArgs false
namespace Go.Sx
open Go
open Go.RowKit (Below)
variable {P : Program} {E : Env} {base : Nat} {w0 : GW} {ok : Nat → Prop} {en : Ent} {G G' : Gam} {s : St} {a : Act} {w w' : GW} {R : Type} {M : Mem}

/-- What drawOK tells. -/
structure Drawn (ops : Array Oper) (bf : List Nat) (m : Nat) : Prop where
  lt : ∀ j q, j < ops.size → Nat.testBit (bf.getD j 0) q = true → q < j
  apart : ∀ i j (hj : j < ops.size) (hi : i < j), j < m → Nat.testBit (bf.getD j 0) i = true ∨ (ops[i]).apart ops ops[j] = true
  chain : ∀ i j, j < ops.size → m ≤ j → i < j → Nat.testBit (bf.getD j 0) i = true
  bit : ∀ j (hj : j < ops.size) e, e ∈ (ops[j]).after.toList → Region.binds .any e = true → Nat.testBit (bf.getD j 0) e.on = true
  edge : ∀ j q (hj : j < ops.size), Nat.testBit (bf.getD j 0) q = true → ∃ e ∈ (ops[j]).after.toList, Region.binds .any e = true ∧ (q = e.on ∨ (e.on < j ∧ Nat.testBit (bf.getD e.on 0) q = true))

theorem drawn_of {ops : Array Oper} {m : Nat} (h : drawOK ops (befL ops.toList []) m ops.toList.length = true) : Drawn ops (befL ops.toList []) m := by
  unfold drawOK at h
  rw [List.all_eq_true] at h
  have hj : ∀ j, j < ops.size → Nat.blt ((befL ops.toList []).getD j 0) (2 ^ j) = true ∧ (bif Nat.blt j m then (List.range j).all (fun i => Nat.testBit ((befL ops.toList []).getD j 0) i || apartAt ops i j) else Nat.beq ((befL ops.toList []).getD j 0 + 1) (2 ^ j)) = true := by
    intro j hj
    have := h j (by simp; exact hj)
    simpa only [Bool.and_eq_true] using this
  obtain ⟨b1, b2, b3⟩ := befL_spec ops.toList []
  have hlt : ∀ j q, j < ops.size → Nat.testBit ((befL ops.toList []).getD j 0) q = true → q < j := by
    intro j q h1 h2
    have h3 : (befL ops.toList []).getD j 0 < 2 ^ j := Nat.le_of_ble_eq_true (hj j h1).1
    rcases Nat.lt_or_ge q j with h4 | h4
    · exact h4
    · have : (befL ops.toList []).getD j 0 < 2 ^ q := Nat.lt_of_lt_of_le h3 (Nat.pow_le_pow_right (by omega) h4)
      rw [Nat.testBit_lt_two_pow this] at h2
      cases h2
  refine ⟨hlt, ?_, ?_, ?_, ?_⟩
  · intro i j h1 h2 h3
    have := (hj j h1).2
    rw [show Nat.blt j m = true from Nat.ble_eq_true_of_le h3] at this
    simp only [cond_true, List.all_eq_true, List.mem_range, Bool.or_eq_true] at this
    rcases this i h2 with h4 | h4
    · exact .inl h4
    · refine .inr ?_
      unfold apartAt at h4
      rw [Array.getElem?_eq_getElem (by omega), Array.getElem?_eq_getElem h1] at h4
      exact h4
  · intro i j h1 h2 h3
    have := (hj j h1).2
    have e : Nat.blt j m = false := by
      cases hb : Nat.blt j m with
      | false => rfl
      | true => have : j < m := Nat.le_of_ble_eq_true hb; omega
    rw [e] at this
    simp only [cond_false] at this
    have h4 := Nat.eq_of_beq_eq_true this
    have h5 : (befL ops.toList []).getD j 0 = 2 ^ j - 1 := by omega
    rw [h5, Nat.testBit_two_pow_sub_one]
    simpa using h3
  · intro j h1 e he hb
    have h3 := b3 j (by simpa using h1)
    simp only [List.length_nil, Nat.zero_add] at h3
    rw [h3]
    exact bef1_mem (by simpa using he) hb
  · intro j q h1 h2
    have h3 := b3 j (by simpa using h1)
    simp only [List.length_nil, Nat.zero_add] at h3
    rw [h3] at h2
    obtain ⟨e, he, hb, hq⟩ := bef1_bit h2
    refine ⟨e, by simpa using he, hb, ?_⟩
    rcases hq with hq | hq
    · exact .inl hq
    · refine .inr ?_
      rw [List.getD_eq_getElem?_getD, List.getElem?_take] at hq
      by_cases hlt' : e.on < j
      · rw [if_pos hlt', ← List.getD_eq_getElem?_getD] at hq
        exact ⟨hlt', hq⟩
      · rw [if_neg hlt'] at hq
        simp at hq

/-- Closed against what is waited for. -/
def Closed (ops : Array Oper) (bf : List Nat) (S : Nat → Bool) : Prop := ∀ j, j < ops.size → S j = true → ∀ q, Nat.testBit (bf.getD j 0) q = true → S q = true

structure InvS (E : Env) (base : Nat) (w0 : GW) (ok : Nat → Prop) (en : Ent) (n0 : Nat) (hd : List Oper) (tr : List Oc) (s0 : St) (S : Nat → Bool) (G : Gam) (a : Act) (w : GW) : Prop where
  rel : Rel E base w0 ok en G (accS n0 S 0 hd tr s0) a w
  none : ∀ j, j < hd.length → S j = false → G.σ (n0 + j) = .none

theorem apart_looks {ops : Array Oper} {x y : Oper} (h : x.apart ops y = true) : (∀ d, x.dst = some d → d ∉ y.looksAt ops) ∧ (∀ d, y.dst = some d → d ∉ x.looksAt ops) ∧ (∀ d, x.dst = some d → y.dst ≠ some d) :=
  let ⟨a, b, c⟩ := Oper.apart_spec h
  ⟨a, c, b⟩

/-- Where the operation looks, the state is as it was told. -/
theorem looks_same {ops : Array Oper} {bf : List Nat} {m : Nat} (hD : Drawn ops bf m) (hm : m ≤ ops.size) {n0 : Nat} {tr : List Oc} {s0 : St} {S : Nat → Bool} (hS : Closed ops bf S) {i : Nat} (hi : i < m) (hSi : S i = false) (hbits : ∀ q, Nat.testBit (bf.getD i 0) q = true → S q = true)
    {t : Nat} (ht : t ∈ (ops[i]'(by omega)).looksAt ops) : (accS n0 S 0 (ops.toList.take m) tr s0).T[t]? = (accS n0 (fun q => decide (q < 0 + i)) 0 (ops.toList.take m) tr s0).T[t]? := by
  refine accS_T _ _ _ _ _ rfl fun j hj hd => ?_
  simp only [Nat.zero_add]
  have hjm : j < m := by simp at hj; omega
  have hd' : (ops[j]'(by omega)).dst = some t := by simpa using hd
  by_cases hji : j < i
  · rw [decide_eq_true hji]
    rcases hD.apart j i (by omega) hji hi with h | h
    · exact hbits j h
    · exact absurd ht ((apart_looks h).1 t hd')
  · rw [decide_eq_false hji]
    by_cases e : j = i
    · rw [e]; exact hSi
    · rcases hD.apart i j (by omega) (by omega) hjm with h | h
      · cases hSj : S j with
        | false => rfl
        | true =>
          have := hS j (by omega) hSj i h
          rw [hSi] at this; cases this
      · exact absurd ht ((apart_looks h).2.1 t hd')

theorem head_step (hE : EnvOK P E) {ops : Array Oper} {bf : List Nat} {m : Nat} (hD : Drawn ops bf m) (hm : m ≤ ops.size) {n0 : Nat} {tr : List Oc} {s0 : St} (hn0 : n0 + m = s0.M.length) (hlen : tr.length = (ops.toList.take m).length)
    (hdead : ∀ j, j < m → s0.M[n0 + j]? = some .dead)
    (htr : ∀ j (h : j < (ops.toList.take m).length) (h' : j < tr.length), OcOK E ops bf n0 (0 + j) (ops.toList.take m)[j] (accS n0 (fun q => decide (q < 0 + j)) 0 (ops.toList.take m) tr s0) tr[j])
    {S S' : Nat → Bool} (hS : Closed ops bf S) {i : Nat} (hi : i < m) (hSi : S i = false) (hbits : ∀ q, Nat.testBit (bf.getD i 0) q = true → S q = true) (hS' : S' i = true) (hSS : ∀ q, q ≠ i → S' q = S q)
    (h : InvS E base w0 ok en n0 (ops.toList.take m) tr s0 S G a w) {K : Act → GW → Prop} {Q : Exit → Act → GW → Prop} (hK : ∀ G' a' w', InvS E base w0 ok en n0 (ops.toList.take m) tr s0 S' G' a' w' → K a' w') : wpOp P ops Q i K a w := by
  have hil : i < (ops.toList.take m).length := by simp; omega
  have hoc := htr i hil (by omega)
  have hadd := accS_add (n0 := n0) (S := S) (S' := S') (ops.toList.take m) tr 0 s0 i hil (by omega) (by simpa using hSi) (by simpa using hS') (by simpa using hSS) (fun q hq hiq hSq d hd => by
    simp only [Nat.zero_add] at hSq
    have hqm : q < m := by simp at hq; omega
    rcases hD.apart i q (by omega) hiq hqm with hh | hh
    · have := hS q (by omega) hSq i hh
      rw [hSi] at this; cases this
    · have := (apart_looks hh).2.2 d (by simpa using hd)
      simpa using this)
  simp only [Nat.zero_add] at hoc hadd
  have hlook := fun t (ht : t ∈ (ops[i]'(by omega)).looksAt ops) => looks_same (n0 := n0) (tr := tr) (s0 := s0) hD hm hS hi hSi hbits ht
  simp only [Nat.zero_add] at hlook
  have hoi : (ops.toList.take m)[i] = ops[i]'(by omega) := by simp
  rw [hoi] at hoc hadd
  have hwt : ∀ b, Wt ops (ops[i]'(by omega)) (accS n0 (fun q => decide (q < i)) 0 (ops.toList.take m) tr s0).T b → Region.wanted (ops[i]'(by omega)) (yielded ops a.tmps) = b := by
    intro b hb
    have hin : ∀ g, (∃ j want, (ops[i]'(by omega)).guard = some (j, want) ∧ (ops[j]?).bind (·.dst) = some g) → g ∈ (ops[i]'(by omega)).looksAt ops := by
      rintro g ⟨j, want, hgu, hj⟩
      unfold Oper.looksAt
      rw [hgu]
      simp only [List.mem_append]
      exact .inr (by simp [hj])
    refine hb.wanted ?_ (fun g t hg ht => ?_) (fun g hg ht => ?_)
    · rw [h.rel.size, (accS_len _ _ _ _).2, (accS_len _ _ _ _).2]
    · rw [← hlook g (hin g hg)] at ht
      exact h.rel.bools ht
    · rw [← hlook g (hin g hg)] at ht
      exact h.rel.undefs ht
  unfold wpOp
  rw [Array.getElem?_eq_getElem (by omega : i < ops.size)]
  simp only
  cases hc : tr[i] with
  | none =>
    rw [hc] at hoc hadd
    rw [if_neg (by rw [hwt false hoc]; simp)]
    refine hK G _ _ ⟨?_, fun j hj hSj => h.none j hj ?_⟩
    · rw [hadd]; exact h.rel.put .undef _
    · by_cases e : j = i
      · subst e; exact hSi
      · rw [← hSS j e]; exact hSj
  | some p =>
    rw [hc] at hoc hadd
    obtain ⟨hw, hp⟩ := hoc
    rw [if_pos (hwt true hw)]
    refine .inl ?_
    have hMS : (accS n0 S 0 (ops.toList.take m) tr s0).M.length = s0.M.length := (accS_len _ _ _ _).1
    have hslotM : (accS n0 S 0 (ops.toList.take m) tr s0).M[n0 + i]? = some .dead := by
      rw [← hdead i hi]
      have := accS_M (n0 := n0) (S := S) (S' := fun _ => false) (q := n0 + i) (ops.toList.take m) tr 0 s0 s0 rfl (fun j hj hq => by
        have : j = i := by omega
        subst this
        simpa using hSi)
      rw [this, accS_none _ _ _ _ (fun _ _ => rfl)]
    have hslot : G.σ (n0 + i) = .none := h.none i hil hSi
    have hmask : MemOK base ok G w (restr n0 (bf.getD i 0) 0 (accS n0 (fun q => decide (q < i)) 0 (ops.toList.take m) tr s0).M) := by
      refine h.rel.mem.mask (fun q x hq => ?_) ?_
      · rw [restr_get] at hq
        obtain ⟨y, hy, hx⟩ := Option.map_eq_some_iff.1 hq
        simp only [Nat.zero_add] at hx
        have same : ∀ (hsame : ∀ j, j < (ops.toList.take m).length → n0 + j = q → S j = decide (j < i)), (accS n0 S 0 (ops.toList.take m) tr s0).M[q]? = some y := by
          intro hsame
          rw [← hy]
          exact accS_M _ _ _ _ _ rfl fun j hj hq => by simpa using hsame j hj (by omega)
        cases hb : Nat.blt q n0 with
        | true =>
          rw [hb] at hx
          have hqn : q < n0 := Nat.le_of_ble_eq_true hb
          right
          rw [← show y = x from hx]
          exact same fun j _ e => by omega
        | false =>
          rw [hb] at hx
          simp only [cond_false] at hx
          cases hbit : Nat.testBit (bf.getD i 0) (q - n0) with
          | false => rw [hbit] at hx; exact .inl hx.symm
          | true =>
            rw [hbit] at hx
            right
            rw [← show y = x from hx]
            refine same fun j _ e => ?_
            have e2 : q - n0 = j := by omega
            rw [e2] at hbit
            rw [hbits j hbit, decide_eq_true (hD.lt i j (by omega) hbit)]
      · rw [restr_len, (accS_len _ _ _ _).1, hMS]
    have hev : ∀ x, VR G.D G.σ w (evM (accS n0 (fun q => decide (q < i)) 0 (ops.toList.take m) tr s0).T (ops[i]'(by omega)) x) (a.eval x) := by
      intro x
      unfold evM
      cases x with
      | tmp t =>
        simp only
        cases hany : (ops[i]'(by omega)).op.operands.toList.any (isT t) with
        | false => exact .junk _
        | true =>
          simp only [cond_true]
          obtain ⟨y, hy1, hy2⟩ := List.any_eq_true.1 hany
          have hty : y = .tmp t := by
            cases y with
            | tmp u => exact congrArg _ (Nat.eq_of_beq_eq_true hy2)
            | _ => cases hy2
          subst hty
          have hin : t ∈ (ops[i]'(by omega)).looksAt ops := by
            unfold Oper.looksAt
            simp only [List.mem_append, List.mem_filterMap]
            exact .inl ⟨_, hy1, rfl⟩
          have e := hlook t hin
          have := evO_sound (G := G) (w := w) (a := a) h.rel.val (.tmp t)
          simp only [evO, nthD_eq] at this ⊢
          rw [← e]
          exact this
      | global g => exact evO_sound (G := G) (w := w) (a := a) (T := []) (fun t v ht => by simp at ht) (.global g)
      | func f => exact evO_sound (G := G) (w := w) (a := a) (T := []) (fun t v ht => by simp at ht) (.func f)
      | const v => exact evO_sound (G := G) (w := w) (a := a) (T := []) (fun t v ht => by simp at ht) (.const v)
    obtain ⟨v, b, hvb, hcalm⟩ := calm_sound hE hmask h.rel.glob h.rel.base hslot hev hp
    simp only [Option.some.injEq] at hvb
    subst hvb
    refine calm_wp hcalm fun x G1 w1 hst hv => ?_
    have hrel1 : Rel E base w0 ok en G1 { accS n0 S 0 (ops.toList.take m) tr s0 with M := (accS n0 S 0 (ops.toList.take m) tr s0).M.set (n0 + i) (b.getD .dead) } a w1 := by
      refine h.rel.step hst hslot (fun j y hj => ?_) (by simp) (.inr (by simp [hMS]; omega))
      rw [List.getElem?_set] at hj
      by_cases e : n0 + i = j
      · subst e
        have : n0 + i < (accS n0 S 0 (ops.toList.take m) tr s0).M.length := by omega
        simp only [if_true, this] at hj
        refine .inr ⟨rfl, ?_⟩
        cases b with
        | none => exact .inr (Option.some.inj hj).symm
        | some z => exact .inl hj
      · simp only [e, if_false] at hj
        exact .inl ⟨fun q => e q.symm, hj⟩
    obtain ⟨G2, hrel2, hσ2, hD2⟩ := hrel1.freezeD (n0 + i)
    have hM : (((accS n0 S 0 (ops.toList.take m) tr s0).M.set (n0 + i) (b.getD .dead)).modify (n0 + i) frzB) = (accS n0 S 0 (ops.toList.take m) tr s0).M.set (n0 + i) (frzV b) := by
      apply List.ext_getElem?
      intro q
      rw [List.getElem?_modify, List.getElem?_set, List.getElem?_set]
      by_cases e : n0 + i = q
      · subst e
        have : n0 + i < (accS n0 S 0 (ops.toList.take m) tr s0).M.length := by omega
        simp only [if_true, this]
        cases b <;> rfl
      · simp [e]
    simp only [hM] at hrel2
    refine hK G2 _ _ ⟨?_, fun j hj hSj => ?_⟩
    · rw [hadd]
      exact hrel2.put (VR.grow (fun c hc => ⟨hD2 c hc, rfl⟩) (fun _ _ => by rw [hσ2]) hv) _
    · have hji : j ≠ i := fun e => by rw [e, hS'] at hSj; cases hSj
      rw [hσ2, hst.σ _ (by omega)]
      exact h.none j hj (by rw [← hSS j hji]; exact hSj)

theorem frzAll_sound (T : List AV) : ∀ (l : List Oper) {s : St} {G : Gam}, Rel E base w0 ok en G s a w → ∃ G', Rel E base w0 ok en G' { s with M := frzAll T l s.M } a w ∧ G'.σ = G.σ
  | [], s, G, h => ⟨G, h, rfl⟩
  | o :: r, s, G, h => by
    obtain ⟨G1, h1, e1⟩ := h.frzOp (evO T) o
    obtain ⟨G2, h2, e2⟩ := frzAll_sound T r h1
    exact ⟨G2, h2, e2.trans e1⟩
theorem frzAll_length (T : List AV) : ∀ (l : List Oper) (M : Mem), (frzAll T l M).length = M.length
  | [], _ => rfl
  | o :: r, M => (frzAll_length T r _).trans (frzOp_length _ _ _)
/-- Places that are kept free. -/
theorem Rel.room (h : Rel E base w0 ok en G s a w) (m : Nat) : Rel E base w0 ok en G { s with M := s.M ++ List.replicate m .dead } a w := by
  have hget : ∀ (q : Nat) (x : Blk), (s.M ++ List.replicate m Blk.dead)[q]? = some x → x = .dead ∨ s.M[q]? = some x := by
    intro q x hq
    rw [List.getElem?_append] at hq
    split at hq
    · exact .inr hq
    · rw [List.getElem?_replicate] at hq
      split at hq
      · exact .inl (Option.some.inj hq).symm
      · cases hq
  refine ⟨h.defers, h.size, h.val, ⟨fun b x hb => ?_, fun b x c hb hc => ?_, fun b b' x x' c hb hc hb' hc' => ?_, h.mem.dlt, h.mem.dok, fun b hb => h.mem.out b (by simp at hb; omega)⟩, h.below, h.glob, h.base, h.grow, h.held, ?_, h.fr⟩
  · rcases hget b x hb with rfl | h1
    · trivial
    · exact h.mem.blocks b x h1
  · rcases hget b x hb with rfl | h1
    · rw [mutC_dead] at hc; cases hc
    · exact h.mem.own b x c h1 hc
  · rcases hget b x hb with rfl | h1
    · rw [mutC_dead] at hc; cases hc
    · rcases hget b' x' hb' with rfl | h2
      · rw [mutC_dead] at hc'; cases hc'
      · exact h.mem.apart b b' x x' c h1 hc h2 hc'
  · have := h.lo
    simp
    omega

theorem count_step : ∀ (l : List Bool) (i : Nat), l[i]? = some false → (l.set i true).count false + 1 = l.count false
  | [], i, h => by simp at h
  | b :: r, 0, h => by
    simp at h; subst h
    simp
  | b :: r, i + 1, h => by
    have := count_step r i (by simpa using h)
    simp only [List.set_cons_succ, List.count_cons]
    omega

/-- Behind the first ones each waits for all. -/
theorem tail_sound (hE : EnvOK P E) {run : RunIn R} (hrun : RunOK P E base w0 ok run) {ops : Array Oper} {bf : List Nat} {m : Nat} (hD : Drawn ops bf m) {k : St → Option R} {r : R} {Q : Exit → Act → GW → Prop} (hQ : ∀ s' G' a' w', k s' = some r → Rel E base w0 ok en G' s' a' w' → Q .normal a' w') :
    ∀ (fuel j : Nat) (listed : Array Bool) (s : St) (G : Gam) (a : Act) (w : GW), m ≤ j → j + fuel = ops.size → listed.size = ops.size → (∀ q, q < ops.size → listed.getD q false = decide (q < j)) →
      Closed ops bf (fun q => listed.getD q false) → opsK E run ops (ops.toList.drop j) s k = some r → Rel E base w0 ok en G s a w → wpAny P .any ops Q fuel listed a w := by
  intro fuel
  induction fuel with
  | zero =>
    intro j listed s G a w hmj hj hls hl hcl hk h
    have hdrop : ops.toList.drop j = [] := List.drop_of_length_le (by simp; omega)
    rw [hdrop] at hk
    refine ⟨?_, hQ _ _ _ _ hk h⟩
    apply List.eq_nil_iff_forall_not_mem.2
    intro i hi
    obtain ⟨h1, o, h2, _⟩ := mem_ready.1 hi
    have hlt := (Array.getElem?_eq_some_iff.1 h2).1
    have := hl i hlt
    rw [decide_eq_true (by omega)] at this
    have e : listed.getD i true = listed.getD i false := by simp [show i < listed.size by omega]
    rw [e, this] at h1; cases h1
  | succ fuel ih =>
    intro j listed s G a w hmj hj hls hl hcl hk h
    have hjl : j < ops.size := by omega
    have hgd : ∀ i, i < ops.size → listed.getD i true = listed.getD i false := fun i hi => by simp [show i < listed.size by omega]
    have hready : j ∈ Region.ready .any ops listed := by
      refine mem_ready.2 ⟨by rw [hgd j hjl, hl j hjl]; simp, ops[j], Array.getElem?_eq_getElem hjl, fun e he hb => ?_⟩
      have : e.on < j := hD.lt j e.on hjl (hD.bit j hjl e (by simpa using he) hb)
      rw [hl e.on (by omega), decide_eq_true this]
    refine ⟨fun h0 => (by rw [h0] at hready; cases hready), fun i hi => ?_⟩
    obtain ⟨h1, o, h2, h3⟩ := mem_ready.1 hi
    have hlt := (Array.getElem?_eq_some_iff.1 h2).1
    have hij : i = j := by
      have h4 : ¬ i < j := fun hh => by
        rw [hgd i hlt, hl i hlt, decide_eq_true hh] at h1; cases h1
      rcases Nat.lt_or_ge j i with h5 | h5
      · exfalso
        have hb := hD.chain j i hlt (by omega) h5
        obtain ⟨e, he, hbi, hq⟩ := hD.edge i j hlt hb
        have hoi : o = ops[i] := by rw [Array.getElem?_eq_getElem hlt] at h2; exact (Option.some.inj h2).symm
        subst hoi
        have hle := h3 e (by simpa using he) hbi
        have : listed.getD j false = true := by
          rcases hq with hq | ⟨hq1, hq2⟩
          · rw [hq]; exact hle
          · exact hcl e.on (by omega) hle j hq2
        rw [hl j hjl] at this
        simp at this
      · omega
    subst hij
    have hdrop : ops.toList.drop i = ops[i] :: ops.toList.drop (i + 1) := by
      rw [List.drop_eq_getElem_cons (by simpa using hlt)]; simp
    rw [hdrop] at hk
    unfold opsK at hk
    have hgo := opK_sound hE hrun h hk (K := wpAny P .any ops Q fuel (listed.setIfInBounds i true)) (Q := Q) fun s' G' a' w' hk' h' => by
      refine ih (i + 1) (listed.setIfInBounds i true) s' G' a' w' (by omega) (by omega) (by simp [hls]) (fun q hq => ?_) ?_ (by rw [fO_eq] at hk'; exact hk') h'
      · by_cases e : i = q
        · subst e; simp [hls, hlt]
        · rw [getD_set_ne false e, hl q hq]
          simp
          omega
      · intro q hq hSq p hp
        by_cases e : i = p
        · subst e; simp [hls, hlt]
        · show (listed.setIfInBounds i true).getD p false = true
          rw [getD_set_ne false e]
          by_cases e2 : i = q
          · subst e2
            have := hD.lt i p hq hp
            rw [hl p (by omega)]; simpa using this
          · have : (listed.setIfInBounds i true).getD q false = true := hSq
            rw [getD_set_ne false e2] at this
            exact hcl q hq this p hp
    unfold wpOp
    rw [h2]
    have hoi : o = ops[i] := by rw [Array.getElem?_eq_getElem hlt] at h2; exact (Option.some.inj h2).symm
    subst hoi
    simp only
    rcases hgo with ⟨g1, g2⟩ | ⟨g1, g2⟩
    · rw [if_pos g1]; exact .inl g2
    · rw [if_neg (by rw [g1]; simp)]; exact g2
end Go.Sx
