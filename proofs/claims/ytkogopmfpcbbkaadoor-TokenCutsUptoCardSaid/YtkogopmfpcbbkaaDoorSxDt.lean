/-
  SX: regions that draw their order, whole.
-/
import Derived.Test.YtkogopmfpcbbkaaDoorSxDs
set_option linter.unusedVariables false
set_option linter.unusedSimpArgs false
namespace Go.Sx
open Go
open Go.RowKit (Below)
variable {P : Program} {E : Env} {base : Nat} {w0 : GW} {ok : Nat → Prop} {en : Ent} {G G' : Gam} {s : St} {a : Act} {w w' : GW} {R : Type} {M : Mem}

theorem least (p : Nat → Bool) : ∀ q, p q = true → ∃ i, i ≤ q ∧ p i = true ∧ ∀ j, j < i → p j = false := by
  intro q
  induction q using Nat.strongRecOn with
  | _ q ih =>
    intro h
    by_cases hh : ∃ j, j < q ∧ p j = true
    · obtain ⟨j, h1, h2⟩ := hh
      obtain ⟨i, h3, h4⟩ := ih j h1 h2
      exact ⟨i, by omega, h4⟩
    · refine ⟨q, Nat.le_refl _, h, fun j hj => ?_⟩
      cases hb : p j with
      | false => rfl
      | true => exact absurd ⟨j, hj, hb⟩ hh

theorem count_decide (n m : Nat) (l : List Bool) (hl : l.length = n) (hm : m ≤ n) (h : ∀ q (hq : q < l.length), l[q] = decide (q < m)) : m + l.count false = n := by
  have e : l = List.replicate m true ++ List.replicate (n - m) false := by
    apply List.ext_getElem
    · simp; omega
    · intro q h1 h2
      rw [h q h1, List.getElem_append]
      by_cases hq : q < m
      · simp [hq]
      · simp [hq]
  rw [e]
  simp [List.count_append, List.count_replicate]
  omega

theorem head_sound (hE : EnvOK P E) {run : RunIn R} (hrun : RunOK P E base w0 ok run) {ops : Array Oper} {bf : List Nat} {m : Nat} (hD : Drawn ops bf m) (hm : m ≤ ops.size) {k : St → Option R} {r : R} {Q : Exit → Act → GW → Prop} (hQ : ∀ s' G' a' w', k s' = some r → Rel E base w0 ok en G' s' a' w' → Q .normal a' w')
    {n0 : Nat} {tr : List Oc} {s0 : St} (hn0 : n0 + m = s0.M.length) (hlen : tr.length = (ops.toList.take m).length)
    (hdead : ∀ j, j < m → s0.M[n0 + j]? = some .dead)
    (htr : ∀ j (h : j < (ops.toList.take m).length) (h' : j < tr.length), OcOK E ops bf n0 (0 + j) (ops.toList.take m)[j] (accS n0 (fun q => decide (q < 0 + j)) 0 (ops.toList.take m) tr s0) tr[j])
    (hk : opsK E run ops (ops.toList.drop m) (accS n0 (fun _ => true) 0 (ops.toList.take m) tr s0) k = some r) :
    ∀ (fuel : Nat) (listed : Array Bool) (G : Gam) (a : Act) (w : GW), listed.size = ops.size → listed.toList.count false = fuel → (∀ q, m ≤ q → listed.getD q false = false) → Closed ops bf (fun q => listed.getD q false) →
      InvS E base w0 ok en n0 (ops.toList.take m) tr s0 (fun q => listed.getD q false) G a w → wpAny P .any ops Q fuel listed a w := by
  intro fuel
  induction fuel with
  | zero =>
    intro listed G a w hls hct htail hcl h
    have hall : ∀ q, q < ops.size → listed.getD q false = true := by
      intro q hq
      have hnot : false ∉ listed.toList := by
        intro hmem
        have := List.count_pos_iff.2 hmem
        omega
      have hlt : q < listed.size := by omega
      have : listed[q] ≠ false := fun e => hnot (by rw [← e]; simp)
      simp [hlt]
      simpa using this
    have hmn : m = ops.size := by
      rcases Nat.lt_or_ge m ops.size with h1 | h1
      · have := hall m h1
        rw [htail m (Nat.le_refl _)] at this; cases this
      · omega
    refine tail_sound hE hrun hD hQ 0 m listed _ G a w (Nat.le_refl _) (by omega) hls (fun q hq => by rw [hall q hq, decide_eq_true (by omega)]) hcl hk ?_
    have := h.rel
    rw [accS_congr (S' := fun _ => true) _ _ _ _ (fun q _ hq => by
      have : q < ops.size := by simp at hq; omega
      exact hall q this)] at this
    exact this
  | succ fuel ih =>
    intro listed G a w hls hct htail hcl h
    have hgd : ∀ i, i < ops.size → listed.getD i true = listed.getD i false := fun i hi => by simp [show i < listed.size by omega]
    by_cases hall : ∀ q, q < m → listed.getD q false = true
    · have hdec : ∀ q, q < ops.size → listed.getD q false = decide (q < m) := by
        intro q hq
        by_cases e : q < m
        · rw [hall q e, decide_eq_true e]
        · rw [htail q (by omega), decide_eq_false e]
      have hfu : m + (fuel + 1) = ops.size := by
        rw [← hct]
        refine count_decide ops.size m listed.toList (by simpa using hls) hm fun q hq => ?_
        have := hdec q (by simp at hq; omega)
        have hq' : q < listed.size := by simpa using hq
        simp [hq'] at this
        simpa using this
      refine tail_sound hE hrun hD hQ (fuel + 1) m listed _ G a w (Nat.le_refl _) hfu hls hdec hcl hk ?_
      have := h.rel
      rw [accS_congr (S' := fun _ => true) _ _ _ _ (fun q _ hq => by
        have : q < m := by simp at hq; omega
        exact hall q this)] at this
      exact this
    · have hex : ∃ q, q < m ∧ listed.getD q false = false := by
        apply Classical.byContradiction
        intro hne
        apply hall
        intro q hq
        cases hb : listed.getD q false with
        | true => rfl
        | false => exact absurd ⟨q, hq, hb⟩ hne
      obtain ⟨q0, hq0, hq0'⟩ := hex
      obtain ⟨i0, hi0, hi0', hmin⟩ := least (fun q => !listed.getD q false) q0 (by simp only [hq0']; rfl)
      have hready : i0 ∈ Region.ready .any ops listed := by
        have hlt : i0 < ops.size := by omega
        refine mem_ready.2 ⟨by rw [hgd i0 hlt]; simpa using hi0', ops[i0], Array.getElem?_eq_getElem hlt, fun e he hb => ?_⟩
        have := hmin e.on (hD.lt i0 e.on hlt (hD.bit i0 hlt e (by simpa using he) hb))
        simpa using this
      refine ⟨fun h0 => (by rw [h0] at hready; cases hready), fun i hi => ?_⟩
      obtain ⟨h1, o, h2, h3⟩ := mem_ready.1 hi
      have hlt := (Array.getElem?_eq_some_iff.1 h2).1
      have hoi : o = ops[i] := by rw [Array.getElem?_eq_getElem hlt] at h2; exact (Option.some.inj h2).symm
      subst hoi
      have hbits : ∀ q, Nat.testBit (bf.getD i 0) q = true → listed.getD q false = true := by
        intro q hq
        obtain ⟨e, he, hbi, hq'⟩ := hD.edge i q hlt hq
        have hle := h3 e (by simpa using he) hbi
        rcases hq' with hq' | ⟨hq1, hq2⟩
        · rw [hq']; exact hle
        · exact hcl e.on (by omega) hle q hq2
      have him : i < m := by
        rcases Nat.lt_or_ge i m with h4 | h4
        · exact h4
        · have := hbits q0 (hD.chain q0 i hlt h4 (by omega))
          rw [hq0'] at this; cases this
      have hSi : listed.getD i false = false := by rw [← hgd i hlt]; exact h1
      have hset : ∀ q, q ≠ i → (listed.setIfInBounds i true).getD q false = listed.getD q false := fun q hq => getD_set_ne false (Ne.symm hq)
      have hseti : (listed.setIfInBounds i true).getD i false = true := by simp [hls, hlt]
      refine head_step hE hD hm hn0 hlen hdead htr hcl him hSi hbits (S' := fun q => (listed.setIfInBounds i true).getD q false) hseti hset h fun G' a' w' h' => ?_
      refine ih (listed.setIfInBounds i true) G' a' w' (by simp [hls]) ?_ (fun q hq => by rw [hset q (by omega)]; exact htail q hq) ?_ h'
      · have hil : listed.toList[i]? = some false := by
          have : i < listed.size := by omega
          simp [this] at hSi
          simp [this, hSi]
        have := count_step listed.toList i hil
        rw [Array.toList_setIfInBounds]
        omega
      · intro q hq hSq p hp
        by_cases e : p = i
        · subst e; exact hseti
        · show (listed.setIfInBounds i true).getD p false = true
          rw [hset p e]
          by_cases e2 : q = i
          · subst e2; exact hbits p hp
          · have : (listed.setIfInBounds i true).getD q false = true := hSq
            rw [hset q e2] at this
            exact hcl q hq this p hp

theorem Rel.world (h : Rel E base w0 ok en G s a w) (hh : w'.heap = w.heap) (ho : w'.os = w.os ∧ w'.tape = w.tape ∧ w'.output = w.output) : Rel E base w0 ok en G s a w' := by
  have hD : ∀ c, G.D c → G.D c ∧ w'.heap[c]? = w.heap[c]? := fun c hc => ⟨hc, by rw [hh]⟩
  refine ⟨h.defers, h.size, fun t v ht => (h.val t v ht).grow hD (fun _ _ => rfl), ⟨fun b x hb => (h.mem.blocks b x hb).mono hD (fun _ _ => rfl) (fun c _ => by rw [hh]), fun b x c hb hc => by rw [hh]; exact h.mem.own b x c hb hc, h.mem.apart, fun c hc => by rw [hh]; exact h.mem.dlt c hc, h.mem.dok, h.mem.out⟩,
    h.below.trans ⟨ho.1, ho.2.1, ho.2.2, by rw [hh]; exact Nat.le_refl _, fun k _ => by rw [hh]⟩, h.glob.mono hD, by rw [hh]; exact h.base, fun c hc => ⟨(h.grow c hc).1, by rw [hh]; exact (h.grow c hc).2⟩, h.held, h.lo, h.fr⟩

theorem headLen_le (E : Env) : ∀ (l : List Oper), headLen E l ≤ l.length
  | [] => Nat.le_refl _
  | o :: r => by
    unfold headLen
    have := headLen_le E r
    cases isTail E o with
    | true => simp
    | false => simp; exact this

theorem drawK_sound (hE : EnvOK P E) {run : RunIn R} (hrun : RunOK P E base w0 ok run) {ops : Array Oper} {k : St → Option R} {r : R} {Q : Exit → Act → GW → Prop} (hQ : ∀ s' G' a' w', k s' = some r → Rel E base w0 ok en G' s' a' w' → Q .normal a' w')
    (hk : drawK E run ops s k = some r) (h : Rel E base w0 ok en G s a w) (id : Nat) : (Code.region id ops true).wp P Q a w := by
  refine wp_region_any hE.mixed ?_
  unfold drawK at hk
  replace hk := bif_none hk
  obtain ⟨hdraw, hk⟩ := hk
  have hD := drawn_of hdraw
  have hm : headLen E ops.toList ≤ ops.size := by simpa using headLen_le E ops.toList
  generalize headLen E ops.toList = m at hk hD hm
  generalize befL ops.toList [] = bf at hk hD
  obtain ⟨tr, htr, hk⟩ := calms_trace (fun f c hc => (hE.ctr f c hc).2.1) _ _ _ hk
  obtain ⟨hlen, hget⟩ := trace_get _ _ _ _ htr
  have h1 : Rel E base w0 ok en G s a { w with drawn := w.drawn + 1 } := h.world rfl ⟨rfl, rfl, rfl⟩
  obtain ⟨G2, h2, hσ2⟩ := frzAll_sound s.T (ops.toList.take m) h1
  have h3 := h2.room m
  have hfl := frzAll_length s.T (ops.toList.take m) s.M
  refine head_sound hE hrun hD hm hQ (n0 := s.M.length) (by simp [hfl]) hlen (fun j hj => ?_) hget hk ops.size (Array.replicate ops.size false) G2 a _ (by simp) (by simp) (fun q _ => ?_) (fun j _ hj => ?_) ⟨?_, fun j hj _ => ?_⟩
  · rw [List.getElem?_append_right (by simp [hfl]), hfl, List.getElem?_replicate]
    simp [hj]
  · simp [Array.getD_eq_getD_getElem?, Array.getElem?_replicate]; split <;> rfl
  · exfalso
    simp [Array.getD_eq_getD_getElem?, Array.getElem?_replicate] at hj
    split at hj <;> cases hj
  · rw [accS_none _ _ _ _ (fun q _ => by simp [Array.getD_eq_getD_getElem?, Array.getElem?_replicate]; split <;> rfl)]
    exact h3
  · rw [hσ2]
    exact h1.mem.out _ (by omega)
end Go.Sx
