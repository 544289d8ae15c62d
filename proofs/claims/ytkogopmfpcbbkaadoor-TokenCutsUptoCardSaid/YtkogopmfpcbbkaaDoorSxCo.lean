/-
  SX: code.
-/
import Derived.Test.YtkogopmfpcbbkaaDoorSxPa
import Derived.LoopN
set_option linter.unusedVariables false
set_option linter.unusedSimpArgs false
namespace Go.Sx
open Go
open Go.RowKit (Below)
variable {P : Program} {E : Env} {base : Nat} {w0 : GW} {ok : Nat → Prop} {en : Ent} {G G' : Gam} {s : St} {a : Act} {w w' : GW} {R : Type} {M : Mem}

def exOf : Ex → Exit
  | .normal => .normal
  | .exit i => .exit i
  | .goto l => .goto l
  | .ret => .ret

theorem exBeq {e e' : Ex} (h : Ex.beq e e' = true) : e = e' := by
  cases e <;> cases e' <;> simp only [Ex.beq, Bool.false_eq_true] at h
  · rfl
  · rw [Nat.eq_of_beq_eq_true h]
  · rw [Nat.eq_of_beq_eq_true h]
  · rfl

theorem exK_sound {k : Ex → St → Option R} {r : R} : ∀ (es : List (Ex × SPat)) (e : Ex) (s : St) (o : XS es), exK es e s = some o → exsK es o k = some r → (es.all fun p => p.2.closed) = true → Rel E base w0 ok en G s a w →
    ∃ s' G', k e s' = some r ∧ Rel E base w0 ok en G' s' a w
  | [], e, s, o, h, _, _, _ => by simp [exK] at h
  | [p], e, s, o, h, hk, hc, hrel => by
    simp only [exK] at h
    replace h := bif_none h
    obtain ⟨hb, h⟩ := h
    simp only [List.all_cons, List.all_nil, Bool.and_true] at hc
    obtain ⟨G', h1⟩ := match_sound h hc hrel
    refine ⟨_, G', ?_, h1⟩
    rw [← exBeq hb]
    exact hk
  | p :: q :: r', e, s, o, h, hk, hc, hrel => by
    simp only [exK] at h
    rw [List.all_cons, Bool.and_eq_true] at hc
    split at h
    · rename_i x hx
      cases h
      replace hx := bif_none hx
      obtain ⟨hb, hx⟩ := hx
      obtain ⟨G', h1⟩ := match_sound hx hc.1 hrel
      refine ⟨_, G', ?_, h1⟩
      rw [← exBeq hb]
      exact hk
    · obtain ⟨y, hy, h⟩ := Option.bind_eq_some_iff.1 h
      cases h
      exact exK_sound (q :: r') e s y hy hk hc.2 hrel

theorem pickJ_closed : ∀ (js : List Join) {s : St} {j : Join}, pickJ js s = some j → (j.es.all fun p => p.2.closed) = true
  | [], s, j, h => by simp [pickJ] at h
  | q :: r, s, j, h => by
    unfold pickJ at h
    cases hb : ((q.sp.match s).isSome && q.es.all (fun p => p.2.closed)) with
    | true =>
      rw [hb] at h
      cases h
      rw [Bool.and_eq_true] at hb
      exact hb.2
    | false => rw [hb] at h; exact pickJ_closed r h

/-- Every loop that is told is told rightly. -/
def ToldC (E : Env) (H : Hints) (f : Nat) : Code → Prop
  | .seq x y => ToldC E H f x ∧ ToldC E H f y
  | .cond _ x y => ToldC E H f x ∧ ToldC E H f y
  | .block _ c => ToldC E H f c
  | .scope c => ToldC E H f c
  | .loop c => (match (look H.al f).bind fun hs => (firstReg c).bind fun i => look hs i with
      | some alts => ∀ a ∈ alts, Alt.Round E H f c a
      | none => True) ∧ ToldC E H f c
  | _ => True
theorem told_none {H : Hints} {f : Nat} (h : look H.al f = none) : ∀ (c : Code), ToldC E H f c := by
  intro c
  induction c with
  | seq x y hx hy => exact ⟨hx, hy⟩
  | cond c x y hx hy => exact ⟨hx, hy⟩
  | block i c hc => exact hc
  | scope c hc => exact hc
  | loop c hc => exact ⟨by rw [h]; trivial, hc⟩
  | _ => trivial

/-- The results of a frame. -/
def resF (tmps : Array Value) : ResultVar → Sem Value
  | .tmp t => pure (tmps.getD t undef)
  | .cell c t => do loadVar t (← asAddr (tmps.getD c undef))
theorem results_eq (fn : Func) (tmps : Array Value) : results fn tmps = (do let vs ← fn.results.mapM (resF tmps); pure (if h : vs.size = 1 then vs[0] else .tuple vs)) := by
  unfold results
  congr 1
theorem res1_sound (hE : EnvOK P E) (h : Rel E base w0 ok en G s a w) {r : ResultVar} {v : AV} (hr : res1 E s r = some v) :
    ∃ x, (resF a.tmps r).run P w = .ok x w ∧ VR G.D G.σ w v x := by
  unfold res1 at hr
  split at hr
  · rename_i t
    exact ⟨_, rfl, h.val t v hr⟩
  · rename_i c t
    split at hr
    · rename_i i b hi hT
      split at hr
      · rename_i cs hb
        have hp := h.val c _ hT
        obtain ⟨q, hq, hx⟩ := hp.ptr_inv
        obtain ⟨x, h1, h2, _⟩ := part_sound VR.mkAgg (hE.ty t i hi) (At.of_blk h.mem hb hq) hr
        refine ⟨x, ?_, h2⟩
        simp only [resF, hx, Sem.run_bind]
        rw [show (asAddr (.pointer (some ((blkA q).add 0)))).run P w = .ok ((blkA q).add 0) w from rfl]
        exact h1
      · simp at hr
    · simp at hr
theorem resL_sound (hE : EnvOK P E) (h : Rel E base w0 ok en G s a w) : ∀ (rs : List ResultVar) (vs : List AV), resL E s rs = some vs →
    ∃ xs : List Value, (rs.mapM (resF a.tmps)).run P w = .ok xs w ∧ vs.length = xs.length ∧ ∀ i (h : i < vs.length) (h' : i < xs.length), VR G.D G.σ w vs[i] xs[i]
  | [], vs, hr => by simp [resL] at hr; subst hr; exact ⟨[], rfl, rfl, fun i h => by simp at h⟩
  | r :: rs, vs, hr => by
    simp only [resL, Option.bind_eq_some_iff, Option.some.injEq] at hr
    obtain ⟨v, hv, us, hus, rfl⟩ := hr
    obtain ⟨x, h1, h2⟩ := res1_sound hE h hv
    obtain ⟨xs, h3, h4, h5⟩ := resL_sound hE h rs us hus
    refine ⟨x :: xs, ?_, by simp [h4], fun i hi hi' => ?_⟩
    · rw [List.mapM_cons]
      simp only [Sem.run_bind, h1, Result.andThen_ok, h3, Sem.run_pure]
    · cases i with
      | zero => exact h2
      | succ i => exact h5 i (by simpa using hi) (by simpa using hi')
theorem resAV_sound (hE : EnvOK P E) (h : Rel E base w0 ok en G s a w) {fn : Func} {v : AV} (hr : resAV E fn s = some v) : ∃ x, (results fn a.tmps).run P w = .ok x w ∧ VR G.D G.σ w v x := by
  unfold resAV at hr
  obtain ⟨vs, hvs, hr⟩ := Option.bind_eq_some_iff.1 hr
  obtain ⟨xs, h1, h2, h3⟩ := resL_sound hE h _ _ hvs
  have hrun : (fn.results.mapM (resF a.tmps)).run P w = .ok xs.toArray w := by
    rw [Array.mapM_eq_mapM_toList]
    simp only [Sem.run_map, h1, Result.andThen_ok]
  have hres : (results fn a.tmps).run P w = .ok (if h : xs.toArray.size = 1 then xs.toArray[0] else .tuple xs.toArray) w := by
    rw [results_eq, Sem.run_bind, hrun]
    rfl
  refine ⟨_, hres, ?_⟩
  split at hr
  · rename_i v'
    cases hr
    have hl : xs.length = 1 := by simpa using h2.symm
    rw [dif_pos (by simpa using hl)]
    have := h3 0 (by simp) (by omega)
    simpa using this
  · rename_i hne
    cases hr
    have hl : ¬ xs.toArray.size = 1 := by
      intro e
      have e' : vs.length = 1 := by rw [h2]; simpa using e
      match vs, e', hne with
      | [v], _, hne => exact hne v rfl
    rw [dif_neg hl]
    exact .tup vs xs h2 h3

/-- The walk of code, as it is asked for. -/
def WalkOK (P : Program) (E : Env) (H : Hints) (base : Nat) (w0 : GW) (ok : Nat → Prop) (n : Nat) : Prop :=
  ∀ (R : Type) (f : Nat) (c : Code) (s : St) (k : Ex → St → Option R) (r : R) (en : Ent) (G : Gam) (a : Act) (w : GW) (Q : Exit → Act → GW → Prop), ToldC E H f c → evalC E H n f c s k = some r → Rel E base w0 ok en G s a w →
    (∀ e s' G' a' w', k e s' = some r → Rel E base w0 ok en G' s' a' w' → Q (exOf e) a' w') → c.wp P Q a w

theorem unroll_sound {c : Code} {body : St → (Ex → St → Option R) → Option R} {k : Ex → St → Option R} {r : R} {Q : Exit → Act → GW → Prop}
    (hbody : ∀ (s : St) (k : Ex → St → Option R) (G : Gam) (a : Act) (w : GW) (Q : Exit → Act → GW → Prop), body s k = some r → Rel E base w0 ok en G s a w → (∀ e s' G' a' w', k e s' = some r → Rel E base w0 ok en G' s' a' w' → Q (exOf e) a' w') → c.wp P Q a w)
    (hQ : ∀ e s' G' a' w', e ≠ .normal → k e s' = some r → Rel E base w0 ok en G' s' a' w' → Q (exOf e) a' w') :
    ∀ (n : Nat) (s : St) (G : Gam) (a : Act) (w : GW), unrollK body k n s = some r → Rel E base w0 ok en G s a w → Code.rounds P c Q n a w
  | 0, s, G, a, w, h, _ => by simp [unrollK] at h
  | n + 1, s, G, a, w, h, hrel => by
    rw [rounds_succ]
    unfold unrollK at h
    refine hbody s _ G a w _ h hrel fun e s' G' a' w' hk h' => ?_
    cases e with
    | normal => exact unroll_sound hbody hQ n s' G' a' w' hk h'
    | exit i => exact hQ (.exit i) s' G' a' w' (by simp) hk h'
    | goto l => exact hQ (.goto l) s' G' a' w' (by simp) hk h'
    | ret => exact hQ .ret s' G' a' w' (by simp) hk h'

theorem told_sound {H : Hints} {f : Nat} {c : Code} {al : Alt} (hround : Alt.Round E H f c al) (hfu : WalkOK P E H base w0 ok al.fu) (htold : ToldC E H f c) (hclosed : al.sp.closed = true) (hes : (al.es.all fun p => p.2.closed) = true) {k : Ex → St → Option R} {r : R} {Q : Exit → Act → GW → Prop}
    (hQ : ∀ e s' G' a' w', e ≠ .normal → k e s' = some r → Rel E base w0 ok en G' s' a' w' → Q (exOf e) a' w') {o : XS al.es} (ho : exsK al.es o k = some r) :
    ∀ (L : Nat) (x : al.sp.X) (G : Gam) (a : Act) (w : GW), iter al.T L x = some o → Rel E base w0 ok en G (al.sp.build x) a w → Code.rounds P c Q L a w
  | 0, x, G, a, w, h, _ => by simp [iter] at h
  | L + 1, x, G, a, w, h, hrel => by
    rw [rounds_succ]
    unfold iter at h
    rw [← hround (iter al.T L) x, fS_eq] at h
    refine hfu _ f c _ _ _ en G a w _ htold h hrel fun e s' G' a' w' hk h' => ?_
    have fin : ∀ e, e ≠ Ex.normal → exK al.es e s' = some o → Q (exOf e) a' w' := by
      intro e hne hk
      obtain ⟨s2, G2, h1, h2⟩ := exK_sound al.es e s' o hk ho hes h'
      exact hQ e s2 G2 a' w' hne h1 h2
    cases e with
    | normal =>
      obtain ⟨x', hx', hk⟩ := Option.bind_eq_some_iff.1 hk
      obtain ⟨G2, h2⟩ := match_sound hx' hclosed h'
      exact told_sound hround hfu htold hclosed hes hQ ho L x' G2 a' w' hk h2
    | exit i => exact fin (.exit i) (by simp) hk
    | goto l => exact fin (.goto l) (by simp) hk
    | ret => exact fin .ret (by simp) hk

theorem altK_sound {H : Hints} {f : Nat} {c : Code} {n L : Nat} (hn : ∀ m, m ≤ n → WalkOK P E H base w0 ok m) (htold : ToldC E H f c) {k : Ex → St → Option R} {r : R} {Q : Exit → Act → GW → Prop}
    (hQ : ∀ e s' G' a' w', k e s' = some r → Rel E base w0 ok en G' s' a' w' → Q (exOf e) a' w') :
    ∀ (alts : List Alt) (s : St), (∀ a ∈ alts, Alt.Round E H f c a) → altK n L alts s k = some r → Rel E base w0 ok en G s a w → (Code.loop c).wp P Q a w
  | [], s, _, h, _ => by simp [altK] at h
  | al :: rest, s, hr, h, hrel => by
    unfold altK at h
    split at h
    · rename_i x hx
      replace hx := bif_none hx
      obtain ⟨hb, hx⟩ := hx
      simp only [Bool.and_eq_true] at hb
      obtain ⟨o, ho, h⟩ := Option.bind_eq_some_iff.1 h
      obtain ⟨G2, h2⟩ := match_sound hx hb.1.2 hrel
      exact wp_loop_rounds L (told_sound (hr al (by simp)) (hn _ (Nat.le_of_ble_eq_true hb.1.1)) htold hb.1.2 hb.2 (fun e s' G' a' w' _ => hQ e s' G' a' w') h L x G2 a w ho h2)
    · exact altK_sound hn htold hQ rest s (fun a ha => hr a (by simp [ha])) h hrel

/-- The frame of an inner call. -/
theorem run_sound (hE : EnvOK P E) {H : Hints} (hin : ∀ f fn c, look E.inl f = some fn → fn.body = some c → ToldC E H f c) {n : Nat} (hn : WalkOK P E H base w0 ok n) :
    RunOK P E base w0 ok (fun (g : Nat) (fn : Func) (args : List AV) (s : St) (k : AV → St → Option R) => match fn.body with
      | some c => fS { T := args ++ junks (fn.ntmps - args.length), M := s.M, lock := AV.idss s.T ++ s.lock, lo := s.M.length } fun s1 => evalC E H n g c s1 fun e s' =>
          match e with
          | .ret => (resAV E fn s').bind fun v => k v { s with M := s'.M }
          | .normal => (resAV E fn s').bind fun v => k v { s with M := s'.M }
          | _ => none
      | none => none) := by
  intro g fn args s k r en G a w xs hfn hk h hl hv
  obtain ⟨i1, i2, i3⟩ := hE.inl g fn hfn
  dsimp only at hk
  split at hk
  · rename_i c hc
    rw [fS_eq, junks_eq] at hk
    refine calls_of_wp i1 hc ?_
    let en' : Ent := (G, w, AV.idss s.T ++ s.lock, s.M.length)
    have hrel : Rel E base w0 ok en' G { T := args ++ List.replicate (fn.ntmps - args.length) .junk, M := s.M, lock := AV.idss s.T ++ s.lock, lo := s.M.length } { tmps := xs.toArray ++ Array.replicate (fn.ntmps - xs.toArray.size) undef, defers := [] } w := by
      refine ⟨rfl, by simp [hl], fun t v ht => ?_, h.mem, h.below, h.glob, h.base, fun c hc => ⟨hc, rfl⟩, fun b hb hne => ⟨rfl, ?_⟩, Nat.le_refl _, ⟨rfl, rfl⟩⟩
      · have ht' : (args ++ List.replicate (fn.ntmps - args.length) AV.junk)[t]? = some v := ht
        rw [List.getElem?_append] at ht'
        split at ht'
        · rename_i hlt
          rw [List.getElem?_eq_getElem hlt] at ht'
          cases ht'
          have := hv t hlt (by omega)
          have e : (xs.toArray ++ Array.replicate (fn.ntmps - xs.toArray.size) undef).getD t undef = xs[t]'(by omega) := by
            have hlt2 : t < xs.length := by omega
            simp [Array.getD_eq_getD_getElem?, Array.getElem?_append, hlt2]
          rw [e]
          exact this
        · rw [List.getElem?_replicate] at ht'
          split at ht'
          · cases ht'; exact .junk _
          · cases ht'
      · apply Classical.byContradiction
        intro hge
        exact hne (h.mem.out b (by simpa using hge))
    have fin : ∀ (s' : St) (G' : Gam) (a' : Act) (w' : GW), ((resAV E fn s').bind fun v => k v { s with M := s'.M }) = some r → Rel E base w0 ok en' G' s' a' w' →
        a'.defers = [] ∧ ∃ v, (results fn a'.tmps).run P w' = .ok v w' ∧ ∃ v1 x G2 s2, Ending.returned v = .returned x ∧ k v1 s2 = some r ∧ Rel E base w0 ok en G2 s2 a w' ∧ VR G2.D G2.σ w' v1 x := by
      intro s' G' a' w' hk' h'
      obtain ⟨v, hv1, hk'⟩ := Option.bind_eq_some_iff.1 hk'
      obtain ⟨x, hx1, hx2⟩ := resAV_sound hE h' hv1
      have hD : ∀ c, G.D c → G'.D c ∧ w'.heap[c]? = w.heap[c]? := h'.grow
      have hlo : s'.lo = s.M.length := h'.fr.2
      have hlock : s'.lock = AV.idss s.T ++ s.lock := h'.fr.1
      have hheld : ∀ b ∈ AV.idss s.T ++ s.lock, G.σ b ≠ .none → G'.σ b = G.σ b := fun b hb hne => (h'.held b (by rw [hlock]; exact hb) hne).1
      refine ⟨h'.defers, x, hx1, v, x, G', { s with M := s'.M }, rfl, hk', ?_, hx2⟩
      refine ⟨h.defers, h.size, fun t u ht => (h.val t u ht).mono hD fun b hb hne => hheld b ?_ hne, h'.mem, h'.below, h'.glob, h'.base, fun c hc => ⟨(hD c (h.grow c hc).1).1, ?_⟩, fun b hb hne => ?_, ?_, h.fr⟩
      · obtain ⟨hlt, rfl⟩ := List.getElem?_eq_some_iff.1 ht
        exact List.mem_append.2 (.inl (ids_mem hlt hb))
      · rw [(hD c (h.grow c hc).1).2]; exact (h.grow c hc).2
      · obtain ⟨e1, e2⟩ := h.held b hb hne
        exact ⟨by rw [hheld b (List.mem_append.2 (.inr hb)) (by rw [e1]; exact hne)]; exact e1, e2⟩
      · have h1 := h.lo
        have h2 := h'.lo
        show s.lo ≤ s'.M.length
        omega
    refine hn _ g c _ _ r en' G _ w _ (hin g fn c hfn hc) hk hrel fun e s' G' a' w' hk' h' => ?_
    cases e with
    | normal => exact fin s' G' a' w' hk' h'
    | ret => exact fin s' G' a' w' hk' h'
    | exit i => cases hk'
    | goto l => cases hk'
  · cases hk

theorem evalC_sound (hE : EnvOK P E) {H : Hints} (hin : ∀ f fn c, look E.inl f = some fn → fn.body = some c → ToldC E H f c) : ∀ n, WalkOK P E H base w0 ok n := by
  intro n
  induction n using Nat.strongRecOn with
  | _ n ih =>
    intro R f c s k r en G a w Q htold hk h hQ
    cases n with
    | zero => simp [evalC] at hk
    | succ n =>
      have hn := ih n (by omega)
      have hrun := run_sound (R := R) hE hin hn
      unfold evalC at hk
      cases c with
      | skip => exact wp_skip (hQ _ _ _ _ _ hk h)
      | label l => exact wp_label (hQ _ _ _ _ _ hk h)
      | ret => exact wp_ret (hQ _ _ _ _ _ hk h)
      | exit i => exact wp_exit (hQ _ _ _ _ _ hk h)
      | goto l => exact wp_goto (hQ _ _ _ _ _ hk h)
      | region id ops draw =>
        cases draw with
        | true => exact drawK_sound hE hrun (fun s' G' a' w' hk' h' => hQ .normal s' G' a' w' hk' h') hk h id
        | false => exact wp_region_list (opsK_sound hE hrun (fun s' G' a' w' hk' h' => hQ .normal s' G' a' w' hk' h') _ s G a w hk h)
      | seq x y =>
        have fin : ∀ (e : Ex) (s' : St) (G' : Gam) (a' : Act) (w' : GW), (match e with
            | .normal => evalC E H n f y s' k
            | e => k e s') = some r → Rel E base w0 ok en G' s' a' w' → (match exOf e with | .normal => y.wp P Q a' w' | e => Q e a' w') := by
          intro e s' G' a' w' hk' h'
          cases e with
          | normal => exact hn R f y s' k r en G' a' w' Q htold.2 hk' h' hQ
          | exit i => exact hQ (.exit i) _ _ _ _ hk' h'
          | goto l => exact hQ (.goto l) _ _ _ _ hk' h'
          | ret => exact hQ .ret _ _ _ _ hk' h'
        have plain : (evalC E H n f x s fun e s => match e with
            | .normal => evalC E H n f y s k
            | e => k e s) = some r → (Code.seq x y).wp P Q a w := by
          intro hk
          refine wp_seq (hn R f x s _ r en G a w _ htold.1 hk h fun e s' G' a' w' hk' h' => ?_)
          cases e with
          | normal => exact fin .normal s' G' a' w' hk' h'
          | exit i => exact fin (.exit i) s' G' a' w' hk' h'
          | goto l => exact fin (.goto l) s' G' a' w' hk' h'
          | ret => exact fin .ret s' G' a' w' hk' h'
        simp only at hk
        split at hk
        · split at hk
          · rename_i j hj
            cases hon : j.on with
            | false => rw [hon] at hk; exact plain hk
            | true =>
            rw [hon] at hk
            obtain ⟨o, ho, hk⟩ := Option.bind_eq_some_iff.1 hk
            have hcl : (j.es.all fun p => p.2.closed) = true := pickJ_closed _ hj
            refine wp_seq (hn _ f x s _ o en G a w _ htold.1 ho h fun e s' G' a' w' hk' h' => ?_)
            obtain ⟨s2, G2, h1, h2⟩ := exK_sound j.es e s' o hk' hk hcl h'
            rw [fS_eq] at h1
            have h3 := fin e s2 G2 a' w' h1 h2
            cases e with
            | normal => exact h3
            | exit i => exact h3
            | goto l => exact h3
            | ret => exact h3
          · exact plain hk
        · exact plain hk
      | cond c x y =>
        simp only at hk
        split at hk
        · rename_i t hc
          have hv := evO_sound (G := G) (w := w) (a := a) h.val c
          rw [hc] at hv
          cases t with
          | true => exact wp_cond_true hv.bool_inv (hn R f x s k r en G a w Q htold.1 hk h hQ)
          | false => exact wp_cond_false hv.bool_inv (hn R f y s k r en G a w Q htold.2 hk h hQ)
        · simp at hk
      | block id c =>
        refine wp_block (hn R f c s _ r en G a w _ htold hk h fun e s' G' a' w' hk' h' => ?_)
        cases e with
        | normal => exact hQ .normal _ _ _ _ hk' h'
        | exit i =>
          show if i = id then Q .normal a' w' else Q (.exit i) a' w'
          by_cases hi : i = id
          · subst hi
            rw [if_pos rfl]
            simp only [Nat.beq_refl, cond_true] at hk'
            exact hQ .normal _ _ _ _ hk' h'
          · rw [if_neg hi]
            have : Nat.beq i id = false := beq_ne hi
            simp only [this, cond_false] at hk'
            exact hQ (.exit i) _ _ _ _ hk' h'
        | goto l => exact hQ (.goto l) _ _ _ _ hk' h'
        | ret => exact hQ .ret _ _ _ _ hk' h'
      | loop c =>
        simp only at hk
        split at hk
        · rename_i alts halts
          have h1 := htold.1
          rw [halts] at h1
          exact altK_sound (fun m hm => ih m (by omega)) htold.2 (fun e s' G' a' w' hk' h' => hQ e s' G' a' w' (by rw [fS_eq] at hk'; exact hk') h') alts s h1 hk h
        · refine wp_loop_rounds 70 (unroll_sound (fun s k G a w Q hk h hQ => hn R f c s k r en G a w Q htold.2 hk h hQ) (fun e s' G' a' w' _ hk' h' => hQ e s' G' a' w' hk' h') 70 s G a w hk h)
      | scope c =>
        refine wp_scope_straight (hn R f c s _ r en G a w _ htold hk h fun e s' G' a' w' hk' h' => ?_)
        cases e with
        | normal => exact hQ .normal _ _ _ _ hk' h'
        | exit i => exact hQ (.exit i) _ _ _ _ hk' h'
        | goto l => cases hk'
        | ret => exact hQ .ret _ _ _ _ hk' h'
      | _ => simp at hk
end Go.Sx
