/-
  SX: patterns of states.
-/
import Derived.Test.YtkogopmfpcbbkaaDoorSxDt
set_option linter.unusedVariables false
set_option linter.unusedSimpArgs false
namespace Go.Sx
open Go
open Go.RowKit (Below)
variable {P : Program} {E : Env} {base : Nat} {w0 : GW} {ok : Nat → Prop} {en : Ent} {G G' : Gam} {s : St} {a : Act} {w w' : GW} {R : Type} {M : Mem}

noncomputable def okP (n : Nat) : Pt → Bool := SPat.closed.ok n

/-- A value that is built for one that is matched. -/
noncomputable def As (n : Nat) (v u : AV) : Prop := (∀ (D : Nat → Prop) (σ : Nat → SB) (w : GW) (x : Value), VR D σ w v x → VR D σ w u x) ∧ ∀ b ∈ u.ids, b < n

theorem arePtrs_eq : ∀ {l : List (Nat × Nat)} {vs : List AV}, arePtrs l vs = true → vs = ptrs l
  | [], [], _ => rfl
  | p :: r, v :: s, h => by
    simp only [arePtrs, Bool.and_eq_true] at h
    have := arePtrs_eq h.2
    subst this
    have h1 := h.1
    unfold isPtr at h1
    split at h1
    · simp only [Bool.and_eq_true] at h1
      rw [Nat.eq_of_beq_eq_true h1.1, Nat.eq_of_beq_eq_true h1.2]
      rfl
    · cases h1
  | [], _ :: _, h => by simp [arePtrs] at h
  | _ :: _, [], h => by simp [arePtrs] at h
theorem ptrs_ids (n : Nat) : ∀ (l : List (Nat × Nat)), l.all (fun p => Nat.blt p.1 n) = true → ∀ b ∈ AV.idss (ptrs l), b < n
  | [], _, b, hb => by simp [ptrs, AV.idss] at hb
  | p :: r, h, b, hb => by
    simp only [List.all_cons, Bool.and_eq_true] at h
    simp only [ptrs, List.map_cons, AV.idss, AV.ids, List.mem_append, List.mem_singleton] at hb
    rcases hb with rfl | hb
    · exact Nat.le_of_ble_eq_true h.1
    · exact ptrs_ids n r h.2 b hb

theorem idss_get {b : Nat} : ∀ {l : List AV}, b ∈ AV.idss l → ∃ j, ∃ (h : j < l.length), b ∈ (l[j]).ids
  | [], h => by simp [AV.idss] at h
  | v :: r, h => by
    simp only [AV.idss, List.mem_append] at h
    rcases h with h | h
    · exact ⟨0, by simp, h⟩
    · obtain ⟨j, hj, hb⟩ := idss_get h
      exact ⟨j + 1, by simpa using hj, by simpa using hb⟩
theorem matchP_as (n : Nat) : ∀ (ps : List Pt) (vs : List AV) (x : PTs ps), matchP ps vs = some x → (ps.all (okP n)) = true → (buildP ps x).length = vs.length ∧ ∀ i (h : i < vs.length) (h' : i < (buildP ps x).length), As n vs[i] (buildP ps x)[i]
  | [], [], x, _, _ => ⟨rfl, fun i h => by simp at h⟩
  | [], _ :: _, x, h, _ => by simp [matchP] at h
  | p :: ps, [], x, h, _ => by cases p <;> simp [matchP] at h
  | p :: ps, v :: vs, x, h, hok => by
    simp only [List.all_cons, Bool.and_eq_true] at hok
    have go : ∀ (u : AV) (xr : PTs ps), As n v u → matchP ps vs = some xr → ∀ (l : List AV), l = u :: buildP ps xr → l.length = (v :: vs).length ∧ ∀ i (h : i < (v :: vs).length) (h' : i < l.length), As n (v :: vs)[i] l[i] := by
      intro u xr hu hm l hl
      subst hl
      obtain ⟨h1, h2⟩ := matchP_as n ps vs xr hm hok.2
      refine ⟨by simp [h1], fun i h h' => ?_⟩
      cases i with
      | zero => exact hu
      | succ i => exact h2 i (by simpa using h) (by simpa using h')
    cases p with
    | int k =>
      simp only [matchP, Option.bind_eq_some_iff, Option.some.injEq] at h
      obtain ⟨m, hm, r, hr, rfl⟩ := h
      exact go (.int k m) r (by rw [asInt_inv hm]; exact ⟨fun _ _ _ _ h => h, by simp [AV.ids]⟩) hr _ rfl
    | bool =>
      simp only [matchP, Option.bind_eq_some_iff, Option.some.injEq] at h
      obtain ⟨m, hm, r, hr, rfl⟩ := h
      refine go (.bool m) r ?_ hr _ rfl
      unfold AV.asBool at hm
      split at hm
      · cases hm; exact ⟨fun _ _ _ _ h => h, by simp [AV.ids]⟩
      · simp at hm
    | str =>
      simp only [matchP, Option.bind_eq_some_iff, Option.some.injEq] at h
      obtain ⟨m, hm, r, hr, rfl⟩ := h
      refine go (.str m) r ?_ hr _ rfl
      unfold AV.asStr at hm
      split at hm
      · cases hm; exact ⟨fun _ _ _ _ h => h, by simp [AV.ids]⟩
      · simp at hm
    | sl e =>
      simp only [matchP, Option.bind_eq_some_iff, Option.some.injEq] at h
      obtain ⟨m, hm, r, hr, rfl⟩ := h
      refine go (.sl e m) r ⟨fun D σ w x hx => ?_, by simp [AV.ids]⟩ hr _ rfl
      have := asSl_as hm
      cases hx with
      | data _ _ hd => exact .data _ _ (this _ _ _ hd)
      | _ => simp [AV.asSl] at hm
    | ptr b off =>
      simp only [matchP] at h
      replace h := bif_none h
      obtain ⟨hb, h⟩ := h
      refine go (.ptr b off) x ?_ h _ rfl
      unfold isPtr at hb
      split at hb
      · simp only [Bool.and_eq_true] at hb
        rw [Nat.eq_of_beq_eq_true hb.1, Nat.eq_of_beq_eq_true hb.2]
        refine ⟨fun _ _ _ _ h => h, fun b' hb' => ?_⟩
        simp only [AV.ids, List.mem_singleton] at hb'
        subst hb'
        exact Nat.le_of_ble_eq_true hok.1
      · cases hb
    | vec b =>
      simp only [matchP] at h
      replace h := bif_none h
      obtain ⟨hb, h⟩ := h
      refine go (.vec b) x ?_ h _ rfl
      unfold isVec at hb
      split at hb
      · rw [Nat.eq_of_beq_eq_true hb]
        refine ⟨fun _ _ _ _ h => h, fun b' hb' => ?_⟩
        simp only [AV.ids, List.mem_singleton] at hb'
        subst hb'
        exact Nat.le_of_ble_eq_true hok.1
      · cases hb
    | mref b =>
      simp only [matchP] at h
      replace h := bif_none h
      obtain ⟨hb, h⟩ := h
      refine go (.mref b) x ?_ h _ rfl
      unfold isMref at hb
      split at hb
      · rw [Nat.eq_of_beq_eq_true hb]
        refine ⟨fun _ _ _ _ h => h, fun b' hb' => ?_⟩
        simp only [AV.ids, List.mem_singleton] at hb'
        subst hb'
        exact Nat.le_of_ble_eq_true hok.1
      · cases hb
    | nilsl =>
      simp only [matchP] at h
      replace h := bif_none h
      obtain ⟨hb, h⟩ := h
      refine go .nilsl x ?_ h _ rfl
      unfold isNilsl at hb
      split at hb
      · exact ⟨fun _ _ _ _ h => h, by simp [AV.ids]⟩
      · cases hb
    | func f y z =>
      simp only [matchP] at h
      replace h := bif_none h
      obtain ⟨hb, h⟩ := h
      refine go (.func f (ptrs y) (ptrs z)) x ?_ h _ rfl
      unfold isFunc at hb
      split at hb
      · simp only [Bool.and_eq_true] at hb
        rw [Nat.eq_of_beq_eq_true hb.1.1, arePtrs_eq hb.1.2, arePtrs_eq hb.2]
        refine ⟨fun _ _ _ _ h => h, fun b' hb' => ?_⟩
        have hok1 : (y.all (fun p => Nat.blt p.1 n) && z.all (fun p => Nat.blt p.1 n)) = true := hok.1
        simp only [Bool.and_eq_true] at hok1
        simp only [AV.ids, List.mem_append] at hb'
        rcases hb' with hb' | hb'
        · exact ptrs_ids n y hok1.1 b' hb'
        · exact ptrs_ids n z hok1.2 b' hb'
      · cases hb
    | agg m =>
      simp only [matchP] at h
      split at h
      · rename_i cs
        replace h := bif_none h
        obtain ⟨hb, h⟩ := h
        have hm := Nat.eq_of_beq_eq_true hb
        obtain ⟨h1, h2⟩ := matchP_as n ps (cs ++ vs) x h hok.2
        simp only [List.length_append] at h1
        have hl : buildP (.agg m :: ps) x = .agg ((buildP ps x).take m) :: (buildP ps x).drop m := rfl
        rw [hl]
        have hpt : ∀ i (hi : i < cs.length) (hi' : i < ((buildP ps x).take m).length), As n cs[i] ((buildP ps x).take m)[i] := fun i hi hi' => by
          have := h2 i (by simp; omega) (by simp at hi'; omega)
          simpa [List.getElem_append_left hi] using this
        refine ⟨by simp; omega, fun i h h' => ?_⟩
        cases i with
        | zero =>
          refine ⟨fun D σ w y hy => ?_, fun b hb => ?_⟩
          · obtain ⟨xs, g1, g2, g3, rfl⟩ := hy.agg_inv
            have gl : ((buildP ps x).take m).length = xs.length := by simp; omega
            exact .agg _ xs gl g2 fun i q1 q2 => (hpt i (by omega) q1).1 _ _ _ _ (g3 i (by omega) q2)
          · have hb2 : b ∈ AV.idss ((buildP ps x).take m) := hb
            obtain ⟨j, hj, hb3⟩ := idss_get hb2
            exact (hpt j (by simp at hj; omega) hj).2 b hb3
        | succ i =>
          have q1 : i < vs.length := by simpa using h
          have q2 : i < ((buildP ps x).drop m).length := by simpa using h'
          have := h2 (m + i) (by simp; omega) (by simp at q2; omega)
          show As n vs[i] ((buildP ps x).drop m)[i]
          rw [List.getElem_drop]
          have e : (cs ++ vs)[m + i]'(by simp; omega) = vs[i] := by
            rw [List.getElem_append_right (by omega)]
            congr 1
            omega
          rw [e] at this
          exact this
      · simp at h
    | csl b off m =>
      simp only [matchP] at h
      replace h := bif_none h
      obtain ⟨hb, h⟩ := h
      refine go (.csl b off m) x ?_ h _ rfl
      unfold isCsl at hb
      split at hb
      · simp only [Bool.and_eq_true] at hb
        rw [Nat.eq_of_beq_eq_true hb.1, Nat.eq_of_beq_eq_true hb.2.1, Nat.eq_of_beq_eq_true hb.2.2]
        refine ⟨fun _ _ _ _ h => h, fun b' hb' => ?_⟩
        simp only [AV.ids, List.mem_singleton] at hb'
        subst hb'
        exact Nat.le_of_ble_eq_true hok.1
      · cases hb
    | lit k m =>
      simp only [matchP] at h
      replace h := bif_none h
      obtain ⟨hb, h⟩ := h
      refine go (.int k m) x ?_ h _ rfl
      unfold isLit at hb
      split at hb
      · simp only [Bool.and_eq_true, decide_eq_true_eq, ieq] at hb
        rw [hb.1, hb.2]
        exact ⟨fun _ _ _ _ h => h, by simp [AV.ids]⟩
      · cases hb
    | junk =>
      simp only [matchP] at h
      exact go .junk x ⟨fun _ _ _ x _ => .junk x, by simp [AV.ids]⟩ h _ rfl

/-- A block that is built for one that is matched. -/
noncomputable def AsB (n : Nat) (x y : Blk) : Prop := y = .dead ∨ (∃ cs ds, x = .cells cs ∧ y = .cells ds ∧ ds.length = cs.length ∧ ∀ i (h : i < cs.length) (h' : i < ds.length), As n cs[i] ds[i]) ∨ (y = x ∧ ((∃ e l, x = .vec e l) ∨ (∃ e l, x = .fvec e l) ∨ ∃ kk kv l, x = .map kk kv l))
noncomputable def okB (n : Nat) : BP → Bool
  | .cells ps => ps.all (okP n)
  | _ => true

theorem matchB_as (n : Nat) : ∀ (bs : List BP) (M : Mem) (x : BTs bs), matchB bs M = some x → (bs.all (okB n)) = true → (buildB bs x).length = bs.length ∧ bs.length ≤ M.length ∧ ∀ i (h : i < M.length) (h' : i < (buildB bs x).length), AsB n M[i] (buildB bs x)[i]
  | [], M, x, _, _ => ⟨rfl, by simp, fun i h h' => by simp [buildB] at h'⟩
  | b :: bs, [], x, h, _ => by cases b <;> simp [matchB] at h
  | b :: bs, m :: M, x, h, hok => by
    simp only [List.all_cons, Bool.and_eq_true] at hok
    have go : ∀ (u : Blk) (xr : BTs bs), AsB n m u → matchB bs M = some xr → ∀ (l : List Blk), l = u :: buildB bs xr → l.length = (b :: bs).length ∧ (b :: bs).length ≤ (m :: M).length ∧ ∀ i (h : i < (m :: M).length) (h' : i < l.length), AsB n (m :: M)[i] l[i] := by
      intro u xr hu hm l hl
      subst hl
      obtain ⟨h1, h2, h3⟩ := matchB_as n bs M xr hm hok.2
      refine ⟨by simp [h1], by simpa using h2, fun i h h' => ?_⟩
      cases i with
      | zero => exact hu
      | succ i => exact h3 i (by simpa using h) (by simpa using h')
    cases b with
    | dead =>
      cases m <;> exact go .dead x (.inl rfl) h _ rfl
    | cells ps =>
      cases m <;> simp only [matchB, Option.bind_eq_some_iff, Option.some.injEq, reduceCtorEq] at h
      obtain ⟨y, hy, z, hz, rfl⟩ := h
      obtain ⟨h1, h2⟩ := matchP_as n ps _ y hy hok.1
      exact go (.cells (buildP ps y)) z (.inr (.inl ⟨_, _, rfl, rfl, h1, h2⟩)) hz _ rfl
    | vec e =>
      cases m <;> simp only [matchB, reduceCtorEq] at h
      split at h
      · rename_i he
        subst he
        simp only [Option.bind_eq_some_iff, Option.some.injEq] at h
        obtain ⟨z, hz, rfl⟩ := h
        exact go _ z (.inr (.inr ⟨rfl, .inl ⟨_, _, rfl⟩⟩)) hz _ rfl
      · simp at h
    | fvec e =>
      cases m <;> simp only [matchB, reduceCtorEq] at h
      split at h
      · rename_i he
        subst he
        simp only [Option.bind_eq_some_iff, Option.some.injEq] at h
        obtain ⟨z, hz, rfl⟩ := h
        exact go _ z (.inr (.inr ⟨rfl, .inr (.inl ⟨_, _, rfl⟩)⟩)) hz _ rfl
      · simp at h
    | map kk kv =>
      cases m <;> simp only [matchB, reduceCtorEq] at h
      split at h
      · rename_i he
        obtain ⟨rfl, rfl⟩ := he
        simp only [Option.bind_eq_some_iff, Option.some.injEq] at h
        obtain ⟨z, hz, rfl⟩ := h
        exact go _ z (.inr (.inr ⟨rfl, .inr (.inr ⟨_, _, _, rfl⟩)⟩)) hz _ rfl
      · simp at h

theorem natsEq_eq : ∀ {l r : List Nat}, natsEq l r = true → l = r
  | [], [], _ => rfl
  | a :: r, b :: s, h => by
    simp only [natsEq, Bool.and_eq_true] at h
    rw [Nat.eq_of_beq_eq_true h.1, natsEq_eq h.2]
  | [], _ :: _, h => by simp [natsEq] at h
  | _ :: _, [], h => by simp [natsEq] at h

theorem putT_val {D : Nat → Prop} {σ : Nat → SB} {n : Nat} {T : List AV} {tmps : Array Value} (hT : ∀ t, VR D σ w ((T[t]?).getD .junk) (tmps.getD t undef)) (hn : ∀ b, b < n → True) : ∀ (ix : List Nat) (us : List AV) (T0 : List AV), us.length = (pickT T ix).length →
    (∀ i (h : i < (pickT T ix).length) (h' : i < us.length), As n (pickT T ix)[i] us[i]) → (∀ t v, T0[t]? = some v → (∀ b ∈ v.ids, b < n) ∧ VR D σ w v (tmps.getD t undef)) →
    (putT T0 ix us).length = T0.length ∧ ∀ t v, (putT T0 ix us)[t]? = some v → (∀ b ∈ v.ids, b < n) ∧ VR D σ w v (tmps.getD t undef)
  | [], us, T0, _, _, h0 => by cases us <;> exact ⟨rfl, h0⟩
  | i :: ix, [], T0, hl, _, h0 => by simp [pickT] at hl
  | i :: ix, u :: us, T0, hl, h, h0 => by
    have h1 := h 0 (by simp [pickT]) (by simp)
    simp only [pickT, List.getElem_cons_zero] at h1
    have h2 := putT_val hT hn ix us (T0.set i u) (by simpa [pickT] using hl) (fun j hj hj' => by
      have := h (j + 1) (by simpa [pickT] using hj) (by simpa using hj')
      simpa [pickT] using this) (fun t v hv => by
      rw [List.getElem?_set] at hv
      by_cases e : i = t
      · subst e
        rw [if_pos rfl] at hv
        split at hv
        · cases hv
          exact ⟨h1.2, h1.1 _ _ _ _ (by rw [nthD_eq]; exact hT i)⟩
        · cases hv
      · rw [if_neg e] at hv
        exact h0 t v hv)
    rw [← setR_eq] at h2
    exact ⟨h2.1.trans (by rw [setR_eq]; simp), h2.2⟩

/-- What is matched may be taken as it is built. -/
theorem match0_sound {p : SPat} {x : p.X} (hm : p.match0 s = some x) (hc : p.closed = true) (h : Rel E base w0 ok en G s a w) : ∃ G', Rel E base w0 ok en G' (p.build x) a w := by
  unfold SPat.match0 at hm
  replace hm := bif_none hm
  obtain ⟨hb, hm⟩ := hm
  simp only [Bool.and_eq_true] at hb
  obtain ⟨⟨⟨b1, b2⟩, b3⟩, b4⟩ := hb
  have e1 := Nat.eq_of_beq_eq_true b1
  have e2 := natsEq_eq b2
  have e3 := Nat.eq_of_beq_eq_true b3
  have e4 := Nat.le_of_ble_eq_true b4
  obtain ⟨xt, hxt, hm⟩ := Option.bind_eq_some_iff.1 hm
  obtain ⟨xm, hxm, hm⟩ := Option.bind_eq_some_iff.1 hm
  cases hm
  unfold SPat.closed at hc
  simp only [Bool.and_eq_true] at hc
  obtain ⟨c1, c2⟩ := hc
  have c2' : (p.mp.all (okB p.mp.length)) = true := by
    rw [List.all_eq_true] at c2 ⊢
    intro b hb
    have := c2 b hb
    cases b <;> first | rfl | exact this
  obtain ⟨t1, t2⟩ := matchP_as p.mp.length p.tp _ xt hxt c1
  obtain ⟨m1, m2, m3⟩ := matchB_as p.mp.length p.mp s.M xm hxm c2'
  have hD : ∀ c, G.D c → G.D c ∧ w.heap[c]? = w.heap[c]? := fun c hc => ⟨hc, rfl⟩
  let σ' : Nat → SB := fun b => if b < p.mp.length then G.σ b else .none
  have hσ : ∀ b, b < p.mp.length → σ' b = G.σ b := fun b hb => by simp [σ', hb]
  have hval := putT_val (D := G.D) (σ := G.σ) (w := w) (n := p.mp.length) (T := s.T) (tmps := a.tmps) (fun t => by
    cases ht : s.T[t]? with
    | none => exact .junk _
    | some v => exact h.val t v ht) (fun _ _ => trivial) p.ix (buildP p.tp xt) (junks p.nt) t1 t2 (fun t v hv => by
    rw [junks_eq, List.getElem?_replicate] at hv
    split at hv
    · cases hv; exact ⟨by simp [AV.ids], .junk _⟩
    · cases hv)
  have lower : ∀ {v : AV} {y : Value}, (∀ b ∈ v.ids, b < p.mp.length) → VR G.D G.σ w v y → VR G.D σ' w v y := fun hb hv => hv.mono hD fun b hb' _ => hσ b (hb b hb')
  have hblk : ∀ (b : Nat) (y : Blk), (buildB p.mp xm)[b]? = some y → b < p.mp.length ∧ ∃ z, s.M[b]? = some z ∧ AsB p.mp.length z y := by
    intro b y hb
    obtain ⟨hlt, rfl⟩ := List.getElem?_eq_some_iff.1 hb
    have hlt' : b < p.mp.length := by omega
    exact ⟨hlt', s.M[b]'(by omega), List.getElem?_eq_getElem _, m3 b (by omega) hlt⟩
  have hmut : ∀ {z y : Blk} {sb : SB} {c : Nat}, AsB p.mp.length z y → mutC sb y = some c → mutC sb z = some c := by
    intro z y sb c hz hc
    rcases hz with rfl | ⟨cs, ds, rfl, rfl, _⟩ | ⟨rfl, _⟩
    · rw [mutC_dead] at hc; cases hc
    · cases sb <;> exact hc
    · exact hc
  refine ⟨⟨σ', G.D⟩, h.defers, ?_, fun t v ht => lower (hval.2 t v ht).1 (hval.2 t v ht).2, ⟨fun b y hb => ?_, fun b y c hb hc => ?_, fun b b' y y' c hb hc hb' hc' => ?_, h.mem.dlt, h.mem.dok, fun b hb => ?_⟩, h.below, h.glob, h.base, h.grow, fun b hb hn => ?_, ?_, ?_⟩
  · show a.tmps.size = (putT (junks p.nt) p.ix (buildP p.tp xt)).length
    rw [hval.1, h.size, e1, junks_eq]; simp
  · obtain ⟨hlt, z, hz, has⟩ := hblk b y hb
    show BR G.D σ' w (σ' b) y
    rw [hσ b hlt]
    have hbr := h.mem.blocks b z hz
    rcases has with rfl | ⟨cs, ds, rfl, rfl, hl, hh⟩ | ⟨rfl, hk⟩
    · trivial
    · obtain ⟨c, vs, t, q1, q2, q3, q4⟩ := hbr
      exact ⟨c, vs, t, q1, q2, by omega, fun i h1 h2 => ⟨(q4 i (by omega) h2).1, lower (hh i (by omega) h1).2 ((hh i (by omega) h1).1 _ _ _ _ (q4 i (by omega) h2).2)⟩⟩
    · rcases hk with ⟨e, l, rfl⟩ | ⟨e, l, rfl⟩ | ⟨kk, kv, l, rfl⟩
      · exact hbr
      · exact hbr
      · exact hbr
  · obtain ⟨hlt, z, hz, has⟩ := hblk b y hb
    have hc2 : mutC (σ' b) y = some c := hc
    rw [hσ b hlt] at hc2
    exact h.mem.own b z c hz (hmut has hc2)
  · obtain ⟨hlt, z, hz, has⟩ := hblk b y hb
    obtain ⟨hlt', z', hz', has'⟩ := hblk b' y' hb'
    have hc2 : mutC (σ' b) y = some c := hc
    have hc2' : mutC (σ' b') y' = some c := hc'
    rw [hσ b hlt] at hc2
    rw [hσ b' hlt'] at hc2'
    exact h.mem.apart b b' z z' c hz (hmut has hc2) hz' (hmut has' hc2')
  · have hb' : (buildB p.mp xm).length ≤ b := hb
    simp [σ', show ¬ b < p.mp.length by omega]
  · have hb2 : b ∈ s.lock := by rw [e2]; exact hb
    obtain ⟨q1, q2⟩ := h.held b hb2 hn
    have : b < p.lo := by rw [← e3]; exact q2
    exact ⟨by rw [← q1]; exact hσ b (by omega), this⟩
  · show p.lo ≤ (buildB p.mp xm).length
    omega
  · have := h.fr
    rw [e2, e3] at this
    exact this

theorem frzAt_sound : ∀ (l : List Nat) {s : St} {G : Gam}, Rel E base w0 ok en G s a w → ∃ G', Rel E base w0 ok en G' { s with M := frzAt l s.M } a w
  | [], s, G, h => ⟨G, h⟩
  | i :: r, s, G, h => by
    obtain ⟨G1, h1, _⟩ := h.freeze i
    obtain ⟨G2, h2⟩ := frzAt_sound r h1
    exact ⟨G2, h2⟩
theorem toD_sound (h : MemOK base ok G w M) {v : AV} {x : Value} (hv : VR G.D G.σ w v x) : VR G.D G.σ w (toD M v) x := by
  unfold toD
  split
  · rename_i b
    cases hd : dataOf M (.vec b) with
    | none => exact hv
    | some d => exact .data _ _ (dataOf_sound h hv hd)
  · rename_i b i j
    cases hd : dataOf M (.vsl b i j) with
    | none => exact hv
    | some d => exact .data _ _ (dataOf_sound h hv hd)
  · exact hv
theorem Rel.setT (h : Rel E base w0 ok en G s a w) {i : Nat} {v : AV} (hv : ∀ u, s.T[i]? = some u → VR G.D G.σ w v (a.tmps.getD i undef)) : Rel E base w0 ok en G { s with T := s.T.set i v } a w := by
  refine ⟨h.defers, by simp [h.size], fun t u ht => ?_, h.mem, h.below, h.glob, h.base, h.grow, h.held, h.lo, h.fr⟩
  have ht' : (s.T.set i v)[t]? = some u := ht
  rw [List.getElem?_set] at ht'
  split at ht'
  · rename_i e
    subst e
    split at ht'
    · rename_i hlt
      cases ht'
      exact hv _ (List.getElem?_eq_getElem hlt)
    · cases ht'
  · exact h.val t u ht'
theorem grow_sound : ∀ (r : List BP) {s : St} {G : Gam}, Rel E base w0 ok en G s a w → ∃ G', Rel E base w0 ok en G' { s with M := s.M ++ growB r } a w ∧ (∀ i, i < s.M.length → G'.σ i = G.σ i) ∧ ∀ b e l, s.M.length ≤ b → (s.M ++ growB r)[b]? = some (.vec e l) → G'.σ b = .hdr none 0 0 e.size
  | [], s, G, h => ⟨G, by simpa [growB] using h, fun _ _ => rfl, fun b e l hb hv => by simp only [growB, List.append_nil] at hv; have := (List.getElem?_eq_some_iff.1 hv).1; omega⟩
  | p :: r, s, G, h => by
    have dead : growB (p :: r) = .dead :: growB r → ∃ G', Rel E base w0 ok en G' { s with M := s.M ++ growB (p :: r) } a w ∧ (∀ i, i < s.M.length → G'.σ i = G.σ i) ∧ ∀ b e l, s.M.length ≤ b → (s.M ++ growB (p :: r))[b]? = some (.vec e l) → G'.σ b = .hdr none 0 0 e.size := by
      intro e
      have h1 : Rel E base w0 ok en G { s with M := s.M ++ [.dead] } a w :=
        h.push (b := some .dead) ⟨Below.refl _ _, fun _ h => h, fun _ h => .inl h, fun _ _ => rfl, trivial, fun c hc => by rw [mutC_dead] at hc; cases hc⟩
      obtain ⟨G2, h2, h3, h4⟩ := grow_sound r h1
      have e2 : (s.M ++ [Blk.dead]) ++ growB r = s.M ++ growB (p :: r) := by rw [e]; simp
      simp only [e2] at h2 h4
      refine ⟨G2, h2, fun i hi => h3 i (by simp; omega), fun b e' l hb hv => ?_⟩
      by_cases hbn : b = s.M.length
      · subst hbn
        rw [e, List.getElem?_append_right (Nat.le_refl _)] at hv
        simp at hv
      · exact h4 b e' l (by simp; omega) hv
    cases p with
    | vec e =>
      have h1 : Rel E base w0 ok en (G.up s.M.length (.hdr none 0 0 e.size)) { s with M := s.M ++ [.vec e []] } a w := h.push (b := some (.vec e [])) (Step.nilvec (h.mem.out _ (Nat.le_refl _)) e)
      obtain ⟨G2, h2, h3, h4⟩ := grow_sound r h1
      have e2 : (s.M ++ [Blk.vec e []]) ++ growB r = s.M ++ growB (.vec e :: r) := by simp [growB]
      simp only [e2] at h2 h4
      refine ⟨G2, h2, fun i hi => (h3 i (by simp; omega)).trans (by simp [Gam.up, show i ≠ s.M.length by omega]), fun b e' l hb hv => ?_⟩
      by_cases hbn : b = s.M.length
      · subst hbn
        rw [List.getElem?_append_right (Nat.le_refl _)] at hv
        simp only [growB, Nat.sub_self, List.getElem?_cons_zero, Option.some.injEq] at hv
        cases hv
        rw [h3 _ (by simp)]
        exact Gam.up_self ..
      · exact h4 b e' l (by simp; omega) hv
    | _ => exact dead rfl
theorem convV_sound (h : MemOK base ok G w M) {n0 : Nat} (hv : ∀ b e l, n0 ≤ b → M[b]? = some (.vec e l) → G.σ b = .hdr none 0 0 e.size) (p : Pt) {v : AV} {x : Value} (hx : VR G.D G.σ w v x) : VR G.D G.σ w (convV n0 M p v) x := by
  unfold convV
  split
  · exact toD_sound h hx
  · rename_i b
    cases hc : (Nat.ble n0 b && isVecAt M b) with
    | false => exact hx
    | true =>
      simp only [Bool.and_eq_true] at hc
      have hle := Nat.le_of_ble_eq_true hc.1
      have hb := hc.2
      unfold isVecAt at hb
      split at hb
      · rename_i e l hM
        have hσ := hv b e l hle hM
        rw [hx.nilsl_inv]
        exact .vec b none 0 0 e.size hσ
      · cases hb
  · exact hx
theorem convC_sound (h : MemOK base ok G w M) {n0 : Nat} (hv : ∀ b e l, n0 ≤ b → M[b]? = some (.vec e l) → G.σ b = .hdr none 0 0 e.size) : ∀ (ps : List Pt) (vs : List AV), (convC n0 M ps vs).length = vs.length ∧ ∀ i (h1 : i < vs.length) (h2 : i < (convC n0 M ps vs).length) (x : Value), VR G.D G.σ w vs[i] x → VR G.D G.σ w (convC n0 M ps vs)[i] x
  | [], vs => by cases vs <;> exact ⟨rfl, fun _ _ _ _ h => h⟩
  | p :: ps, [] => ⟨rfl, fun i h => by simp at h⟩
  | p :: ps, v :: vs => by
    obtain ⟨h1, h2⟩ := convC_sound h hv ps vs
    have e : convC n0 M (p :: ps) (v :: vs) = convV n0 M p v :: convC n0 M ps vs := rfl
    refine ⟨by rw [e]; simp [h1], fun i a1 a2 x hx => ?_⟩
    cases i with
    | zero => exact convV_sound h hv p hx
    | succ i => exact h2 i (by simpa using a1) (by rw [e] at a2; simpa using a2) x hx
theorem convA_sound (h : MemOK base ok G w M) {n0 : Nat} (hv : ∀ b e l, n0 ≤ b → M[b]? = some (.vec e l) → G.σ b = .hdr none 0 0 e.size) (ps : List Pt) {v : AV} {x : Value} (hx : VR G.D G.σ w v x) : VR G.D G.σ w (convA n0 M ps v) x := by
  unfold convA
  split
  · rename_i cs
    obtain ⟨xs, g1, g2, g3, rfl⟩ := hx.agg_inv
    obtain ⟨h1, h2⟩ := convC_sound h hv ps cs
    exact .agg _ xs (by omega) g2 fun i a1 a2 => h2 i (by omega) a1 _ (g3 i (by omega) a2)
  · exact hx
theorem convT_sound {M : Mem} {n0 : Nat} : ∀ (ix : List Nat) (ps : List Pt) {s : St}, s.M = M → Rel E base w0 ok en G s a w → (∀ b e l, n0 ≤ b → M[b]? = some (.vec e l) → G.σ b = .hdr none 0 0 e.size) → Rel E base w0 ok en G { s with T := convT n0 M ix ps s.T } a w
  | [], ps, s, hM, h, hv => by cases ps <;> exact h
  | i :: ix, [], s, hM, h, hv => h
  | i :: ix, p :: ps, s, hM, h, hv => by
    have plain : convT n0 M (i :: ix) (p :: ps) s.T = convT n0 M ix ps s.T → Rel E base w0 ok en G { s with T := convT n0 M (i :: ix) (p :: ps) s.T } a w := fun e => by
      rw [e]; exact convT_sound ix ps hM h hv
    have set : ∀ f : AV → AV, (∀ v x, VR G.D G.σ w v x → VR G.D G.σ w (f v) x) → Rel E base w0 ok en G { s with T := setR s.T i (f (nthD s.T i)) } a w := fun f hf => by
      rw [setR_eq]
      refine h.setT fun u hu => ?_
      rw [nthD_eq, hu]
      exact hf u _ (h.val i u hu)
    have hm : MemOK base ok G w M := by rw [← hM]; exact h.mem
    cases p with
    | sl e => exact convT_sound ix ps (s := { s with T := setR s.T i (convV n0 M (.sl e) (nthD s.T i)) }) hM (set _ fun v x hx => convV_sound hm hv _ hx) hv
    | vec b => exact convT_sound ix ps (s := { s with T := setR s.T i (convV n0 M (.vec b) (nthD s.T i)) }) hM (set _ fun v x hx => convV_sound hm hv _ hx) hv
    | agg n => exact convT_sound ix (ps.drop n) (s := { s with T := setR s.T i (convA n0 M ps (nthD s.T i)) }) hM (set _ fun v x hx => convA_sound hm hv _ hx) hv
    | _ => exact plain rfl
/-- Cells, read as of another pattern. -/
theorem Rel.recells (h : Rel E base w0 ok en G s a w) {N : Mem} (hl : N.length = s.M.length) (hN : ∀ (b : Nat) (y : Blk), N[b]? = some y → s.M[b]? = some y ∨ ∃ cs ds, s.M[b]? = some (.cells cs) ∧ y = .cells ds ∧ ds.length = cs.length ∧ ∀ i (h1 : i < cs.length) (h2 : i < ds.length) x, VR G.D G.σ w cs[i] x → VR G.D G.σ w ds[i] x) :
    Rel E base w0 ok en G { s with M := N } a w := by
  have hmutN : ∀ (b : Nat) (y : Blk) (c : Nat), N[b]? = some y → mutC (G.σ b) y = some c → ∃ z, s.M[b]? = some z ∧ mutC (G.σ b) z = some c := by
    intro b y c hb hc
    rcases hN b y hb with hs | ⟨cs, ds, hs, rfl, _⟩
    · exact ⟨y, hs, hc⟩
    · refine ⟨_, hs, ?_⟩
      generalize G.σ b = sb at hc ⊢
      cases sb <;> exact hc
  refine ⟨h.defers, h.size, h.val, ⟨fun b y hb => ?_, fun b y c hb hc => ?_, fun b b' y y' c hb hc hb' hc' => ?_, h.mem.dlt, h.mem.dok, fun b hb => h.mem.out b (by rw [← hl]; exact hb)⟩, h.below, h.glob, h.base, h.grow, h.held, ?_, h.fr⟩
  · rcases hN b y hb with hs | ⟨cs, ds, hs, rfl, q1, q2⟩
    · exact h.mem.blocks b y hs
    · obtain ⟨c, vs, t, g1, g2, g3, g4⟩ := h.mem.blocks b _ hs
      exact ⟨c, vs, t, g1, g2, by omega, fun i h1 h2 => ⟨(g4 i (by omega) h2).1, q2 i (by omega) h1 _ (g4 i (by omega) h2).2⟩⟩
  · obtain ⟨z, hz, hc'⟩ := hmutN b y c hb hc
    exact h.mem.own b z c hz hc'
  · obtain ⟨z, hz, g1⟩ := hmutN b y c hb hc
    obtain ⟨z', hz', g2⟩ := hmutN b' y' c hb' hc'
    exact h.mem.apart b b' z z' c hz g1 hz' g2
  · show s.lo ≤ N.length
    rw [hl]; exact h.lo
theorem convM_get (n0 : Nat) (M : Mem) : ∀ (bs : List BP) (N : Mem), (convM n0 M bs N).length = N.length ∧ ∀ (b : Nat) (y : Blk), (convM n0 M bs N)[b]? = some y → N[b]? = some y ∨ ∃ ps cs, N[b]? = some (.cells cs) ∧ y = .cells (convC n0 M ps cs)
  | [], N => by cases N <;> exact ⟨rfl, fun _ _ h => .inl h⟩
  | p :: bs, [] => by cases p <;> exact ⟨rfl, fun _ _ h => .inl h⟩
  | p :: bs, x :: r => by
    obtain ⟨h1, h2⟩ := convM_get n0 M bs r
    have step : ∀ z, (z = x ∨ ∃ ps cs, x = .cells cs ∧ z = .cells (convC n0 M ps cs)) → convM n0 M (p :: bs) (x :: r) = z :: convM n0 M bs r → (convM n0 M (p :: bs) (x :: r)).length = (x :: r).length ∧ ∀ (b : Nat) (y : Blk), (convM n0 M (p :: bs) (x :: r))[b]? = some y → (x :: r)[b]? = some y ∨ ∃ ps cs, (x :: r)[b]? = some (.cells cs) ∧ y = .cells (convC n0 M ps cs) := by
      intro z hz e
      rw [e]
      refine ⟨by simp [h1], fun b y hb => ?_⟩
      cases b with
      | zero =>
        simp only [List.getElem?_cons_zero, Option.some.injEq] at hb ⊢
        subst hb
        rcases hz with rfl | ⟨ps, cs, rfl, rfl⟩
        · exact .inl rfl
        · exact .inr ⟨ps, cs, rfl, rfl⟩
      | succ b => simpa using h2 b y (by simpa using hb)
    cases p with
    | cells ps => cases x with
      | cells cs => exact step _ (.inr ⟨ps, cs, rfl, rfl⟩) rfl
      | _ => exact step _ (.inl rfl) rfl
    | _ => exact step _ (.inl rfl) rfl
theorem match_sound {p : SPat} {x : p.X} (hm : p.match s = some x) (hc : p.closed = true) (h : Rel E base w0 ok en G s a w) : ∃ G', Rel E base w0 ok en G' (p.build x) a w := by
  obtain ⟨G1, h1⟩ := frzAt_sound (deadsOf 0 p.mp) h
  obtain ⟨G2, h2, _, h3⟩ := grow_sound (p.mp.drop (frzAt (deadsOf 0 p.mp) s.M).length) h1
  have h4 := convT_sound (n0 := (frzAt (deadsOf 0 p.mp) s.M).length) p.ix p.tp rfl h2 h3
  obtain ⟨g1, g2⟩ := convM_get (frzAt (deadsOf 0 p.mp) s.M).length (p.prepM s) p.mp (p.prepM s)
  have h5 := h4.recells (N := convM (frzAt (deadsOf 0 p.mp) s.M).length (p.prepM s) p.mp (p.prepM s)) g1 (fun b y hb => by
    rcases g2 b y hb with hs | ⟨ps, cs, hs, rfl⟩
    · exact .inl hs
    · obtain ⟨q1, q2⟩ := convC_sound (n0 := (frzAt (deadsOf 0 p.mp) s.M).length) (M := p.prepM s) h2.mem h3 ps cs
      exact .inr ⟨cs, _, hs, rfl, q1, fun i a1 a2 x hx => q2 i a1 a2 x hx⟩)
  exact match0_sound hm hc h5
end Go.Sx
