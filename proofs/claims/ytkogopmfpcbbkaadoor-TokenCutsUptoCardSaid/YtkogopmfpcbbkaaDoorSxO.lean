/-
  SX, part O: lookups, calls under contract, and all operations that write nothing.
-/
import Derived.Test.YtkogopmfpcbbkaaDoorSxN
set_option linter.unusedVariables false
set_option linter.unusedSimpArgs false
namespace Go.Sx
open Go
open Go.RowKit (Below)
variable {P : Program} {E : Env} {base : Nat} {ok : Nat → Prop} {G : Gam} {w : GW} {M : Mem} {R : Type} {slot : Nat}

theorem sameNow_int (kk : IntKind) (a b : Int) : Instr.sameNow (.int kk) (.int kk a) (.int kk b) = some (decide (a = b)) := by
  simp only [Instr.sameNow, if_true]
  congr 1
theorem findNow_map {kk : IntKind} {kv : Kd} (n : Int) : ∀ (l : List ((Kd.int kk).T × kv.T)) (es : List MapEntry) (q : Nat), es.length = l.length → (∀ i (h : i < l.length) (h' : i < es.length), es[i].key = .int kk l[i].1) →
    ∃ r, Instr.findNow (.int kk) (.int kk n) es q = some r ∧ (match r with | none => mfind l n = none | some p => ∃ i, ∃ h : i < l.length, ∃ h' : i < es.length, mfind l n = some l[i].2 ∧ p.2 = es[i].val ∧ p.1 = q + i ∧ l[i].1 = n)
  | [], [], q, _, _ => ⟨none, rfl, rfl⟩
  | [], _ :: _, q, h, _ => by simp at h
  | _ :: _, [], q, h, _ => by simp at h
  | p :: l, e :: es, q, hl, hk => by
    have h0 : e.key = .int kk p.1 := hk 0 (by simp) (by simp)
    by_cases hn : n = p.1
    · refine ⟨some (q, e.val), ?_, 0, by simp, by simp, ?_, rfl, rfl, hn.symm⟩
      · simp only [Instr.findNow, h0, sameNow_int, decide_eq_true hn]
      · simp [mfind, List.find?, Kd.beq, hn]
    · obtain ⟨r, h1, h2⟩ := findNow_map n l es (q + 1) (by simpa using hl) (fun i h h' => hk (i + 1) (by simpa using h) (by simpa using h'))
      have e1 : Instr.findNow (.int kk) (.int kk n) (e :: es) q = some r := by
        simp only [Instr.findNow, h0, sameNow_int, decide_eq_false hn]
        exact h1
      have e2 : mfind (kk := .int kk) (kv := kv) (p :: l) n = mfind (kk := .int kk) (kv := kv) l n := by
        simp [mfind, List.find?, Kd.beq, hn]
      refine ⟨r, e1, ?_⟩
      rw [e2]
      cases r with
      | none => exact h2
      | some p' =>
        obtain ⟨i, a, b, c, d, f, g⟩ := h2
        exact ⟨i + 1, by simpa using a, by simpa using b, by simpa using c, by simpa using d, by omega, by simpa using g⟩

theorem lookA_spec {kk : IntKind} {z : AV} {n : Int} {okf : Bool} {k : AV → Option R} {r : R} : ∀ (ks vs : List AV), lookA kk z (.int kk n) okf k ks vs = some r → ∀ (es : List MapEntry) (q : Nat), es.length = ks.length → es.length = vs.length →
    (∀ i (h : i < ks.length) (h' : i < es.length), VR G.D G.σ w ks[i] es[i].key) → (∀ i (h : i < vs.length) (h' : i < es.length), VR G.D G.σ w vs[i] es[i].val) →
    ∃ v a, Instr.findNow (.int kk) (.int kk n) es q = some a ∧ k (bif okf then .tup [v, .bool a.isSome] else v) = some r ∧ (match a with | none => v = z | some p => VR G.D G.σ w v p.2)
  | [], [], h, es, q, hl, _, _, _ => by
    have : es = [] := List.length_eq_zero_iff.1 (by simpa using hl)
    subst this
    exact ⟨z, none, rfl, h, rfl⟩
  | [], _ :: _, h, _, _, _, _, _, _ => by simp [lookA] at h
  | v :: _, [], h, _, _, _, _, _, _ => by cases v <;> simp [lookA] at h
  | y :: ks, v :: vs, h, es, q, hl, hl', hk, hv => by
    cases es with
    | nil => simp at hl
    | cons e es =>
      unfold lookA at h
      split at h
      · rename_i kk' m _ _ _ he1 he2
        cases he1; cases he2
        replace h := bif_none h
        obtain ⟨hkk, h⟩ := h
        have hkk' : kk = kk' := by simpa using hkk
        subst hkk'
        have h0 : e.key = .int kk m := (hk 0 (by simp) (by simp)).int_inv
        simp only [AV.asInt, if_true, Option.bind_some] at h
        by_cases hn : n = m
        · subst hn
          simp only [cnd, ieq, decide_true, cond_true] at h
          refine ⟨v, some (q, e.val), ?_, h, hv 0 (by simp) (by simp)⟩
          simp only [Instr.findNow, h0, sameNow_int, decide_true]
        · simp only [cnd, ieq, decide_eq_false hn, cond_false] at h
          obtain ⟨v', a, h1, h2, h3⟩ := lookA_spec ks vs h es (q + 1) (by simpa using hl) (by simpa using hl') (fun i h h' => hk (i + 1) (by simpa using h) (by simpa using h')) (fun i h h' => hv (i + 1) (by simpa using h) (by simpa using h'))
          refine ⟨v', a, ?_, h2, h3⟩
          simp only [Instr.findNow, h0, sameNow_int, decide_eq_false hn]
          exact h1
      · rename_i he _; cases he
      · simp at h

theorem run_lookup {xt kt et : TypeId} {kk : IntKind} (hm : P.underlying xt = some (.map kt et)) (hd : P.underlying kt = some (.int kk)) {c : Nat} {es : Array MapEntry} {clock : Nat} (hb : w.heap[c]? = some (.map es clock)) {n : Int} {a : Option (Nat × Value)}
    (hf : Instr.findNow (.int kk) (.int kk n) es.toList 0 = some a) {z : Value} (hz : (zeroValue et).run P w = .ok z w) (okf : Bool) :
    (Instr.lookup xt (.map (some c)) (.int kk n) okf).run P w = .ok (if okf then .tuple #[(a.map Prod.snd).getD z, .bool a.isSome] else (a.map Prod.snd).getD z) w := by
  unfold Instr.lookup
  simp only [Sem.run_bind, run_underlying hm w, Result.andThen_ok, MapKept.run_getObj_map hb, Sem.run_pure, MapKept.run_checkKey (d := .int kk) (k := .int kk n) hd rfl, MapKept.run_findKey hd hf]
  cases a with
  | none => simp [hz]
  | some p => simp

theorem VR.pair {D : Nat → Prop} {σ : Nat → SB} {w : GW} {a b : AV} {x y : Value} (ha : VR D σ w a x) (hb : VR D σ w b y) : VR D σ w (.tup [a, b]) (.tuple #[x, y]) :=
  .tup [a, b] [x, y] rfl fun i h1 h2 => match i, h1 with
    | 0, _ => ha
    | 1, _ => hb
    | i + 2, h1 => absurd h1 (by simp)

theorem kd_zero {D : Nat → Prop} {kv : Kd} {z : Value} (ho : z.oneCell' = true) (hz : zall (kv.cells kv.zero) z.cells.toList = true) : DR D w (kv.of kv.zero) z := by
  rw [cells_one ho] at hz
  obtain ⟨hl, hh⟩ := zall_spec (D := D) (w := w) hz
  cases kv with
  | st s => rw [Kd.cells_length] at hl; cases s <;> simp [Kd.size, SN.size] at hl
  | int k => exact (hh 0 (by simp [Kd.cells]) (by simp)).1
  | bool => exact (hh 0 (by simp [Kd.cells]) (by simp)).1
  | str => exact (hh 0 (by simp [Kd.cells]) (by simp)).1
  | sl e => exact (hh 0 (by simp [Kd.cells]) (by simp)).1

theorem lookupK_sound (hE : EnvOK P E) (hm : MemOK base ok G w M) {t : TypeId} {m x : AV} {u v : Value} (hu : VR G.D G.σ w m u) (hv : VR G.D G.σ w x v) {okf : Bool} {k : AV → Option R} {r : R} (h : lookupK E M t m x okf k = some r) :
    ∃ a y, k a = some r ∧ (Instr.lookup t u v okf).run P w = .ok y w ∧ VR G.D G.σ w a y := by
  unfold lookupK at h
  split at h
  · simp at h
  · rename_i i hi
    obtain ⟨d, hd, hs, _⟩ := (hE.ty t i hi).und
    split at h
    · rename_i kt et b kk n hsh
      rw [hsh] at hs
      rw [shOK_map hs] at hd
      split at h
      · rename_i ki ei hki hei
        obtain ⟨d2, hd2, hs2, _⟩ := (hE.ty kt ki hki).und
        split at h
        · rename_i kk1 hsh2
          rw [hsh2] at hs2
          rw [shOK_int hs2] at hd2
          replace h := bif_none h
          obtain ⟨hc, h⟩ := h
          simp only [Bool.and_eq_true, decide_eq_true_eq] at hc
          obtain ⟨rfl, hna⟩ := hc
          have hna' : ei.agg = false := by simpa [bnot] using hna
          obtain ⟨z, hz, hz0, hz1, hz2⟩ := run_zeroValue' (hE.ty et ei hei) w
          obtain ⟨c, hbc, rfl⟩ := hu.mref_inv
          rw [hv.int_inv]
          split at h
          · rename_i kk' kv l hb
            replace h := bif_none h
            obtain ⟨hc, h⟩ := h
            simp only [Bool.and_eq_true, decide_eq_true_eq] at hc
            obtain ⟨rfl, hkd⟩ := hc
            obtain ⟨c', es, clock, h1, h2, h3, h4⟩ := hm.blocks b _ hb
            rw [hbc] at h1; cases h1
            obtain ⟨a, hf, ha⟩ := findNow_map (kv := kv) n l es.toList 0 (by simpa using h3) (fun i h h' => by
              have := (h4 i h (by simpa using h')).1
              generalize hk : es.toList[i].key = y
              have hk2 : es[i].key = y := by simpa using hk
              rw [hk2] at this
              cases this; rfl)
            have hrun := run_lookup (okf := okf) hd hd2 h2 hf hz
            have hval : DR G.D w (kv.of (odef (mfind l n) kv.zero)) ((a.map Prod.snd).getD z) ∧ (ois (mfind l n)) = a.isSome := by
              cases a with
              | none => rw [ha]; exact ⟨kd_zero (hz0 hna') (hz2 kv hkd).2, rfl⟩
              | some p =>
                obtain ⟨i, h5, h6, h7, h8, _, _⟩ := ha
                rw [h7]
                refine ⟨?_, rfl⟩
                have := (h4 i h5 (by simpa using h6)).2
                show DR G.D w (kv.of l[i].2) p.2
                rw [h8]
                simpa using this
            cases okf with
            | true =>
              simp only [cond_true] at h
              refine ⟨_, _, h, hrun, ?_⟩
              rw [hval.2]
              exact VR.pair (.data _ _ hval.1) (.data _ _ (.bool _))
            | false => exact ⟨_, _, h, hrun, .data _ _ hval.1⟩
          · rename_i ks vs hb
            obtain ⟨c', es, clock, h1, h2, h3, h3', h4, h5⟩ := hm.blocks b _ hb
            rw [hbc] at h1; cases h1
            split at h
            · rename_i zz hzz
              obtain ⟨a, p, hf, hk, hp⟩ := lookA_spec (G := G) (w := w) ks vs h es.toList 0 (by simpa using h3) (by simpa using h3') (fun i h h' => by simpa using h4 i h (by simpa using h')) (fun i h h' => by simpa using h5 i h (by simpa using h'))
              have hrun := run_lookup (okf := okf) hd hd2 h2 hf hz
              have hval : VR G.D G.σ w a ((p.map Prod.snd).getD z) := by
                cases p with
                | none =>
                  have hp' : a = zz := hp
                  rw [hp']
                  rw [hzz, cells_one (hz0 hna')] at hz1
                  simp only [zall, Bool.and_true] at hz1
                  exact .data _ _ (zis_spec hz1).1
                | some p => exact hp
              cases okf with
              | true => exact ⟨_, _, hk, hrun, VR.pair hval (.data _ _ (.bool _))⟩
              | false => exact ⟨_, _, hk, hrun, hval⟩
            · simp at h
          · simp at h
        · simp at h
      · simp at h
    · simp at h

/-- A call under contract. -/
theorem contract_sound (hE : EnvOK P E) (hm : MemOK base ok G w M) (hg : GOK E.glob base G.D w) (hbase : base ≤ w.heap.size) {f : FuncId} {ct : Ctr} (hct : look E.ctr f = some ct) {vs vs' : List AV} {xs : List Value} (hvs : dataArgs M vs = some vs') (hl : vs.length = xs.length) (hx : ∀ i (h : i < vs.length) (h' : i < xs.length), VR G.D G.σ w vs[i] xs[i]) {k : AV → Option R} {r : R} (h : ct.run vs' k = some r) :
    ∃ v, k v = some r ∧ Calm P G w slot none v ((callFunc f xs.toArray).run P w) := by
  obtain ⟨⟨fn, hf1, hf2, hf3⟩, hco⟩ := hE.ctr f ct hct
  obtain ⟨v, hk, hcall⟩ := hco.2 R vs' k r h
  refine ⟨v, hk, ?_⟩
  rw [run_callFunc hf1 hf2 hf3]
  obtain ⟨hl2, hd⟩ := dataArgs_sound hm hvs
  refine ⟨rfl, (hcall G.D w xs hm.dlt (fun g cs hg' => let ⟨a, b, c⟩ := hg g cs hg'; ⟨by omega, b, c⟩) ⟨by omega, fun i h1 h2 => hd i (by omega) h1 _ (hx i (by omega) h2)⟩).mono ?_⟩
  rintro e w' ⟨cv, rfl, hbelow, hdr⟩
  exact ⟨cv, rfl, ⟨G.σ, _⟩, ⟨hbelow, fun c h => .inl h, fun c h => h, fun _ _ => rfl, rfl⟩, .data _ _ hdr⟩
end Go.Sx
