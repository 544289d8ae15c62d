/-
  SX, part U: stores into rows of numbers, maps.
-/
import Derived.Test.YtkogopmfpcbbkaaDoorSxT
set_option linter.unusedVariables false
set_option linter.unusedSimpArgs false
namespace Go.Sx
open Go
open Go.RowKit (Below)
variable {P : Program} {E : Env} {base : Nat} {w0 : GW} {ok : Nat → Prop} {en : Ent} {G G' : Gam} {s : St} {a : Act} {w w' : GW} {R : Type}

theorem store_core (hE : EnvOK P E) (h : Rel E base w0 ok en G s a w) {t : TypeId} {i : TyI} (hi : E.t t = some i) {b off c : Nat} {x : Value} {v : AV} (hc : G.σ b = .blk c) (hv : VR G.D G.σ w v x) (hf : fitsA i.size v = true) {cs : List AV} (hb : s.M[b]? = some (.cells cs)) (hle : off + (cellsA v).length ≤ cs.length) :
    ∃ w', (Instr.storeAt t (.pointer (some ((blkA c).add off))) x).run P w = .ok () w' ∧ Rel E base w0 ok en G { s with M := s.M.set b (.cells (fillA cs off v)) } a w' := by
  have hs : Sx.storeCells cs off v = some (fillA cs off v) := by
    unfold Sx.storeCells
    split
    · rename_i vs
      rw [show Nat.ble (off + vs.length) cs.length = true from Nat.ble_eq_true_of_le hle]
      rfl
    · simp [fitsA] at hf
    · simp [fitsA] at hf
    · simp [fitsA] at hf
    · rename_i h1 h2 h3 h4
      have e : (cellsA v).length = 1 := by cases v <;> first | rfl | exact absurd rfl (h1 _)
      have e2 : fillA cs off v = cs.set off v := by cases v <;> first | rfl | exact absurd rfl (h1 _)
      rw [show Nat.blt off cs.length = true from Nat.ble_eq_true_of_le (by omega), e2]
      rfl
  exact store_ptr hE h hi (.ptr b off c hc) hv hf hb hs

theorem asInt_inv {kk : IntKind} {x : AV} {n : Int} (h : x.asInt kk = some n) : x = .int kk n := by
  unfold AV.asInt at h
  split at h
  · split at h
    · rename_i hk; subst hk; cases h; rfl
    · simp at h
  · simp at h
theorem setInt_spec {kk : IntKind} {j v : Int} : ∀ (q : Nat) (seg : List AV) (l : List Int), selInt kk seg = some l → (setInt kk j v q seg).length = seg.length ∧ ∀ i (h : i < seg.length) (h' : i < (setInt kk j v q seg).length), (setInt kk j v q seg)[i] = if j = ((q + i : Nat) : Int) then .int kk v else seg[i]
  | q, [], l, _ => ⟨rfl, fun i h => by simp at h⟩
  | q, x :: r, l, h => by
    simp only [selInt, Option.bind_eq_some_iff, Option.some.injEq] at h
    obtain ⟨n, hn, m, hm, rfl⟩ := h
    obtain ⟨h1, h2⟩ := setInt_spec (kk := kk) (j := j) (v := v) (q + 1) r m hm
    have hx : x = .int kk n := asInt_inv hn
    subst hx
    have e : setInt kk j v q (.int kk n :: r) = .int kk (cnd (ieq j q) v n) :: setInt kk j v (q + 1) r := rfl
    rw [e]
    refine ⟨by simp [h1], fun i h3 h4 => ?_⟩
    cases i with
    | zero =>
      simp only [List.getElem_cons_zero, Nat.add_zero, cnd, ieq]
      by_cases hj : j = (q : Int)
      · simp [hj]
      · simp [hj]
    | succ i =>
      simp only [List.getElem_cons_succ]
      rw [h2 i (by simpa using h3) (by simpa using h4), show q + 1 + i = q + (i + 1) by omega]

theorem store_pidx (hE : EnvOK P E) (h : Rel E base w0 ok en G s a w) {t : TypeId} {i : TyI} (hi : E.t t = some i) {b off n : Nat} {j v : Int} {kk : IntKind} {u x : Value} (hu : VR G.D G.σ w (.pidx b off n j) u) (hv : VR G.D G.σ w (.int kk v) x) (hf : fitsA i.size (.int kk v) = true) {cs : List AV} (hb : s.M[b]? = some (.cells cs)) (hle : off + n ≤ cs.length) {l : List Int} (hl : selInt kk ((cs.drop off).take n) = some l) :
    ∃ w', (Instr.storeAt t u x).run P w = .ok () w' ∧ Rel E base w0 ok en G { s with M := s.M.set b (.cells (cs.take off ++ setInt kk j v 0 ((cs.drop off).take n) ++ cs.drop (off + n))) } a w' := by
  obtain ⟨c, hc, h0, h1, rfl⟩ := hu.pidx_inv
  have hlt : off + j.toNat < cs.length := by omega
  have e : cs.take off ++ setInt kk j v 0 ((cs.drop off).take n) ++ cs.drop (off + n) = fillA cs (off + j.toNat) (.int kk v) := by
    obtain ⟨e1, e2⟩ := setInt_spec (j := j) (v := v) 0 _ l hl
    have e1' : (setInt kk j v 0 ((cs.drop off).take n)).length = n := by rw [e1]; simp; omega
    apply List.ext_getElem?
    intro q
    simp only [fillA, List.getElem?_append, List.length_append, List.length_take, List.getElem?_take, List.getElem?_drop, List.getElem?_set, e1']
    rw [show min off cs.length = off by omega]
    by_cases hq1 : q < off
    · simp [hq1, show q < off + n by omega, show ¬ off + j.toNat = q by omega]
    · by_cases hq2 : q < off + n
      · simp only [hq1, hq2, if_true, if_false]
        have hq4 : q - off < ((cs.drop off).take n).length := by simp; omega
        rw [List.getElem?_eq_getElem (by rw [e1']; omega), e2 _ hq4 (by rw [e1']; omega)]
        simp only [List.getElem_take, List.getElem_drop, Nat.zero_add]
        by_cases hq3 : off + j.toNat = q
        · rw [if_pos (by omega), if_pos hq3, if_pos hlt]
        · rw [if_neg (by omega), if_neg hq3, List.getElem?_eq_getElem (by omega)]
          congr 2
          omega
      · simp only [hq1, hq2, if_false, show ¬ off + j.toNat = q by omega]
        congr 1
        omega
  rw [e]
  exact store_core hE h hi hc hv hf hb (by simp [cellsA]; omega)

/-! maps -/
theorem findNow_mins {kk : IntKind} {kv : Kd} (n : Int) (z : kv.T) : ∀ (l : List ((Kd.int kk).T × kv.T)) (es : List MapEntry) (q : Nat), es.length = l.length → (∀ i (h : i < l.length) (h' : i < es.length), es[i].key = .int kk l[i].1) →
    ∃ r, Instr.findNow (.int kk) (.int kk n) es q = some r ∧ (match r with | none => mins l n z = l ++ [(n, z)] | some p => ∃ i, i < l.length ∧ p.1 = q + i ∧ mins l n z = l.set i (n, z))
  | [], [], q, _, _ => ⟨none, rfl, rfl⟩
  | [], _ :: _, q, h, _ => by simp at h
  | _ :: _, [], q, h, _ => by simp at h
  | p :: l, e :: es, q, hl, hk => by
    have h0 : e.key = .int kk p.1 := hk 0 (by simp) (by simp)
    by_cases hn : n = p.1
    · refine ⟨some (q, e.val), ?_, 0, by simp, rfl, ?_⟩
      · simp only [Instr.findNow, h0, sameNow_int, decide_eq_true hn]
      · simp [mins, Kd.beq, hn]
    · obtain ⟨r, h1, h2⟩ := findNow_mins n z l es (q + 1) (by simpa using hl) (fun i h h' => hk (i + 1) (by simpa using h) (by simpa using h'))
      have e2 : mins (kk := .int kk) (kv := kv) (p :: l) n z = p :: mins (kk := .int kk) (kv := kv) l n z := by
        simp [mins, Kd.beq, hn]
      refine ⟨r, ?_, ?_⟩
      · simp only [Instr.findNow, h0, sameNow_int, decide_eq_false hn]
        exact h1
      · rw [e2]
        cases r with
        | none => rw [h2]; rfl
        | some p' =>
          obtain ⟨i, a, b, c⟩ := h2
          exact ⟨i + 1, by simpa using a, by omega, by rw [c]; rfl⟩
theorem findNow_new {kk : IntKind} {n : Int} : ∀ (ks : List AV) (es : List MapEntry) (q : Nat), es.length = ks.length → (∀ i (h : i < ks.length) (h' : i < es.length), VR G.D G.σ w ks[i] es[i].key) → (ks.all (newKey kk n)) = true →
    Instr.findNow (.int kk) (.int kk n) es q = some none
  | [], [], q, _, _, _ => rfl
  | [], _ :: _, q, h, _, _ => by simp at h
  | _ :: _, [], q, h, _, _ => by simp at h
  | k :: ks, e :: es, q, hl, hk, ha => by
    simp only [List.all_cons, Bool.and_eq_true] at ha
    have h0 := hk 0 (by simp) (by simp)
    simp only [List.getElem_cons_zero] at h0
    have ha1 := ha.1
    unfold newKey at ha1
    split at ha1
    · rename_i k' m
      simp only [Bool.and_eq_true, decide_eq_true_eq, bnot, Bool.not_eq_true', decide_eq_false_iff_not] at ha1
      obtain ⟨rfl, hne⟩ := ha1
      simp only [Instr.findNow, h0.int_inv, sameNow_int, decide_eq_false hne]
      exact findNow_new ks es (q + 1) (by simpa using hl) (fun i h h' => hk (i + 1) (by simpa using h) (by simpa using h')) ha.2
    · simp at ha1

theorem run_mapUpdate {mt kt et : TypeId} {kk : IntKind} (hm : P.underlying mt = some (.map kt et)) (hd : P.underlying kt = some (.int kk)) {c : Nat} {es : Array MapEntry} {clock : Nat} (hb : w.heap[c]? = some (.map es clock)) {n : Int} {r : Option (Nat × Value)}
    (hf : Instr.findNow (.int kk) (.int kk n) es.toList 0 = some r) (hkeys : ∀ p, r = some p → ∃ h : p.1 < es.size, es[p.1].key = .int kk n) (v : Value) :
    (Instr.mapUpdate mt (.map (some c)) (.int kk n) v).run P w = .ok () { w with heap := w.heap.setIfInBounds c (match r with
      | some p => .map (es.modify p.1 fun e => { e with key := .int kk n, val := v }) clock
      | none => .map (es.push { key := .int kk n, val := v, born := clock }) (clock + 1)) } := by
  unfold Instr.mapUpdate
  simp only [Sem.run_bind, run_underlying hm w, Result.andThen_ok, MapKept.run_getObj_map hb, MapKept.run_checkKey (d := .int kk) (k := .int kk n) hd rfl, MapKept.run_findKey hd hf]
  cases r with
  | none => exact MapKept.run_setObj_map _ hb
  | some p =>
    obtain ⟨hlt, hk⟩ := hkeys p rfl
    have hs : (Instr.keyThatStays (((es[p.1]?).map (·.key)).getD (.int kk n)) (.int kk n)).run P w = .ok (.int kk n) w := by
      rw [Array.getElem?_eq_getElem hlt, Option.map_some, Option.getD_some, hk]
      simp [Instr.keyThatStays, Instr.sameBits]
    simp only [Sem.run_bind, hs, Result.andThen_ok]
    exact MapKept.run_setObj_map _ hb

theorem setObj_frame (w : GW) (c : Nat) (o : Obj) : (∀ k, k ≠ c → ({ w with heap := w.heap.setIfInBounds c o } : GW).heap[k]? = w.heap[k]?) ∧ ({ w with heap := w.heap.setIfInBounds c o } : GW).heap.size = w.heap.size ∧ (({ w with heap := w.heap.setIfInBounds c o } : GW).os = w.os ∧ ({ w with heap := w.heap.setIfInBounds c o } : GW).tape = w.tape ∧ ({ w with heap := w.heap.setIfInBounds c o } : GW).output = w.output) :=
  ⟨fun k hk => by simp [Ne.symm hk], by simp, rfl, rfl, rfl⟩

theorem map_typed (hE : EnvOK P E) (h : Rel E base w0 ok en G s a w) {mt kt et : TypeId} {kk : IntKind} (hm : P.underlying mt = some (.map kt et)) (hd : P.underlying kt = some (.int kk)) {b : Nat} {u : Value} (hu : VR G.D G.σ w (.mref b) u) {kv : Kd} {l : List ((Kd.int kk).T × kv.T)} (hb : s.M[b]? = some (.map (.int kk) kv l)) {n : Int} {x : Value} {z : kv.T} (hx : DR G.D w (kv.of z) x) :
    ∃ w', (Instr.mapUpdate mt u (.int kk n) x).run P w = .ok () w' ∧ Rel E base w0 ok en G { s with M := s.M.set b (.map (.int kk) kv (mins l n z)) } a w' := by
  obtain ⟨c, hc, rfl⟩ := hu.mref_inv
  obtain ⟨c', es, clock, e1, e2, e3, e4⟩ := h.mem.blocks b _ hb
  rw [hc] at e1
  cases e1
  have hkey : ∀ i (h : i < l.length) (h' : i < es.toList.length), es.toList[i].key = .int kk l[i].1 := fun i h h' => by
    have := (e4 i h (by simpa using h')).1
    generalize hk : es.toList[i].key = y
    have hk2 : es[i].key = y := by simpa using hk
    rw [hk2] at this
    cases this; rfl
  obtain ⟨r, hf, hr⟩ := findNow_mins (kv := kv) n z l es.toList 0 (by simpa using e3) hkey
  obtain ⟨r2, hf2, hr2⟩ := findNow_map (kv := kv) n l es.toList 0 (by simpa using e3) hkey
  rw [hf] at hf2
  cases hf2
  have hlt : c < w.heap.size := (Array.getElem?_eq_some_iff.1 e2).1
  have hkeys : ∀ p, r = some p → ∃ h : p.1 < es.size, es[p.1].key = .int kk n := by
    intro p hp
    subst hp
    obtain ⟨i, a1, a2, _, _, a4, a5⟩ := hr2
    have hpi : p.1 = i := by omega
    have := hkey i a1 a2
    rw [a5] at this
    subst hpi
    exact ⟨by simpa using a2, by simpa using this⟩
  refine ⟨_, run_mapUpdate hm hd e2 hf hkeys x, ?_⟩
  obtain ⟨g1, g2, g3⟩ := setObj_frame w c (match r with
      | some p => .map (es.modify p.1 fun e => { e with key := .int kk n, val := x }) clock
      | none => .map (es.push { key := .int kk n, val := x, born := clock }) (clock + 1))
  have hmut : mutC (G.σ b) (.map (.int kk) kv l) = some c := by rw [hc]; rfl
  refine h.write hb hmut g1 g2 g3 ?_ (by intro c' h'; rw [hc] at h'; cases h'; rfl)
  have hD : ∀ k, G.D k → G.D k ∧ ({ w with heap := w.heap.setIfInBounds c (match r with
      | some p => .map (es.modify p.1 fun e => { e with key := .int kk n, val := x }) clock
      | none => .map (es.push { key := .int kk n, val := x, born := clock }) (clock + 1)) } : GW).heap[k]? = w.heap[k]? := fun k hk => ⟨hk, g1 k fun e' => (h.mem.own b _ c hb hmut).2.2 (e' ▸ hk)⟩
  cases r with
  | none =>
    rw [hr]
    refine ⟨c, _, _, hc, by simp [hlt]; exact ⟨rfl, rfl⟩, by simp [e3], fun i h1 h2 => ?_⟩
    simp only [List.getElem_append, Array.getElem_push]
    by_cases hi : i < l.length
    · simp only [hi, dite_true, show i < es.size by omega]
      exact ⟨(e4 i hi (by omega)).1.mono hD, (e4 i hi (by omega)).2.mono hD⟩
    · have : i = l.length := by simp at h1; omega
      subst this
      simp only [Nat.lt_irrefl, dite_false, show ¬ l.length < es.size by omega, Nat.sub_self, List.getElem_singleton]
      exact ⟨(DR.int kk n : DR G.D w (.int kk n) (.int kk n)).mono hD, hx.mono hD⟩
  | some p =>
    obtain ⟨i, a1, a2, a3⟩ := hr
    obtain ⟨p1, p2⟩ := p
    have hpi : p1 = i := by simpa using a2
    subst hpi
    rw [a3]
    refine ⟨c, _, _, hc, by simp [hlt]; exact ⟨rfl, rfl⟩, by simp [e3], fun q h1 h2 => ?_⟩
    simp only [List.getElem_set, Array.getElem_modify]
    by_cases hq : p1 = q
    · subst hq
      simp only [if_true]
      exact ⟨(DR.int kk n : DR G.D w (.int kk n) (.int kk n)).mono hD, hx.mono hD⟩
    · simp only [hq, if_false]
      simp only [List.length_set] at h1
      exact ⟨(e4 q h1 (by omega)).1.mono hD, (e4 q h1 (by omega)).2.mono hD⟩

theorem map_any (hE : EnvOK P E) (h : Rel E base w0 ok en G s a w) {mt kt et : TypeId} {kk : IntKind} (hm : P.underlying mt = some (.map kt et)) (hd : P.underlying kt = some (.int kk)) {b : Nat} {u : Value} (hu : VR G.D G.σ w (.mref b) u) {ks vs : List AV} (hb : s.M[b]? = some (.amap ks vs)) {n : Int} {x : Value} {z : AV} (hx : VR G.D G.σ w z x) (hnew : (ks.all (newKey kk n)) = true) :
    ∃ w', (Instr.mapUpdate mt u (.int kk n) x).run P w = .ok () w' ∧ Rel E base w0 ok en G { s with M := s.M.set b (.amap (ks ++ [.int kk n]) (vs ++ [z])) } a w' := by
  obtain ⟨c, hc, rfl⟩ := hu.mref_inv
  obtain ⟨c', es, clock, e1, e2, e3, e3', e4, e5⟩ := h.mem.blocks b _ hb
  rw [hc] at e1
  cases e1
  have hf := findNow_new (G := G) (w := w) (kk := kk) (n := n) ks es.toList 0 (by simpa using e3) (fun i h h' => by simpa using e4 i h (by simpa using h')) hnew
  have hlt : c < w.heap.size := (Array.getElem?_eq_some_iff.1 e2).1
  refine ⟨_, run_mapUpdate hm hd e2 hf (fun p hp => by cases hp) x, ?_⟩
  obtain ⟨g1, g2, g3⟩ := setObj_frame w c (.map (es.push { key := .int kk n, val := x, born := clock }) (clock + 1))
  have hmut : mutC (G.σ b) (.amap ks vs) = some c := by rw [hc]; rfl
  refine h.write hb hmut g1 g2 g3 ?_ (by intro c' h'; rw [hc] at h'; cases h'; rfl)
  have hD : ∀ k, G.D k → G.D k ∧ ({ w with heap := w.heap.setIfInBounds c (.map (es.push { key := .int kk n, val := x, born := clock }) (clock + 1)) } : GW).heap[k]? = w.heap[k]? := fun k hk => ⟨hk, g1 k fun e' => (h.mem.own b _ c hb hmut).2.2 (e' ▸ hk)⟩
  refine ⟨c, _, _, hc, by simp [hlt]; exact ⟨rfl, rfl⟩, by simp [e3], by simp [e3'], fun i h1 h2 => ?_, fun i h1 h2 => ?_⟩
  · simp only [List.getElem_append, Array.getElem_push]
    by_cases hi : i < ks.length
    · simp only [hi, dite_true, show i < es.size by omega]
      exact (e4 i hi (by omega)).grow hD (fun _ _ => rfl)
    · have : i = ks.length := by simp at h1; omega
      subst this
      simp only [Nat.lt_irrefl, dite_false, show ¬ ks.length < es.size by omega, Nat.sub_self, List.getElem_singleton]
      exact .data _ _ (.int kk n)
  · simp only [List.getElem_append, Array.getElem_push]
    by_cases hi : i < vs.length
    · simp only [hi, dite_true, show i < es.size by omega]
      exact (e5 i hi (by omega)).grow hD (fun _ _ => rfl)
    · have : i = vs.length := by simp at h1; omega
      subst this
      simp only [Nat.lt_irrefl, dite_false, show ¬ vs.length < es.size by omega, Nat.sub_self, List.getElem_singleton]
      exact hx.grow hD (fun _ _ => rfl)
end Go.Sx
