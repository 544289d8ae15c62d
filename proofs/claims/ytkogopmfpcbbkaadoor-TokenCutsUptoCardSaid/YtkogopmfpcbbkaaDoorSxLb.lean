/-
  SX: what a law is handed, read.
-/
import Derived.Test.YtkogopmfpcbbkaaDoorSxLa
set_option linter.unusedVariables false
set_option linter.unusedSimpArgs false
namespace Go.Sx
open Go
open Go.RowKit (Below)
variable {P : Program} {H : Type} {enc : TypeId × Value → H} {w : GW} {spare : Nat → Bool} {held : Bool}

theorem exists_list {α : Type} (Q : Nat → α → Prop) : ∀ n, (∀ i, i < n → ∃ y, Q i y) → ∃ l : List α, l.length = n ∧ ∀ i (h : i < l.length), Q i l[i]
  | 0, _ => ⟨[], rfl, fun i h => by simp at h⟩
  | n + 1, h => by
    obtain ⟨l, hl, hq⟩ := exists_list Q n fun i hi => h i (by omega)
    obtain ⟨y, hy⟩ := h n (by omega)
    refine ⟨l ++ [y], by simp [hl], fun i hi => ?_⟩
    by_cases e : i < l.length
    · rw [List.getElem_append_left e]; exact hq i e
    · have : i = n := by simp at hi; omega
      subst this
      rw [List.getElem_append_right (by omega)]
      simpa [hl] using hy

theorem all_append {a b : List Nat} (h : (a ++ b).all (· ≤ reachBytes) = true) : a.all (· ≤ reachBytes) = true ∧ b.all (· ≤ reachBytes) = true := by
  rw [List.all_append, Bool.and_eq_true] at h; exact h

theorem weightsAll_get {e : TypeId} : ∀ (ds : List (DataW H)), (DataW.weightsAll P e ds).all (· ≤ reachBytes) = true → ∀ i (h : i < ds.length), ((ds[i]).weights P e).all (· ≤ reachBytes) = true
  | [], _, i, h => by simp at h
  | d :: r, h, i, hi => by
    unfold DataW.weightsAll at h
    obtain ⟨h1, h2⟩ := all_append h
    cases i with
    | zero => exact h1
    | succ i => exact weightsAll_get r h2 i (by simpa using hi)

theorem kd_pos (k : Kd) : 0 < k.size := by
  cases k with
  | st s => cases s <;> decide
  | _ => exact Nat.one_pos

theorem mapM_get {α β : Type} {f : α → Option β} : ∀ {l : List α} {r : List β}, l.mapM f = some r → r.length = l.length ∧ ∀ i (h : i < l.length) (h' : i < r.length), f l[i] = some r[i]
  | [], r, h => by simp at h; subst h; exact ⟨rfl, fun i h => by simp at h⟩
  | x :: l, r, h => by
    rw [List.mapM_cons] at h
    simp only [Option.bind_eq_bind, Option.bind_eq_some_iff, Option.pure_def, Option.some.injEq] at h
    obtain ⟨y, hy, s, hs, rfl⟩ := h
    obtain ⟨h1, h2⟩ := mapM_get hs
    refine ⟨by simp [h1], fun i a b => ?_⟩
    cases i with
    | zero => exact hy
    | succ i => exact h2 i (by simpa using a) (by simpa using b)

theorem take_split {α : Type} (l : List α) (a b : Nat) : l.take (a + b) = l.take a ++ (l.drop a).take b := by
  rw [List.take_add]

/-- One type, read. -/
def LfOK (P : Program) (H : Type) (enc : TypeId × Value → H) (w : GW) (spare : Nat → Bool) (held : Bool) (n : Nat) : Prop :=
  ∀ (t : TypeId) (ks r : List Kd) (fuel : Nat) (cs : List Value) (x : DataW H × List MemPlace), lf P n t ks = some r → DataW.trod enc P w 0 spare held fuel t cs = some x → (x.1.weights P t).all (· ≤ reachBytes) = true →
    ∃ us, ∃ y : Lf us, ks = us ++ r ∧ LR (DR (There w) w) (cellsL us y) cs ∧ ∀ m, wfL (wf m) us y

theorem fields_sound {n : Nat} (ih : LfOK P H enc w spare held n) {m : Nat} {cs : List Value} : ∀ (fs : List Field) (xs : List (DataW H × List MemPlace)) (off off' : Nat) (ks r : List Kd),
    fs.foldlM (fun (st : Nat × List Kd) f => bif Nat.beq f.offset st.1 then (lf P n f.type st.2).map (fun r => (st.1 + P.cellsOf f.type, r)) else none) (off, ks) = some (off', r) →
    fs.length = xs.length → (∀ i (h : i < fs.length) (h' : i < xs.length), DataW.trod enc P w 0 spare held m fs[i].type ((cs.drop fs[i].offset).take (P.cellsOf fs[i].type)) = some xs[i]) →
    (DataW.weightsEach P (fs.map (·.type)) (xs.map (·.1))).all (· ≤ reachBytes) = true →
    off ≤ off' ∧ ∃ us, ∃ y : Lf us, ks = us ++ r ∧ LR (DR (There w) w) (cellsL us y) ((cs.drop off).take (off' - off)) ∧ ∀ m, wfL (wf m) us y
  | [], xs, off, off', ks, r, h, _, _, _ => by
    simp at h
    obtain ⟨rfl, rfl⟩ := h
    exact ⟨Nat.le_refl _, [], (), rfl, by simp only [Nat.sub_self, List.take_zero]; exact LR.nil, fun _ => trivial⟩
  | f :: fs, [], off, off', ks, r, _, hl, _, _ => by simp at hl
  | f :: fs, x :: xs, off, off', ks, r, h, hl, htr, hw => by
    rw [List.foldlM_cons] at h
    simp only [Option.bind_eq_bind, Option.bind_eq_some_iff] at h
    obtain ⟨st, h1, h2⟩ := h
    replace h1 := bif_none h1
    obtain ⟨hb, h1⟩ := h1
    obtain ⟨r1, h3, h4⟩ := Option.map_eq_some_iff.1 h1
    subst h4
    have hoff : f.offset = off := Nat.eq_of_beq_eq_true hb
    simp only [List.map_cons] at hw
    unfold DataW.weightsEach at hw
    obtain ⟨w1, w2⟩ := all_append hw
    have ht := htr 0 (by simp) (by simp)
    simp only [List.getElem_cons_zero] at ht
    obtain ⟨us, y, e1, e2, e3⟩ := ih f.type ks r1 m _ x h3 ht w1
    obtain ⟨g0, vs, z, g1, g2, g3⟩ := fields_sound ih fs xs (off + P.cellsOf f.type) off' r1 r h2 (by simpa using hl) (fun i hi hi' => by
      have := htr (i + 1) (by simpa using hi) (by simpa using hi')
      simpa using this) w2
    refine ⟨by omega, us ++ vs, Lf.app us y z, by rw [e1, g1, List.append_assoc], ?_, fun m => wfL_app us y z (e3 m) (g3 m)⟩
    rw [cellsL_app, show off' - off = P.cellsOf f.type + (off' - (off + P.cellsOf f.type)) by omega, take_split]
    rw [hoff] at e2
    refine e2.append ?_
    rw [List.drop_drop]
    exact g2
theorem elems_sound {n : Nat} (ih : LfOK P H enc w spare held n) {m : Nat} {e : TypeId} {cs : List Value} : ∀ (q k : Nat) (xs : List (DataW H × List MemPlace)) (ks r : List Kd),
    (List.range' k q).foldlM (fun r _ => lf P n e r) ks = some r → xs.length = q → (∀ i (h : i < xs.length), DataW.trod enc P w 0 spare held m e ((cs.drop ((k + i) * P.cellsOf e)).take (P.cellsOf e)) = some xs[i]) →
    (DataW.weightsAll P e (xs.map (·.1))).all (· ≤ reachBytes) = true →
    ∃ us, ∃ y : Lf us, ks = us ++ r ∧ LR (DR (There w) w) (cellsL us y) ((cs.drop (k * P.cellsOf e)).take (q * P.cellsOf e)) ∧ ∀ m, wfL (wf m) us y
  | 0, k, xs, ks, r, h, _, _, _ => by
    simp at h
    subst h
    exact ⟨[], (), rfl, by simp only [Nat.zero_mul, List.take_zero]; exact LR.nil, fun _ => trivial⟩
  | q + 1, k, [], ks, r, _, hl, _, _ => by simp at hl
  | q + 1, k, x :: xs, ks, r, h, hl, htr, hw => by
    rw [List.range'_succ, List.foldlM_cons] at h
    simp only [Option.bind_eq_bind, Option.bind_eq_some_iff] at h
    obtain ⟨r1, h3, h2⟩ := h
    simp only [List.map_cons] at hw
    unfold DataW.weightsAll at hw
    obtain ⟨w1, w2⟩ := all_append hw
    have ht := htr 0 (by simp)
    simp only [List.getElem_cons_zero, Nat.add_zero] at ht
    obtain ⟨us, y, e1, e2, e3⟩ := ih e ks r1 m _ x h3 ht w1
    obtain ⟨vs, z, g1, g2, g3⟩ := elems_sound ih q (k + 1) xs r1 r h2 (by simpa using hl) (fun i hi => by
      have := htr (i + 1) (by simpa using hi)
      rw [show k + (i + 1) = k + 1 + i by omega] at this
      simpa using this) w2
    refine ⟨us ++ vs, Lf.app us y z, by rw [e1, g1, List.append_assoc], ?_, fun m => wfL_app us y z (e3 m) (g3 m)⟩
    rw [cellsL_app, show (q + 1) * P.cellsOf e = P.cellsOf e + q * P.cellsOf e by rw [Nat.add_mul]; omega, take_split]
    refine e2.append ?_
    rw [List.drop_drop, show k * P.cellsOf e + P.cellsOf e = (k + 1) * P.cellsOf e by rw [Nat.add_mul]; omega]
    exact g2

theorem trod_array {t e : TypeId} {m fuel : Nat} {cs : List Value} {x : DataW H × List MemPlace} (ht : P.underlying t = some (.array m e)) (h : DataW.trod enc P w 0 spare held fuel t cs = some x) :
    ∃ (xs : List (DataW H × List MemPlace)) (n : Nat), x = (.agg (xs.map (·.1)), xs.flatMap (·.2)) ∧ cs.length = P.cellsOf t ∧ ((List.range m).mapM fun i => DataW.trod enc P w 0 spare held n e ((cs.drop (i * P.cellsOf e)).take (P.cellsOf e))) = some xs := by
  cases fuel with
  | zero => simp [DataW.trod] at h
  | succ n =>
    unfold DataW.trod at h
    rw [ht] at h
    split at h <;> simp_all
    obtain ⟨hl, xs, h1, h2⟩ := h
    exact ⟨xs, h2.symm, n, h1⟩

theorem lf_sound : ∀ n, LfOK P H enc w spare held n := by
  intro n
  induction n with
  | zero => intro t ks r fuel cs x h; simp [lf] at h
  | succ n ih =>
    intro t ks r fuel cs x h htr hw
    unfold lf at h
    split at h
    · -- struct
      rename_i fs hu
      split at h
      · rename_i st hst
        replace h := bif_none h
        obtain ⟨hb, h⟩ := h
        cases h
        obtain ⟨xs, m, _, rfl, hl, hxl, hget⟩ := DataW.trod_struct hu htr
        have hw' : (DataW.weightsEach P (fs.toList.map (·.type)) (xs.map (·.1))).all (· ≤ reachBytes) = true := by
          have := hw
          simp only [DataW.weights, hu] at this
          exact this
        obtain ⟨g0, us, y, g1, g2, g3⟩ := fields_sound ih fs.toList xs 0 st.1 ks st.2 hst (by simpa using hxl.symm) (fun i hi hi' => by
          have := hget i fs[i] (by simp at hi; simp [hi])
          rw [List.getElem?_eq_getElem hi'] at this
          simpa using this) hw'
        refine ⟨us, y, g1, ?_, g3⟩
        have hst1 := Nat.eq_of_beq_eq_true hb
        rw [hst1, ← hl] at g2
        simpa using g2
      · simp at h
    · -- array
      rename_i m e hu
      replace h := bif_none h
      obtain ⟨hb, h⟩ := h
      have hcells := Nat.eq_of_beq_eq_true hb
      obtain ⟨xs, f, rfl, hl, hm⟩ := trod_array hu htr
      obtain ⟨m1, m2⟩ := mapM_get hm
      have hw' : (DataW.weightsAll P e (xs.map (·.1))).all (· ≤ reachBytes) = true := by
        have := hw
        simp only [DataW.weights, hu] at this
        exact this
      rw [List.range_eq_range'] at h
      obtain ⟨us, y, g1, g2, g3⟩ := elems_sound ih m 0 xs ks r h (by simpa using m1) (fun i hi => by
        have := m2 i (by simp at m1 ⊢; omega) hi
        simpa using this) hw'
      refine ⟨us, y, g1, ?_, g3⟩
      rw [← hcells, ← hl] at g2
      simpa using g2
    · -- int
      rename_i k hu
      split at h
      · rename_i k' r'
        replace h := bif_none h
        obtain ⟨hb, h⟩ := h
        have hk : k' = k := by simpa using hb
        subst hk
        cases h
        obtain ⟨m, rfl, rfl, hwf⟩ := DataW.trod_int hu htr
        refine ⟨[.int k'], (m, ()), rfl, LR.one (.int k' m) rfl, fun q => ⟨?_, trivial⟩⟩
        cases q with
        | zero => trivial
        | succ q =>
          simp only [Lit.wf, Bool.and_eq_true, decide_eq_true_eq] at hwf
          exact hwf
      · simp at h
    · -- bool
      rename_i hu
      split at h
      · cases h
        obtain ⟨b, rfl, rfl⟩ := DataW.trod_bool hu htr
        refine ⟨[.bool], (b, ()), rfl, LR.one (.bool b) rfl, fun q => ⟨?_, trivial⟩⟩
        cases q <;> trivial
      · simp at h
    · -- string
      rename_i hu
      split at h
      · cases h
        obtain ⟨st, rfl, rfl, hm⟩ := DataW.trod_string hu htr
        refine ⟨[.str], (st.data.toList, ()), rfl, LR.one ?_ rfl, fun q => ⟨?_, trivial⟩⟩
        · have := DR.str (D := There w) (w := w) st.data.toList
          rw [Array.toArray_toList] at this
          exact this
        · cases q with
          | zero => trivial
          | succ q =>
            simp only [DataW.weights, List.all_cons, List.all_nil, Bool.and_true, decide_eq_true_eq] at hw
            exact hw
      · simp at h
    · -- slice
      rename_i et hu
      split at h
      · rename_i e r'
        replace h := bif_none h
        obtain ⟨hb, h⟩ := h
        cases h
        simp only [Bool.and_eq_true] at hb
        obtain ⟨⟨hb1, hb2⟩, hb3⟩ := hb
        have hsz := Nat.eq_of_beq_eq_true hb1
        have hby := Nat.eq_of_beq_eq_true hb2
        have hlf : lf P n et e.kdl = some [] := by
          split at hb3
          · assumption
          · cases hb3
        rcases DataW.trod_slice hu htr with ⟨rfl, rfl⟩ | ⟨a, len, cap, elems, rest, m, _, rfl, rfl, _, hlc, hcm, hlen, hel, _, _⟩
        · refine ⟨[.sl e], ([], ()), rfl, LR.one ?_ rfl, fun q => ⟨?_, trivial⟩⟩
          · exact .sl e [] none 0 (fun _ _ => undef) (by simp) (fun i hi => by simp at hi) (fun i j hi => by simp at hi) (fun i hi => by simp at hi)
          · cases q with
            | zero => trivial
            | succ q => exact ⟨by simp, fun y hy => by simp at hy⟩
        · have hww := hw
          simp only [DataW.weights, hu, List.all_cons, Bool.and_eq_true, decide_eq_true_eq] at hww
          obtain ⟨hw1, hw2⟩ := hww
          obtain ⟨hw3, _⟩ := all_append hw2
          obtain ⟨l, hll, hq⟩ := exists_list (fun i (y : e.T) => ∃ ci, w.cells? 0 (a.add (i * P.cellsOf et)) (P.cellsOf et) = some ci ∧ LR (DR (There w) w) (e.cells y) ci ∧ ∀ m, wfL (wf m) e.kdl (e.flds y)) len (fun i hi => by
            have h1 := hel i hi
            have hie : i < elems.length := by omega
            rw [List.getElem?_eq_getElem hie, Option.bind_eq_some_iff] at h1
            obtain ⟨ci, hc, ht⟩ := h1
            have hwi := weightsAll_get _ hw3 i (by simpa using hie)
            obtain ⟨us, y, e1, e2, e3⟩ := ih et e.kdl [] m ci elems[i] hlf ht (by simpa using hwi)
            have hus : e.kdl = us := by simpa using e1
            subst hus
            refine ⟨e.mk y, ci, hc, by rw [Kd.cells_mk]; exact e2, fun m => by rw [Kd.flds_mk]; exact e3 m⟩)
          refine ⟨[.sl e], (l, ()), rfl, LR.one ?_ rfl, fun q => ⟨?_, trivial⟩⟩
          · have cell : ∀ i (hi : i < l.length) j (hj : j < e.size), There w a.block ∧ ∃ u, w.cell? (a.add (i * e.size + j)) = some u ∧ u.oneCell' = true ∧ ∀ (hj' : j < (e.cells l[i]).length), DR (There w) w ((e.cells l[i])[j]) u := by
              intro i hi j hj
              obtain ⟨ci, hc, hlr, _⟩ := hq i hi
              obtain ⟨_, c2, c3⟩ := World.cells?_some hc
              have hjc : j < ci.length := by rw [c2, hsz]; exact hj
              have h4 := c3 j (by rw [hsz]; exact hj)
              rw [add_add, hsz, List.getElem?_eq_getElem hjc] at h4
              have hblk := World.cells?_block hc (by rw [hsz]; exact kd_pos e)
              rw [add_block] at hblk
              exact ⟨hblk, ci[j], h4, (hlr.2 j (by rw [Kd.cells_length]; exact hj) hjc).1, fun hj' => (hlr.2 j hj' hjc).2⟩
            rw [← hll]
            refine .sl e l (some a) cap (fun i j => (w.cell? (a.add (i * e.size + j))).getD undef) (by omega) (fun i hi => ?_) (fun i j hi hj => ?_) (fun i hi j hj => ?_)
            · refine ⟨a, rfl, (cell i hi 0 (kd_pos e)).1, fun j hj => ?_⟩
              obtain ⟨_, u, hu, _⟩ := cell i hi j hj
              simp [hu]
            · obtain ⟨_, u, hu, ho, _⟩ := cell i hi j hj
              simp [hu, ho]
            · obtain ⟨_, u, hu, _, hd⟩ := cell i hi j (cells_get hi hj)
              simp only [hu, Option.getD_some]
              exact hd hj
          · cases q with
            | zero => trivial
            | succ q =>
              refine ⟨?_, fun y hy => ?_⟩
              · have h5 : l.length * e.bytes ≤ (elems.length + rest.length) * P.bytesOf et := by
                  rw [hby]
                  exact Nat.mul_le_mul_right _ (by omega)
                simp only [List.length_map] at hw1
                exact Nat.le_trans h5 hw1
              · obtain ⟨i, hi, rfl⟩ := List.getElem_of_mem hy
                obtain ⟨_, _, _, h6⟩ := hq i hi
                exact h6 q
      · simp at h
    · simp at h
end Go.Sx
