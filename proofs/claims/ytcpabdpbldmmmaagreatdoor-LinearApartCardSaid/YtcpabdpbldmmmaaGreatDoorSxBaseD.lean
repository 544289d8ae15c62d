/-
  SX: a symbolic evaluator over the model and its soundness: part 4 of 4.
-/
import Derived.Test.YtcpabdpbldmmmaaGreatDoorSxBaseC
import Derived.ProofKit
import Derived.IntWalk
import Derived.Laws.StructEq
import Derived.ChangeKeysEq
set_option linter.unusedVariables false
set_option linter.unusedSimpArgs false
namespace Go.Sx
open Go
open Go.RowKit (Below)
variable {P : Program} {H : Type} {enc : TypeId × Value → H} {w : GW} {spare : Nat → Bool} {held : Bool}
theorem KW {α : Type} (Q : Nat → α → Prop) : ∀ n, (∀ i, i < n → ∃ y, Q i y) → ∃ l : List α, l.length = n ∧ ∀ i (h : i < l.length), Q i l[i]
 | 0, _ => ⟨[], rfl, fun i h => by simp at h⟩
 | n + 1, h => by
   obtain ⟨l, hl, hq⟩ := KW Q n fun i hi => h i (by omega)
   obtain ⟨y, hy⟩ := h n (by omega)
   refine ⟨l ++ [y], by simp [hl], fun i hi => ?_⟩
   by_cases e : i < l.length
   ·rw [List.getElem_append_left e]; exact hq i e
   ·have : i = n := by simp at hi; omega
    subst this
    rw [List.getElem_append_right (by omega)]
    simpa [hl] using hy
theorem all_append {a b : List Nat} (h : (a ++ b).all (· ≤ reachBytes) = true) : a.all (· ≤ reachBytes) = true ∧ b.all (· ≤ reachBytes) = true := by
 rw [List.all_append, Bool.and_eq_true] at h; exact h
theorem Qv {e : TypeId} : ∀ (ds : List (DataW H)), (DataW.weightsAll P e ds).all (· ≤ reachBytes) = true → ∀ i (h : i < ds.length), ((ds[i]).weights P e).all (· ≤ reachBytes) = true
 | [], _, i, h => by simp at h
 | d :: r, h, i, hi => by
   unfold DataW.weightsAll at h
   obtain ⟨h1, h2⟩ := all_append h
   cases i with
   | zero => exact h1
   | succ i => exact Qv r h2 i (by simpa using hi)
theorem qg0 (k : Kd) : 0 < k.size := by
 cases k with
 | st s => cases s <;> decide
 | _ => exact Nat.one_pos
theorem Rj {α β : Type} {f : α → Option β} : ∀ {l : List α} {r : List β}, l.mapM f = some r → r.length = l.length ∧ ∀ i (h : i < l.length) (h' : i < r.length), f l[i] = some r[i]
 | [], r, h => by simp at h; subst h; exact ⟨rfl, fun i h => by simp at h⟩
 | x :: l, r, h => by
   rw [List.mapM_cons] at h
   simp only [Option.bind_eq_bind, Option.bind_eq_some_iff, Option.pure_def, Option.some.injEq] at h
   obtain ⟨y, hy, s, hs, rfl⟩ := h
   obtain ⟨h1, h2⟩ := Rj hs
   refine ⟨by simp [h1], fun i a b => ?_⟩
   cases i with
   | zero => exact hy
   | succ i => exact h2 i (by simpa using a) (by simpa using b)
theorem Ga {α : Type} (l : List α) (a b : Nat) : l.take (a + b) = l.take a ++ (l.drop a).take b := by
 rw [List.take_add]
def LfOK (P : Program) (H : Type) (enc : TypeId × Value → H) (w : GW) (spare : Nat → Bool) (held : Bool) (n : Nat) : Prop :=
 ∀ (t : TypeId) (ks r : List Kd) (fuel : Nat) (cs : List Value) (x : DataW H × List MemPlace), lf P n t ks = some r → DataW.trod enc P w 0 spare held fuel t cs = some x → (x.1.weights P t).all (· ≤ reachBytes) = true →
  ∃ us, ∃ y : Lf us, ks = us ++ r ∧ LR (DR (There w) w) (cellsL us y) cs ∧ ∀ m, wfL (wf m) us y
theorem Z1 {n : Nat} (ih : LfOK P H enc w spare held n) {m : Nat} {cs : List Value} : ∀ (fs : List Field) (xs : List (DataW H × List MemPlace)) (off off' : Nat) (ks r : List Kd),
  fs.foldlM (fun (st : Nat × List Kd) f => bif Nat.beq f.offset st.1 then (lf P n f.type st.2).map (fun r => (st.1 + P.cellsOf f.type, r)) else none) (off, ks) = some (off', r) →
  fs.length = xs.length → (∀ i (h : i < fs.length) (h' : i < xs.length), DataW.trod enc P w 0 spare held m fs[i].type ((cs.drop fs[i].offset).take (P.cellsOf fs[i].type)) = some xs[i]) →
  (DataW.weightsEach P (fs.map (·.type)) (xs.map (·.1))).all (· ≤ reachBytes) = true →
  off ≤ off' ∧ ∃ us, ∃ y : Lf us, ks = us ++ r ∧ LR (DR (There w) w) (cellsL us y) ((cs.drop off).take (off' - off)) ∧ ∀ m, wfL (wf m) us y
 | [], xs, off, off', ks, r, h, _, _, _ => by
   simp at h
   obtain ⟨rfl, rfl⟩ := h
   exact ⟨Nat.le_refl _, [], (), rfl, by simp only [Nat.sub_self, List.take_zero]; exact LR.nil, fun _ => trivial⟩
 | f :: fs, [], off, off', ks, r, _, hl, _, _ => by simp at hl
 | f :: fs, x :: xs, off, off', ks, r, h, hl, htr, hw => by
   rw [List.foldlM_cons] at h
   simp only [Option.bind_eq_bind, Option.bind_eq_some_iff] at h
   obtain ⟨st, h1, h2⟩ := h
   replace h1 := qq h1
   obtain ⟨hb, h1⟩ := h1
   obtain ⟨r1, h3, h4⟩ := Option.map_eq_some_iff.1 h1
   subst h4
   have hoff : f.offset = off := Nat.eq_of_beq_eq_true hb
   simp only [List.map_cons] at hw
   unfold DataW.weightsEach at hw
   obtain ⟨w1, w2⟩ := all_append hw
   have ht := htr 0 (by simp) (by simp)
   simp only [List.getElem_cons_zero] at ht
   obtain ⟨us, y, e1, e2, e3⟩ := ih f.type ks r1 m _ x h3 ht w1
   obtain ⟨g0, vs, z, g1, g2, g3⟩ := Z1 ih fs xs (off + P.cellsOf f.type) off' r1 r h2 (by simpa using hl) (fun i hi hi' => by
    have := htr (i + 1) (by simpa using hi) (by simpa using hi')
    simpa using this) w2
   refine ⟨by omega, us ++ vs, Lf.app us y z, by rw [e1, g1, List.append_assoc], ?_, fun m => YW us y z (e3 m) (g3 m)⟩
   rw [JK, show off' - off = P.cellsOf f.type + (off' - (off + P.cellsOf f.type)) by omega, Ga]
   rw [hoff] at e2
   refine e2.append ?_
   rw [List.drop_drop]
   exact g2
theorem KZ {n : Nat} (ih : LfOK P H enc w spare held n) {m : Nat} {e : TypeId} {cs : List Value} : ∀ (q k : Nat) (xs : List (DataW H × List MemPlace)) (ks r : List Kd),
  (List.range' k q).foldlM (fun r _ => lf P n e r) ks = some r → xs.length = q → (∀ i (h : i < xs.length), DataW.trod enc P w 0 spare held m e ((cs.drop ((k + i) * P.cellsOf e)).take (P.cellsOf e)) = some xs[i]) →
  (DataW.weightsAll P e (xs.map (·.1))).all (· ≤ reachBytes) = true →
  ∃ us, ∃ y : Lf us, ks = us ++ r ∧ LR (DR (There w) w) (cellsL us y) ((cs.drop (k * P.cellsOf e)).take (q * P.cellsOf e)) ∧ ∀ m, wfL (wf m) us y
 | 0, k, xs, ks, r, h, _, _, _ => by
   simp at h
   subst h
   exact ⟨[], (), rfl, by simp only [Nat.zero_mul, List.take_zero]; exact LR.nil, fun _ => trivial⟩
 | q + 1, k, [], ks, r, _, hl, _, _ => by simp at hl
 | q + 1, k, x :: xs, ks, r, h, hl, htr, hw => by
   rw [List.range'_succ, List.foldlM_cons] at h
   simp only [Option.bind_eq_bind, Option.bind_eq_some_iff] at h
   obtain ⟨r1, h3, h2⟩ := h
   simp only [List.map_cons] at hw
   unfold DataW.weightsAll at hw
   obtain ⟨w1, w2⟩ := all_append hw
   have ht := htr 0 (by simp)
   simp only [List.getElem_cons_zero, Nat.add_zero] at ht
   obtain ⟨us, y, e1, e2, e3⟩ := ih e ks r1 m _ x h3 ht w1
   obtain ⟨vs, z, g1, g2, g3⟩ := KZ ih q (k + 1) xs r1 r h2 (by simpa using hl) (fun i hi => by
    have := htr (i + 1) (by simpa using hi)
    rw [show k + (i + 1) = k + 1 + i by omega] at this
    simpa using this) w2
   refine ⟨us ++ vs, Lf.app us y z, by rw [e1, g1, List.append_assoc], ?_, fun m => YW us y z (e3 m) (g3 m)⟩
   rw [JK, show (q + 1) * P.cellsOf e = P.cellsOf e + q * P.cellsOf e by rw [Nat.add_mul]; omega, Ga]
   refine e2.append ?_
   rw [List.drop_drop, show k * P.cellsOf e + P.cellsOf e = (k + 1) * P.cellsOf e by rw [Nat.add_mul]; omega]
   exact g2
theorem N5 {t e : TypeId} {m fuel : Nat} {cs : List Value} {x : DataW H × List MemPlace} (ht : P.underlying t = some (.array m e)) (h : DataW.trod enc P w 0 spare held fuel t cs = some x) :
  ∃ (xs : List (DataW H × List MemPlace)) (n : Nat), x = (.agg (xs.map (·.1)), xs.flatMap (·.2)) ∧ cs.length = P.cellsOf t ∧ ((List.range m).mapM fun i => DataW.trod enc P w 0 spare held n e ((cs.drop (i * P.cellsOf e)).take (P.cellsOf e))) = some xs := by
 cases fuel with
 | zero => simp [DataW.trod] at h
 | succ n =>
   unfold DataW.trod at h
   rw [ht] at h
   split at h <;> simp_all
   obtain ⟨hl, xs, h1, h2⟩ := h
   exact ⟨xs, h2.symm, n, h1⟩
theorem qgw : ∀ n, LfOK P H enc w spare held n := by
 intro n
 induction n with
 | zero => intro t ks r fuel cs x h; simp [lf] at h
 | succ n ih =>
   intro t ks r fuel cs x h htr hw
   unfold lf at h
   split at h
   ·
    rename_i fs hu
    split at h
    ·rename_i st hst
     replace h := qq h
     obtain ⟨hb, h⟩ := h
     cases h
     obtain ⟨xs, m, _, rfl, hl, hxl, hget⟩ := DataW.trod_struct hu htr
     have hw' : (DataW.weightsEach P (fs.toList.map (·.type)) (xs.map (·.1))).all (· ≤ reachBytes) = true := by
      have := hw
      simp only [DataW.weights, hu] at this
      exact this
     obtain ⟨g0, us, y, g1, g2, g3⟩ := Z1 ih fs.toList xs 0 st.1 ks st.2 hst (by simpa using hxl.symm) (fun i hi hi' => by
      have := hget i fs[i] (by simp at hi; simp [hi])
      rw [List.getElem?_eq_getElem hi'] at this
      simpa using this) hw'
     refine ⟨us, y, g1, ?_, g3⟩
     have hst1 := Nat.eq_of_beq_eq_true hb
     rw [hst1, ← hl] at g2
     simpa using g2
    ·simp at h
   ·
    rename_i m e hu
    replace h := qq h
    obtain ⟨hb, h⟩ := h
    have hcells := Nat.eq_of_beq_eq_true hb
    obtain ⟨xs, f, rfl, hl, hm⟩ := N5 hu htr
    obtain ⟨m1, m2⟩ := Rj hm
    have hw' : (DataW.weightsAll P e (xs.map (·.1))).all (· ≤ reachBytes) = true := by
     have := hw
     simp only [DataW.weights, hu] at this
     exact this
    rw [List.range_eq_range'] at h
    obtain ⟨us, y, g1, g2, g3⟩ := KZ ih m 0 xs ks r h (by simpa using m1) (fun i hi => by
     have := m2 i (by simp at m1 ⊢; omega) hi
     simpa using this) hw'
    refine ⟨us, y, g1, ?_, g3⟩
    rw [← hcells, ← hl] at g2
    simpa using g2
   ·
    rename_i k hu
    split at h
    ·rename_i k' r'
     replace h := qq h
     obtain ⟨hb, h⟩ := h
     have hk : k' = k := by simpa using hb
     subst hk
     cases h
     obtain ⟨m, rfl, rfl, hwf⟩ := DataW.trod_int hu htr
     refine ⟨[.int k'], (m, ()), rfl, LR.one (.int k' m) rfl, fun q => ⟨?_, trivial⟩⟩
     cases q with
     | zero => trivial
     | succ q =>
       simp only [Lit.wf, Bool.and_eq_true, decide_eq_true_eq] at hwf
       exact hwf
    ·simp at h
   ·
    rename_i hu
    split at h
    ·cases h
     obtain ⟨b, rfl, rfl⟩ := DataW.trod_bool hu htr
     refine ⟨[.bool], (b, ()), rfl, LR.one (.bool b) rfl, fun q => ⟨?_, trivial⟩⟩
     cases q <;> trivial
    ·simp at h
   ·
    rename_i hu
    split at h
    ·cases h
     obtain ⟨st, rfl, rfl, hm⟩ := DataW.trod_string hu htr
     refine ⟨[.str], (st.data.toList, ()), rfl, LR.one ?_ rfl, fun q => ⟨?_, trivial⟩⟩
     ·have := DR.str (D := There w) (w := w) st.data.toList
      rw [Array.toArray_toList] at this
      exact this
     ·cases q with
      | zero => trivial
      | succ q =>
        simp only [DataW.weights, List.all_cons, List.all_nil, Bool.and_true, decide_eq_true_eq] at hw
        exact hw
    ·simp at h
   ·
    rename_i et hu
    split at h
    ·rename_i e r'
     replace h := qq h
     obtain ⟨hb, h⟩ := h
     cases h
     simp only [Bool.and_eq_true] at hb
     obtain ⟨⟨hb1, hb2⟩, hb3⟩ := hb
     have hsz := Nat.eq_of_beq_eq_true hb1
     have hby := Nat.eq_of_beq_eq_true hb2
     have hlf : lf P n et e.kdl = some [] := by
      split at hb3
      ·assumption
      ·cases hb3
     rcases DataW.trod_slice hu htr with ⟨rfl, rfl⟩ | ⟨a, len, cap, elems, rest, m, _, rfl, rfl, _, hlc, hcm, hlen, hel, _, _⟩
     ·refine ⟨[.sl e], ([], ()), rfl, LR.one ?_ rfl, fun q => ⟨?_, trivial⟩⟩
      ·exact .sl e [] none 0 (fun _ _ => undef) (by simp) (fun i hi => by simp at hi) (fun i j hi => by simp at hi) (fun i hi => by simp at hi)
      ·cases q with
       | zero => trivial
       | succ q => exact ⟨by simp, fun y hy => by simp at hy⟩
     ·have hww := hw
      simp only [DataW.weights, hu, List.all_cons, Bool.and_eq_true, decide_eq_true_eq] at hww
      obtain ⟨hw1, hw2⟩ := hww
      obtain ⟨hw3, _⟩ := all_append hw2
      obtain ⟨l, hll, hq⟩ := KW (fun i (y : e.T) => ∃ ci, w.cells? 0 (a.add (i * P.cellsOf et)) (P.cellsOf et) = some ci ∧ LR (DR (There w) w) (e.cells y) ci ∧ ∀ m, wfL (wf m) e.kdl (e.flds y)) len (fun i hi => by
       have h1 := hel i hi
       have hie : i < elems.length := by omega
       rw [List.getElem?_eq_getElem hie, Option.bind_eq_some_iff] at h1
       obtain ⟨ci, hc, ht⟩ := h1
       have hwi := Qv _ hw3 i (by simpa using hie)
       obtain ⟨us, y, e1, e2, e3⟩ := ih et e.kdl [] m ci elems[i] hlf ht (by simpa using hwi)
       have hus : e.kdl = us := by simpa using e1
       subst hus
       refine ⟨e.mk y, ci, hc, by rw [Kd.cells_mk]; exact e2, fun m => by rw [Kd.flds_mk]; exact e3 m⟩)
      refine ⟨[.sl e], (l, ()), rfl, LR.one ?_ rfl, fun q => ⟨?_, trivial⟩⟩
      ·have cell : ∀ i (hi : i < l.length) j (hj : j < e.size), There w a.block ∧ ∃ u, w.cell? (a.add (i * e.size + j)) = some u ∧ u.oneCell' = true ∧ ∀ (hj' : j < (e.cells l[i]).length), DR (There w) w ((e.cells l[i])[j]) u := by
        intro i hi j hj
        obtain ⟨ci, hc, hlr, _⟩ := hq i hi
        obtain ⟨_, c2, c3⟩ := World.cells?_some hc
        have hjc : j < ci.length := by rw [c2, hsz]; exact hj
        have h4 := c3 j (by rw [hsz]; exact hj)
        rw [jh, hsz, List.getElem?_eq_getElem hjc] at h4
        have hblk := World.cells?_block hc (by rw [hsz]; exact qg0 e)
        rw [add_block] at hblk
        exact ⟨hblk, ci[j], h4, (hlr.2 j (by rw [Kd.cells_length]; exact hj) hjc).1, fun hj' => (hlr.2 j hj' hjc).2⟩
       rw [← hll]
       refine .sl e l (some a) cap (fun i j => (w.cell? (a.add (i * e.size + j))).getD undef) (by omega) (fun i hi => ?_) (fun i j hi hj => ?_) (fun i hi j hj => ?_)
       ·refine ⟨a, rfl, (cell i hi 0 (qg0 e)).1, fun j hj => ?_⟩
        obtain ⟨_, u, hu, _⟩ := cell i hi j hj
        simp [hu]
       ·obtain ⟨_, u, hu, ho, _⟩ := cell i hi j hj
        simp [hu, ho]
       ·obtain ⟨_, u, hu, _, hd⟩ := cell i hi j (jr hi hj)
        simp only [hu, Option.getD_some]
        exact hd hj
      ·cases q with
       | zero => trivial
       | succ q =>
         refine ⟨?_, fun y hy => ?_⟩
         ·have h5 : l.length * e.bytes ≤ (elems.length + rest.length) * P.bytesOf et := by
           rw [hby]
           exact Nat.mul_le_mul_right _ (by omega)
          simp only [List.length_map] at hw1
          exact Nat.le_trans h5 hw1
         ·obtain ⟨i, hi, rfl⟩ := List.getElem_of_mem hy
          obtain ⟨_, _, _, h6⟩ := hq i hi
          exact h6 q
    ·simp at h
   ·simp at h
end Go.Sx
namespace Go.Sx
open Go
open Go.RowKit (Below)
open Go.ChangeShapes Go.WideShapes
variable {P : Program} {H : Type} {enc : TypeId × Value → H} {W W' : GW} {spare : Nat → Bool} {held : Bool}
def GJ (P : Program) (t : TypeId) : Bool :=
 match P.underlying t with
 | some (.struct _) => true
 | some (.array _ _) => true
 | _ => false
def Kd.isSt : Kd → Bool
 | .st _ => true
 | _ => false
def argsK (P : Program) : List TypeId → List Kd → Bool
 | [], [] => true
 | t :: ts, k :: ks => (match lf P 9 t k.kdl with | some [] => true | _ => false) && (GJ P t == k.isSt) && P.readableRec t && Nat.blt t P.types.size && argsK P ts ks
 | _, _ => false
theorem not_agg {base : Nat} {t : TypeId} {v : Value} (h : Value.okWide P W .any base t v) (ha : GJ P t = false) : (∀ cs, v ≠ .agg cs) := by
 unfold GJ at ha
 unfold Value.okWide at h
 intro cs hv
 subst hv
 split at h
 ·rename_i fs hu; rw [hu] at ha; cases ha
 ·rename_i n e hu; rw [hu] at ha; cases ha
 ·unfold Cell.okWide at h
  split at h <;> try (rename_i he; cases he)
  unfold Cell.ok at h
  split at h <;> first | (rename_i he; cases he) | exact h
theorem qes {base : Nat} {t : TypeId} {v : Value} {d : DataW H} {ps : List MemPlace} {kd : Kd} (hok : Value.okWide P W .any base t v) (h : DataW.Trod enc P W 0 spare held t v d ps) (hlf : lf P 9 t kd.kdl = some []) (hsh : GJ P t = kd.isSt) (hw : (d.weights P t).all (· ≤ reachBytes) = true) :
  ∃ y : kd.T, DR (There W) W (kd.of y) v ∧ ∀ m, wfL (wf m) kd.kdl (kd.flds y) := by
 obtain ⟨fuel, h⟩ := h
 obtain ⟨us, y, e1, e2, e3⟩ := qgw 9 t kd.kdl [] fuel _ _ hlf h hw
 have hus : kd.kdl = us := by simpa using e1
 subst hus
 refine ⟨kd.mk y, ?_, fun m => by rw [Kd.flds_mk]; exact e3 m⟩
 have leaf : kd.isSt = false → LR (DR (There W) W) [kd.of (kd.mk y)] v.cells.toList → DR (There W) W (kd.of (kd.mk y)) v := by
  intro hst hlr
  have hna := not_agg hok (by rw [hsh]; exact hst)
  have hc : v.cells = #[v] := by
   cases v with
   | agg cs => exact absurd rfl (hna cs)
   | _ => rfl
  rw [hc] at hlr
  exact (hlr.2 0 (by simp) (by simp)).2
 cases kd with
 | st s =>
   have hagg : ∃ cs, v = .agg cs := by
    unfold GJ at hsh
    unfold Value.okWide at hok
    split at hsh
    ·rename_i fs hu
     rw [hu] at hok
     obtain ⟨cs, hv, _⟩ := hok
     exact ⟨cs, hv⟩
    ·rename_i n e hu
     rw [hu] at hok
     obtain ⟨cs, hv, _⟩ := hok
     exact ⟨cs, hv⟩
    ·cases hsh
   obtain ⟨cs, rfl⟩ := hagg
   have hcs : (Value.agg cs).cells.toList = cs.toList := rfl
   rw [hcs] at e2
   have : DR (There W) W (.agg ((Kd.st s).cells ((Kd.st s).mk y))) (.agg cs.toList.toArray) := by
    rw [Kd.cells_mk]
    exact .agg _ _ e2.1 (fun u hu => by obtain ⟨q, hq, rfl⟩ := List.getElem_of_mem hu; exact (e2.2 q (by rw [e2.1]; exact hq) hq).1) fun i h1 h2 => (e2.2 i h1 h2).2
   rw [Array.toArray_toList] at this
   exact this
 | int k => exact leaf rfl e2
 | bool => exact leaf rfl e2
 | str => exact leaf rfl e2
 | sl e => exact leaf rfl e2
def wfA (m : Nat) : (ks : List Kd) → Lf ks → Prop := wfL fun k y => wfL (wf m) k.kdl (k.flds y)
theorem Us {base : Nat} : ∀ (ts : List TypeId) (ks : List Kd) (vs : List Value) (ds : List (DataW H)) (ps : List MemPlace), argsK P ts ks = true → DataW.TrodAll enc P W 0 spare held ts vs ds ps → (∀ (j : Nat) t v, ts[j]? = some t → vs[j]? = some v → Value.okWide P W .any base t v) →
  (DataW.weightsEach P ts ds).all (· ≤ reachBytes) = true → ∃ xs : Lf ks, DRs (There W) W (cellsL ks xs) vs ∧ ∀ m, wfA m ks xs
 | [], [], vs, ds, ps, _, h, _, _ => by
   obtain ⟨rfl, rfl, rfl⟩ := trodAll_nil h
   exact ⟨(), ⟨rfl, fun i h => by simp [cellsL] at h⟩, fun _ => trivial⟩
 | t :: ts, k :: ks, vs, ds, ps, hk, h, hok, hw => by
   simp only [argsK, Bool.and_eq_true, beq_iff_eq] at hk
   obtain ⟨⟨⟨⟨hk1, hk2⟩, _⟩, _⟩, hk3⟩ := hk
   have hlf : lf P 9 t k.kdl = some [] := by
    split at hk1
    ·assumption
    ·cases hk1
   obtain ⟨v, vs1, d, ds1, a, b, rfl, rfl, rfl, h1, h2⟩ := trodAll_cons h
   unfold DataW.weightsEach at hw
   obtain ⟨w1, w2⟩ := all_append hw
   obtain ⟨y, g1, g2⟩ := qes (hok 0 t v rfl rfl) h1 hlf hk2 w1
   obtain ⟨xs, g3, g4⟩ := Us ts ks vs1 ds1 b hk3 h2 (fun j t v a b => hok (j + 1) t v (by simpa using a) (by simpa using b)) w2
   refine ⟨(y, xs), ⟨by simp [cellsL, g3.1], fun i h h' => ?_⟩, fun m => ⟨g2 m, g4 m⟩⟩
   cases i with
   | zero => exact g1
   | succ i => exact g3.2 i (by simpa [cellsL] using h) (by simpa using h')
 | [], _ :: _, _, _, _, hk, _, _, _ => by simp [argsK] at hk
 | _ :: _, [], _, _, _, hk, _, _, _ => by simp [argsK] at hk
theorem Jv (hl : laidOutB P = true) : ∀ (ts : List TypeId) (ks : List Kd) (vs : List Value) (ds : List (DataW H)) (ps : List MemPlace), argsK P ts ks = true → DataW.TrodAll enc P W 0 (fun _ => true) true ts vs ds ps → (∀ p ∈ ps, p.block < W.heap.size) → Below W.heap.size W W' → ∀ sp : Nat → Bool, (∀ p ∈ ps, sp p.block = true) →
  DataW.TrodAll enc P W' 0 sp true ts vs ds ps
 | [], [], vs, ds, ps, _, h, _, _, sp, _ => by
   obtain ⟨rfl, rfl, rfl⟩ := trodAll_nil h
   rfl
 | t :: ts, k :: ks, vs, ds, ps, hk, h, hlt, hb, sp, hsp => by
   simp only [argsK, Bool.and_eq_true, beq_iff_eq] at hk
   obtain ⟨⟨⟨_, hr⟩, hs⟩, hk3⟩ := hk
   obtain ⟨v, vs1, d, ds1, a, b, rfl, rfl, rfl, h1, h2⟩ := trodAll_cons h
   refine ⟨a, b, WideElems.Trod_stays hl hr (Nat.le_of_ble_eq_true hs) h1 (fun p hp => hb.same (hlt p (List.mem_append.2 (.inl hp)))) (fun p hp => hsp p (List.mem_append.2 (.inl hp))), ?_, rfl⟩
   exact Jv hl ts ks vs1 ds1 b hk3 h2 (fun p hp => hlt p (List.mem_append.2 (.inr hp))) hb sp (fun p hp => hsp p (List.mem_append.2 (.inr hp)))
 | [], _ :: _, _, _, _, hk, _, _, _, _, _ => by simp [argsK] at hk
 | _ :: _, [], _, _, _, hk, _, _, _, _, _ => by simp [argsK] at hk
theorem qgx {f : Func} {s : ChangeSpec} {apart fresh handsOn again : Bool} {args : Array Value} {ds gs : List (DataW H)} {before : List MemPlace} {tb : TypeId} (hW : DataW.Whole enc P f.params.toList s.vars apart W args.toList ds gs before) (hl : laidOutB P = true) {ks : List Kd} (hk : argsK P f.params.toList ks = true)
  (hb : Below W.heap.size W W') (hvars : s.vars = []) (hres : f.resultTypes = #[tb]) (htb : P.underlying tb = some .bool) (hspec : s.fn H ds = { results := [.lit (.bool true)], args := ds }) :
  s.post enc P f apart fresh handsOn again W args (.bool true) W' := by
 have hWW := hW
 obtain ⟨pa, pv, hA, hV, hps, hz, hn⟩ := hW
 have hlt : ∀ p ∈ before, p.block < W.heap.size := hWW.lt
 rw [hvars] at hV
 obtain ⟨rfl, rfl⟩ := trodVars_none hV
 simp only [List.append_nil] at hps
 subst hps
 have hsp : s.fn H (ds ++ []) = { results := [.lit (.bool true)], args := ds } := by rw [List.append_nil]; exact hspec
 have hres' : ∀ (b : Nat) (sp : Nat → Bool) (hd : Bool), DataW.TrodAll enc P W' b sp hd f.resultTypes.toList ((Value.bool true).resultList f.resultTypes.size) (s.fn H (ds ++ [])).results [] := by
  intro b sp hd
  rw [hsp, hres]
  exact trodAll_mk1 (RowKit.shut_bool htb true)
 have hargs : ∀ sp : Nat → Bool, (∀ p ∈ before, sp p.block = true) → DataW.TrodAll enc P W' 0 sp true f.params.toList args.toList (s.fn H (ds ++ [])).args before := by
  intro sp hs
  rw [hsp]
  exact Jv hl _ ks _ _ _ hk hA hlt hb sp hs
 have hvars' : ∀ sp : Nat → Bool, DataW.TrodVars enc P W' sp s.vars (s.fn H (ds ++ [])).vars [] := by
  intro sp
  rw [hsp, hvars]
  rfl
 have hold : ∀ p ∈ before, (fun b => decide (b < W.heap.size)) p.block = true := fun p hp => by simpa using hlt p hp
 refine ⟨ds, [], before, [], before, [], hWW, hres' _ _ _, hargs _ hold, hvars' _, World.keptBut_mono (fun p hp => ⟨hp, ?_⟩) (hb.frame (· ∈ before)), fun _ => ?_⟩
 ·exact .inr (by simpa using hp)
 ·refine ⟨RowKit.ok_one hres rfl (RowKit.okWide_bool_mk htb true), _, _, ([] ++ before) ++ [], ⟨[] ++ before, [], trodAll_append (hargs _ (fun _ _ => rfl)) (hres' _ _ _), hvars' _, rfl, ?_, ?_⟩, ?_⟩
  ·intro b off hp
   have hp' : MemPlace.cell b off ∈ before := by simpa using hp
   rw [hb.frozen (p := ⟨b, off, Option.none⟩) (hlt _ hp')]
   exact hz b off hp'
  ·intro ha
   have := hn ha
   simpa using this
  ·intro p hp _
   simpa using hp
theorem law_calls_gl {gl : List (Nat × List AV)} {f : FuncId} {fn : Func} {s : ChangeSpec} {apart fresh handsOn again : Bool} {args : Array Value} {ds gs : List (DataW H)} {before : List MemPlace} {tb : TypeId} {base : Nat} {ks : List Kd}
  (hlaw : ∀ xs : Lf ks, (∀ m, wfA m ks xs) → CallsTo P gl f (cellsL ks xs) (.bool true)) (hgl : GOK gl W.heap.size (There W) W)
  (hl : laidOutB P = true) (hk : argsK P fn.params.toList ks = true) (hvars : s.vars = []) (hres : fn.resultTypes = #[tb]) (htb : P.underlying tb = some .bool) (hspec : ∀ ds : List (DataW H), ds.length = ks.length → s.fn H ds = { results := [.lit (.bool true)], args := ds })
  (hval : ∀ (j : Nat) t v, fn.params[j]? = some t → args[j]? = some v → Value.okWide P W .any base t v)
  (hW : DataW.Whole enc P fn.params.toList s.vars apart W args.toList ds gs before)
  (hsz : (DataW.weightsEach P (fn.params.toList ++ s.plain.varTypes P) (ds ++ gs)).all (· ≤ reachBytes) = true) :
  Calls P f args W fun e W' => ∃ v, e = .returned v ∧ s.post enc P fn apart fresh handsOn again W args v W' := by
 have hWW := hW
 obtain ⟨pa, pv, hA, hV, hps, hz, hn⟩ := hW
 rw [hvars] at hV
 obtain ⟨hgs, hpv⟩ := trodVars_none hV
 subst hgs
 have hvt : s.plain.varTypes P = [] := by
  simp [ChangeSpec.plain, DataSpec.varTypes, hvars]
 rw [hvt, List.append_nil, List.append_nil] at hsz
 obtain ⟨xs, hx, hwf⟩ := Us fn.params.toList ks args.toList ds pa hk hA (fun j t v a b => hval j t v (by simpa using a) (by simpa using b)) hsz
 have hlen : ds.length = ks.length := by
  have h1 : ∀ (ts : List TypeId) (ks : List Kd) (vs : List Value) (ds : List (DataW H)) (ps : List MemPlace), argsK P ts ks = true → DataW.TrodAll enc P W 0 (fun _ => true) true ts vs ds ps → ds.length = ks.length := by
   intro ts
   induction ts with
   | nil =>
     intro ks vs ds ps hk h
     obtain ⟨rfl, rfl, rfl⟩ := trodAll_nil h
     cases ks with
     | nil => rfl
     | cons k ks => simp [argsK] at hk
   | cons t ts ih =>
     intro ks vs ds ps hk h
     obtain ⟨v, vs1, d, ds1, a, b, rfl, rfl, rfl, h1, h2⟩ := trodAll_cons h
     cases ks with
     | nil => simp [argsK] at hk
     | cons k ks =>
       simp only [argsK, Bool.and_eq_true] at hk
       simp [ih ks vs1 ds1 b hk.2 h2]
  exact h1 _ _ _ _ _ hk hA
 have hcall := hlaw xs hwf (There W) W args.toList (fun c h => h) hgl hx
 rw [Array.toArray_toList] at hcall
 refine hcall.mono ?_
 rintro e W' ⟨cv, rfl, hb, hdr⟩
 cases hdr
 exact ⟨_, rfl, qgx hWW hl hk hb hvars hres htb (hspec ds hlen)⟩
end Go.Sx
namespace Go.Sx
open Go
open Go.RowKit (Below)
open Go.ChangeShapes Go.WideShapes
variable {P : Program} {H : Type} {enc : TypeId × Value → H} {W W' : GW} {spare : Nat → Bool} {held : Bool}
end Go.Sx
namespace Go.Sx
open Go
@[reducible] def Fn : List Kd → Type → Type
  | [], Z => Z
  | k :: r, Z => k.T → Fn r Z
@[reducible] def Rs : List Kd → Type
  | [] => Unit
  | [k] => k.T
  | k :: q :: r => k.T × Rs (q :: r)
def rL : (kr : List Kd) → Rs kr → List AV
 | [], _ => []
 | [k], z => [k.of z]
 | k :: q :: r, z => k.of z.1 :: rL (q :: r) z.2
def rA : (kr : List Kd) → Rs kr → AV
 | [], _ => .tup []
 | [k], z => k.of z
 | k :: q :: r, z => .tup (rL (k :: q :: r) z)
def Nq : (kr : List Kd) → List AV → Option (Rs kr)
 | [], [] => some ()
 | [k], [v] => v.as k
 | k :: q :: r, v :: vs => (v.as k).bind fun x => (Nq (q :: r) vs).bind fun y => some (x, y)
 | _, _ => none
def asR : (kr : List Kd) → AV → Option (Rs kr)
 | [k], v => v.as k
 | [], .tup [] => some ()
 | k :: q :: r, .tup vs => Nq (k :: q :: r) vs
 | _, _ => none
def apK {R Z : Type} : (ks : List Kd) → Fn ks (Option Z) → List AV → (Z → Option R) → Option R
 | [], f, [], k => obind f k
 | k :: r, f, v :: vs, kk => (v.as k).bind fun x => apK r (f x) vs kk
 | _, _, _, _ => none
def YC (ks : List Kd) (F : Fn ks (Option AV)) : Ctr := ⟨fun args k => apK ks F args k⟩
def ql (ks kr : List Kd) (F : Fn ks (Option (Rs kr))) : Ctr := ⟨fun args k => apK ks F args fun z => k (rA kr z)⟩
end Go.Sx
namespace Go.Sx
open Go
open Go.RowKit (Below)
def apL {Z : Type} : (ks : List Kd) → Fn ks Z → Lf ks → Z
 | [], f, _ => f
 | _ :: r, f, x => apL r (f x.1) x.2
theorem Vw {R Z : Type} (g : Z → AV) (k : AV → Option R) : ∀ (ks : List Kd) (F : Fn ks (Option Z)) (args : List AV), apK ks F args (fun z => k (g z)) = (apK ks F args fun z => some (g z)).bind k
 | [], F, [] => by simp [apK, obind, Option.bind_assoc]
 | [], F, _ :: _ => by simp [apK]
 | k' :: r, F, [] => by simp [apK]
 | k' :: r, F, v :: vs => by
   simp only [apK, Option.bind_assoc]
   congr 1
   funext x
   exact Vw g k r (F x) vs
theorem ZC {R Z : Type} {k : Z → Option R} {r : R} : ∀ (ks : List Kd) (F : Fn ks (Option Z)) (args : List AV), apK ks F args k = some r → ∃ (xs : Lf ks) (z : Z), apL ks F xs = some z ∧ k z = some r ∧ args.length = ks.length ∧
  ∀ (D : Nat → Prop) (w : GW) (vs : List Value), DRs D w args vs → DRs D w (cellsL ks xs) vs
 | [], F, [], h => by
   simp only [apK, obind] at h
   obtain ⟨z, hz, h⟩ := Option.bind_eq_some_iff.1 h
   exact ⟨(), z, hz, h, rfl, fun D w vs h => h⟩
 | [], F, _ :: _, h => by simp [apK] at h
 | k' :: r', F, [], h => by simp [apK] at h
 | k' :: r', F, v :: vs, h => by
   simp only [apK] at h
   obtain ⟨x, hx, h⟩ := Option.bind_eq_some_iff.1 h
   obtain ⟨xs, z, h1, h2, h3, h4⟩ := ZC r' (F x) vs h
   refine ⟨(x, xs), z, h1, h2, by simp [h3], fun D w us hd => ?_⟩
   cases us with
   | nil => have := hd.1; simp at this
   | cons u us =>
     have := h4 D w us ⟨by have := hd.1; simpa using this, fun i a b => by have := hd.2 (i + 1) (by simpa using a) (by simpa using b); simpa using this⟩
     refine ⟨by simp [cellsL, this.1], fun i a b => ?_⟩
     cases i with
     | zero => exact AV.as_as hx _ _ _ (hd.2 0 (by simp) (by simp))
     | succ i => exact this.2 i (by simpa [cellsL] using a) (by simpa using b)
theorem YO : ∀ (kr : List Kd) (vs : List AV) (z : Rs kr), Nq kr vs = some z → C2 vs (rL kr z)
 | [], [], _, _ => .nil
 | [], _ :: _, _, h => by simp [Nq] at h
 | [k], [], _, h => by simp [Nq] at h
 | [k], [v], z, h => .cons (AV.as_as (show v.as k = some z from h)) .nil
 | [k], _ :: _ :: _, _, h => by simp [Nq] at h
 | k :: q :: r, [], _, h => by simp [Nq] at h
 | k :: q :: r, v :: vs, z, h => by
   simp only [Nq] at h
   obtain ⟨x, hx, h⟩ := Option.bind_eq_some_iff.1 h
   obtain ⟨y, hy, h⟩ := Option.bind_eq_some_iff.1 h
   cases h
   exact .cons (AV.as_as hx) (YO (q :: r) vs y hy)
theorem c2_tup {vs us : List AV} (h : C2 vs us) : CellAs (.tup vs) (.tup us) := by
 intro D w x hx
 cases hx with
 | tup _ xs hl hh => exact .tup us xs (by rw [← h.length]; exact hl) fun i h1 h2 => h.get i (by rw [h.length]; exact h1) h1 _ _ _ (hh i (by rw [h.length]; exact h1) h2)
theorem qiq (kr : List Kd) (v : AV) (z : Rs kr) (h : asR kr v = some z) : CellAs v (rA kr z) := by
 unfold asR at h
 split at h
 ·exact AV.as_as h
 ·exact CellAs.refl _
 ·exact c2_tup (YO _ _ _ h)
 ·cases h
theorem Up {P : Program} {E : Env} (hE : EnvOK P E) {H : Hints} (hin : ∀ f fn c, look E.inl f = some fn → fn.body = some c → ToldC E H f c) {f : Nat} {fn : Func} (hf : P.funcs[f]? = some fn) (htold : ∀ c, fn.body = some c → ToldC E H f c) {args : List AV} {kr : List Kd} {z : Rs kr} (h : q9 E H f fn args (asR kr) = some z) :
  CallsTo P E.glob f args (rA kr z) := by
 intro ok w xs h1 h2 h3
 refine (KX hE hin hf htold h ok w xs h1 h2 h3).mono ?_
 rintro e w' ⟨v, cv, hv, rfl, hb, hd⟩
 exact ⟨cv, rfl, hb, qiq kr v z hv _ _ _ hd⟩
theorem qd5 {P : Program} {gl : List (Nat × List AV)} {f : Nat} {ks : List Kd} {F : Fn ks (Option AV)} (hF : ∀ (xs : Lf ks) (z : AV), apL ks F xs = some z → CallsTo P gl f (cellsL ks xs) z) : CtrOK P gl f (YC ks F) := by
 refine ⟨fun R args k => Vw id k ks F args, fun R args k r h => ?_⟩
 obtain ⟨xs, z, h1, h2, h3, h4⟩ := ZC ks F args h
 refine ⟨z, h2, fun ok w vs g1 g2 g3 => ?_⟩
 exact hF xs z h1 ok w vs g1 g2 (h4 ok w vs g3)
theorem qad {P : Program} {E : Env} (hE : EnvOK P E) {H : Hints} (hin : ∀ f fn c, look E.inl f = some fn → fn.body = some c → ToldC E H f c) {f : Nat} {fn : Func} (hf : P.funcs[f]? = some fn) (htold : ∀ c, fn.body = some c → ToldC E H f c) {args : List AV} {z : AV} (h : q9 E H f fn args (fun v => some v) = some z) :
  CallsTo P E.glob f args z := by
 intro ok w xs h1 h2 h3
 refine (KX hE hin hf htold h ok w xs h1 h2 h3).mono ?_
 rintro e w' ⟨v, cv, hv, rfl, hb, hd⟩
 cases hv
 exact ⟨cv, rfl, hb, hd⟩
theorem Da {P : Program} {gl : List (Nat × List AV)} {f : Nat} {ks kr : List Kd} {F : Fn ks (Option (Rs kr))} (hF : ∀ (xs : Lf ks) (z : Rs kr), apL ks F xs = some z → CallsTo P gl f (cellsL ks xs) (rA kr z)) : CtrOK P gl f (ql ks kr F) := by
 refine ⟨fun R args k => Vw (rA kr) k ks F args, fun R args k r h => ?_⟩
 obtain ⟨xs, z, h1, h2, h3, h4⟩ := ZC ks F args h
 refine ⟨rA kr z, h2, fun ok w vs g1 g2 g3 => ?_⟩
 exact hF xs z h1 ok w vs g1 g2 (h4 ok w vs g3)
end Go.Sx
namespace Go.Sx
open Go
def qn : Nat := 18446744073709551616
theorem jO {α : Type _} : ∀ {l : List (Nat × α)} {n : Nat} {x : α}, look l n = some x → (n, x) ∈ l
 | [], n, x, h => by simp [qgt] at h
 | p :: r, n, x, h => by
   rw [qdd] at h
   cases hb : Nat.beq p.1 n with
   | true =>
     rw [hb] at h
     have e : p.1 = n := Nat.eq_of_beq_eq_true hb
     have e2 : p.2 = x := Option.some.inj h
     rw [← e, ← e2]; simp
   | false => rw [hb] at h; exact List.mem_cons_of_mem _ (jO h)
inductive CtrsOK (P : Program) (gl : List (Nat × List AV)) : List (Nat × Ctr) → Prop
 | nil : CtrsOK P gl []
 | cons {f : Nat} {c : Ctr} {r : List (Nat × Ctr)} (h : FnOK P f ∧ CtrOK P gl f c) (t : CtrsOK P gl r) : CtrsOK P gl ((f, c) :: r)
theorem CtrsOK.mem {P : Program} {gl : List (Nat × List AV)} {l : List (Nat × Ctr)} (h : CtrsOK P gl l) : ∀ p ∈ l, FnOK P p.1 ∧ CtrOK P gl p.1 p.2 := by
 induction h with
 | nil => intro p hp; simp at hp
 | cons h t ih =>
   intro p hp
   rcases List.mem_cons.1 hp with rfl | hp
   ·exact h
   ·exact ih p hp
def FnIn (P : Program) (f : Nat) (fn : Func) : Prop := P.funcs[f]? = some fn ∧ fn.body.isSome = true ∧ fn.name ≠ "runtime.NumGoroutine"
theorem FnIn.mk {P : Program} {f : Nat} {fn : Func} (h : P.funcs[f]? = some fn) (hb : fn.body.isSome = true) (hn : (fn.name == "runtime.NumGoroutine") = false) : FnIn P f fn := ⟨h, hb, by simpa using hn⟩
inductive InlsOK (P : Program) (E : Env) (H : Hints) : List (Nat × Func) → Prop
 | nil : InlsOK P E H []
 | cons {f : Nat} {fn : Func} {r : List (Nat × Func)} (h : FnIn P f fn) (ht : ∀ c, fn.body = some c → ToldC E H f c) (t : InlsOK P E H r) : InlsOK P E H ((f, fn) :: r)
theorem InlsOK.mem {P : Program} {E : Env} {H : Hints} {l : List (Nat × Func)} (h : InlsOK P E H l) : ∀ p ∈ l, FnIn P p.1 p.2 ∧ ∀ c, p.2.body = some c → ToldC E H p.1 c := by
 induction h with
 | nil => intro p hp; simp at hp
 | cons h ht t ih =>
   intro p hp
   rcases List.mem_cons.1 hp with rfl | hp
   ·exact ⟨h, ht⟩
   ·exact ih p hp
noncomputable def obl (H : Hints) (f : Nat) : Code → List (Alt × Code)
 | .seq x y => obl H f x ++ obl H f y
 | .cond _ x y => obl H f x ++ obl H f y
 | .block _ c => obl H f c
 | .scope c => obl H f c
 | .loop c => (((look H.al f).bind fun hs => (jR c).bind fun i => look hs i).getD []).map (fun a => (a, c)) ++ obl H f c
 | _ => []
theorem qe2 {E : Env} {H : Hints} {f : Nat} : ∀ (c : Code), (∀ p ∈ obl H f c, Alt.Round E H f p.2 p.1) → ToldC E H f c := by
 intro c
 induction c with
 | seq x y hx hy => exact fun h => ⟨hx fun p hp => h p (List.mem_append.2 (.inl hp)), hy fun p hp => h p (List.mem_append.2 (.inr hp))⟩
 | cond c x y hx hy => exact fun h => ⟨hx fun p hp => h p (List.mem_append.2 (.inl hp)), hy fun p hp => h p (List.mem_append.2 (.inr hp))⟩
 | block i c hc => exact fun h => hc h
 | scope c hc => exact fun h => hc h
 | loop c hc =>
   intro h
   refine ⟨?_, hc fun p hp => h p (List.mem_append.2 (.inr hp))⟩
   split
   ·rename_i alts halts
    intro a ha
    refine h (a, c) (List.mem_append.2 (.inl ?_))
    rw [halts]
    exact List.mem_map.2 ⟨a, ha, rfl⟩
   ·trivial
 | _ => exact fun _ => trivial
noncomputable def qN (H : Hints) (f : Nat) (fn : Func) (i : Nat) : Code := (((fn.body.map (obl H f)).getD [])[i]?).elim .skip (·.2)
theorem qV {E : Env} {H : Hints} {f : Nat} {fn : Func} (l : List Alt) (hl : ((fn.body.map (obl H f)).getD []).map (·.1) = l) (h : ∀ i (hi : i < l.length), Alt.Round E H f (qN H f fn i) l[i]) : ∀ c, fn.body = some c → ToldC E H f c := by
 intro c hc
 refine qe2 c fun p hp => ?_
 obtain ⟨i, hi, rfl⟩ := List.getElem_of_mem hp
 subst hl
 unfold qN at h
 simp only [hc, Option.map_some, Option.getD_some] at h
 have := h i (by simpa using hi)
 rw [List.getElem?_eq_getElem hi] at this
 simpa using this
inductive EqsOK (P : Program) : List (Nat × List Kd) → Prop
 | nil : EqsOK P []
 | cons {t : Nat} {n : List Kd} {r : List (Nat × List Kd)} (h : EqFact P t n) (k : EqsOK P r) : EqsOK P ((t, n) :: r)
theorem EqsOK.mem {P : Program} {l : List (Nat × List Kd)} (h : EqsOK P l) : ∀ p ∈ l, EqFact P p.1 p.2 := by
 induction h with
 | nil => intro p hp; simp at hp
 | cons h t ih =>
   intro p hp
   rcases List.mem_cons.1 hp with rfl | hp
   ·exact h
   ·exact ih p hp
inductive GetsOK (P : Program) : List (Nat × Nat) → Prop
 | nil : GetsOK P []
 | cons {f d : Nat} {r : List (Nat × Nat)} (h : FnOK P f ∧ GetOK P f d) (k : GetsOK P r) : GetsOK P ((f, d) :: r)
theorem GetsOK.mem {P : Program} {l : List (Nat × Nat)} (h : GetsOK P l) : ∀ p ∈ l, FnOK P p.1 ∧ GetOK P p.1 p.2 := by
 induction h with
 | nil => intro p hp; simp at hp
 | cons h t ih =>
   intro p hp
   rcases List.mem_cons.1 hp with rfl | hp
   ·exact h
   ·exact ih p hp
inductive OwnsOK (P : Program) (gl : List (Nat × List AV)) : List (Nat × Ctr) → Prop
 | nil : OwnsOK P gl []
 | cons {f : Nat} {c : Ctr} {r : List (Nat × Ctr)} (h : FnOK P f ∧ OwnOK P gl f c) (t : OwnsOK P gl r) : OwnsOK P gl ((f, c) :: r)
theorem OwnsOK.mem {P : Program} {gl : List (Nat × List AV)} {l : List (Nat × Ctr)} (h : OwnsOK P gl l) : ∀ p ∈ l, FnOK P p.1 ∧ OwnOK P gl p.1 p.2 := by
 induction h with
 | nil => intro p hp; simp at hp
 | cons h t ih =>
   intro p hp
   rcases List.mem_cons.1 hp with rfl | hp
   ·exact h
   ·exact ih p hp
theorem qbo {P : Program} {E : Env} {H : Hints} (hty : (E.ty.all fun p => J7 P p.1 p.2) = true) (hctr : CtrsOK P E.glob E.ctr) (hinl : InlsOK P E H E.inl) (heq : EqsOK P E.eqs) (hm : P.follows .mixedOrders = true) (hget : GetsOK P E.get := by exact GetsOK.nil) (hown : OwnsOK P E.glob E.own := by exact OwnsOK.nil) : EnvOK P E := by
 refine ⟨fun t n h => heq.mem _ (jO h), fun t i h => ?_, fun f c h => hctr.mem _ (jO h), fun f fn h => ?_, hm, fun f d h => hget.mem _ (jO h), fun f c h => hown.mem _ (jO h)⟩
 ·have := List.all_eq_true.1 hty (t, i) (jO h)
  exact qca this
 ·exact (hinl.mem _ (jO h)).1
theorem q7 {P : Program} {E : Env} {H : Hints} (hty : (E.ty.all fun p => J7 P p.1 p.2) = true) (hctr : CtrsOK P E.glob E.ctr) (hinl : InlsOK P E H E.inl) (heq : EqsOK P E.eqs) (hm : P.follows .mixedOrders = true)
  {f : Nat} {fn : Func} (hf : FnIn P f fn) (htold : ∀ c, fn.body = some c → ToldC E H f c) {ks kr : List Kd} {F : Fn ks (Option (Rs kr))} (hF : ∀ xs : Lf ks, q9 E H f fn (cellsL ks xs) (asR kr) = apL ks F xs) (hget : GetsOK P E.get := by exact GetsOK.nil) (hown : OwnsOK P E.glob E.own := by exact OwnsOK.nil) :
  FnOK P f ∧ CtrOK P E.glob f (ql ks kr F) :=
 ⟨⟨fn, hf⟩, Da fun xs z hz => Up (qbo hty hctr hinl heq hm hget hown) (fun f fn c h hb => (hinl.mem _ (jO h)).2 c hb) hf.1 htold (by rw [hF xs]; exact hz)⟩
theorem Y5 {P : Program} {E : Env} {H : Hints} (hty : (E.ty.all fun p => J7 P p.1 p.2) = true) (hctr : CtrsOK P E.glob E.ctr) (hinl : InlsOK P E H E.inl) (heq : EqsOK P E.eqs) (hm : P.follows .mixedOrders = true)
  {f : Nat} {fn : Func} (hf : FnIn P f fn) (htold : ∀ c, fn.body = some c → ToldC E H f c) {ks : List Kd} {F : Fn ks (Option AV)} (hF : ∀ xs : Lf ks, q9 E H f fn (cellsL ks xs) (fun v => some v) = apL ks F xs) (hget : GetsOK P E.get := by exact GetsOK.nil) (hown : OwnsOK P E.glob E.own := by exact OwnsOK.nil) :
  FnOK P f ∧ CtrOK P E.glob f (YC ks F) :=
 ⟨⟨fn, hf⟩, qd5 fun xs z hz => qad (qbo hty hctr hinl heq hm hget hown) (fun f fn c h hb => (hinl.mem _ (jO h)).2 c hb) hf.1 htold (by rw [hF xs]; exact hz)⟩
theorem law_to {P : Program} {E : Env} {H : Hints} (hty : (E.ty.all fun p => J7 P p.1 p.2) = true) (hctr : CtrsOK P E.glob E.ctr) (hinl : InlsOK P E H E.inl) (heq : EqsOK P E.eqs) (hm : P.follows .mixedOrders = true)
  {f : Nat} {fn : Func} (hf : FnIn P f fn) (htold : ∀ c, fn.body = some c → ToldC E H f c) {ks : List Kd} {F : Fn ks (Option Bool)} (hF : ∀ xs : Lf ks, q9 E H f fn (cellsL ks xs) (asR [.bool]) = apL ks F xs)
  (htrue : ∀ xs : Lf ks, (∀ m, wfA m ks xs) → apL ks F xs = some true) (xs : Lf ks) (hx : ∀ m, wfA m ks xs) (hget : GetsOK P E.get := by exact GetsOK.nil) (hown : OwnsOK P E.glob E.own := by exact OwnsOK.nil) : CallsTo P E.glob f (cellsL ks xs) (.bool true) :=
 Up (kr := [.bool]) (z := true) (qbo hty hctr hinl heq hm hget hown) (fun f fn c h hb => (hinl.mem _ (jO h)).2 c hb) hf.1 htold (by rw [hF xs]; exact htrue xs hx)
theorem qhm {P : Program} {E : Env} {H : Hints} (hty : (E.ty.all fun p => J7 P p.1 p.2) = true) (hctr : CtrsOK P E.glob E.ctr) (hinl : InlsOK P E H E.inl) (heq : EqsOK P E.eqs) (hm : P.follows .mixedOrders = true)
  {f : Nat} {fn : Func} (hf : FnIn P f fn) (htold : ∀ c, fn.body = some c → ToldC E H f c) {ks : List Kd} {kd : Kd} {F : Fn ks (Option (List kd.T))} (hF : ∀ xs : Lf ks, RT E H f fn (cellsL ks xs) kd some = apL ks F xs) (hget : GetsOK P E.get := by exact GetsOK.nil) (hown : OwnsOK P E.glob E.own := by exact OwnsOK.nil) :
  FnOK P f ∧ OwnOK P E.glob f (ql ks [.sl kd] F) := by
 refine ⟨⟨fn, hf⟩, fun R args k => Vw (rA [.sl kd]) k ks F args, fun R args k r h => ?_⟩
 obtain ⟨xs, z, h1, h2, h3, h4⟩ := ZC ks F args h
 refine ⟨kd, z, h2, fun ok w vs g1 g2 g3 => ?_⟩
 refine (RS (qbo hty hctr hinl heq hm hget hown) (fun f fn c h hb => (hinl.mem _ (jO h)).2 c hb) hf.1 htold ((hF xs).trans h1) ok w vs g1 g2 (h4 ok w vs g3)).mono ?_
 rintro e w' ⟨l, hl, h⟩
 cases hl
 exact h
end Go.Sx
namespace Go.Sx
open Go
theorem qbb {X O : Type} {T : (X → Option O) → X → Option O} (m : X → Nat) (inv : X → Prop) (g : X → Option O)
  (h : ∀ (x : X) (rec : X → Option O), inv x → (∀ y, inv y → m y < m x → rec y = g y) → T rec x = g x) : ∀ (L : Nat) (x : X), inv x → m x < L → qr T L x = g x
 | 0, x, _, hm => by omega
 | L + 1, x, hi, hm => h x (qr T L) hi fun y hy hym => qbb m inv g h L y hy (by omega)
theorem g7 {X O : Type} {T : (X → Option O) → X → Option O} (m : X → Nat) (inv : X → Prop) (g : X → Option O)
  (h : ∀ (x : X) (rec : X → Option O), inv x → (∀ y, inv y → m y < m x → rec y = g y) → T rec x = g x) {x : X} (hi : inv x) (hm : m x < 18446744073709551616) : qr T qn x = g x :=
 qbb m inv g h qn x hi hm
theorem cnd_if {α : Type} (b : Bool) (x y : α) : cnd b x y = if b = true then x else y := by cases b <;> rfl
theorem qy {α : Type} {b : Bool} {x y : α} (h : b = true) : cnd b x y = x := by subst h; rfl
theorem qz {α : Type} {b : Bool} {x y : α} (h : b = false) : cnd b x y = y := by subst h; rfl
theorem qg {α β : Type} (x : α) (f : α → Option β) : obind (some x) f = f x := rfl
theorem jd {α : Type} {l : List α} {j : Int} (h0 : 0 ≤ j) (h : j < l.length) : lget l j = some (l[j.toNat]'(by omega)) := by
 unfold lget
 rw [if_pos h0]
 exact List.getElem?_eq_getElem _
def gi (l : List Int) (p : Int) : Int := l.getD p.toNat 0
theorem qm {l : List Int} {j : Int} (h0 : 0 ≤ j) (h : j < l.length) : lget l j = some (gi l j) := by
 rw [jd h0 h]
 simp [gi, List.getD, List.getElem?_eq_getElem (show j.toNat < l.length by omega)]
theorem zj {α : Type} {l : List α} {i : Int} (h : ¬ i < l.length) : l.drop i.toNat = [] := List.drop_eq_nil_of_le (by omega)
theorem vp {l : List Int} {i : Int} (h0 : 0 ≤ i) (h : i < l.length) : gi l i ∈ l := by
 have : gi l i = l[i.toNat]'(by omega) := by simp [gi, List.getD, List.getElem?_eq_getElem (show i.toNat < l.length by omega)]
 rw [this]
 exact List.getElem_mem _
theorem qP {α : Type} {l : List α} {j : Nat} (h : j < l.length) : lget l (j : Int) = some l[j] := by
 rw [jd (by omega) (by omega)]
 simp
theorem qO {n : Int} (h : -9223372036854775808 ≤ n) (h' : n ≤ 9223372036854775807) : wrap .i64 n = n := IntWalk.i64_in n ⟨h, h'⟩
theorem VM {k : Kd} {r : List Kd} {x : Lf (k :: r)} (h : ∀ m, wfA m (k :: r) x) : (∀ m, wfL (wf m) k.kdl (k.flds x.1)) ∧ ∀ m, wfA m r x.2 := ⟨fun m => (h m).1, fun m => (h m).2⟩
theorem wf_int {k : IntKind} {y : Int} (h : ∀ m, wfL (wf m) (Kd.kdl (.int k)) ((Kd.int k).flds y)) : k.min ≤ y ∧ y ≤ k.max := (h 1).1
theorem wf_u8 {y : Int} (h : ∀ m, wfL (wf m) (Kd.kdl (.int .u8)) ((Kd.int .u8).flds y)) : 0 ≤ y ∧ y ≤ 255 := wf_int h
attribute [simp] cnd obind ile ilt ieq beq' bnot band iadd isub imul irem ltake ldrop lapp lset lrep odef ois scase ilen_eq Bool.cond_eq_ite
end Go.Sx
namespace Go.Sx
open Go
def upW (ws : List Place) (i : Nat) : Place := ws.getD i ⟨0, 0⟩
inductive Dep (ws : List Place) : Place → Nat → Prop
 | base (p : Place) (h : p.kind ≠ 2) : Dep ws p 0
 | step (p : Place) (h : p.kind = 2) (d : Nat) (t : Dep ws (upW ws p.id.toNat) d) : Dep ws p (d + 1)
theorem Dep.inj {ws : List Place} {p : Place} {d e : Nat} (h : Dep ws p d) (h' : Dep ws p e) : d = e := by
 induction h generalizing e with
 | base p h => cases h' with
   | base _ _ => rfl
   | step _ h' _ _ => exact absurd h' h
 | step p h d t ih => cases h' with
   | base _ h' => exact absurd h h'
   | step _ _ e t' => rw [ih t']
inductive InW (ws : List Place) (b : Nat) : Nat → Prop
 | refl : InW ws b b
 | step (i : Nat) (h : (upW ws i).kind = 2) (t : InW ws b (upW ws i).id.toNat) : InW ws b i
theorem zH {ws : List Place} {i j : Nat} {p : Place} (h : j ≠ i) : upW (ws.set i p) j = upW ws j := by
 unfold upW
 rw [List.getD_eq_getElem?_getD, List.getD_eq_getElem?_getD, List.getElem?_set_ne (Ne.symm h)]
theorem ZN {ws : List Place} {i : Nat} {p : Place} (h : i < ws.length) : upW (ws.set i p) i = p := by
 unfold upW
 rw [List.getD_eq_getElem?_getD, List.getElem?_set_self h]
 rfl
theorem Kx {ws : List Place} {it : Nat} {p : Place} {j d : Nat} (hj : ¬ InW ws it j) (h : Dep ws (upW ws j) d) : Dep (ws.set it p) (upW (ws.set it p) j) d := by
 have hne : j ≠ it := fun e => hj (e ▸ .refl)
 rw [zH hne]
 generalize hq : upW ws j = q at h
 induction h generalizing j with
 | base q h => exact .base q h
 | step q h d t ih =>
   have hin : ¬ InW ws it q.id.toNat := fun e => hj (.step j (by rw [hq]; exact h) (by rw [hq]; exact e))
   have hne' : q.id.toNat ≠ it := fun e => hin (e ▸ .refl)
   refine .step q h d ?_
   rw [zH hne']
   exact ih hin hne' rfl
theorem JH {ws : List Place} {it bx : Nat} {j d d0 db : Nat} (hit : it < ws.length) (hb : ¬ InW ws it bx) (hbx : Dep ws (upW ws bx) db) (h0 : Dep ws (upW ws it) d0) (hj : InW ws it j) (hd : Dep ws (upW ws j) d) :
  d0 ≤ d ∧ Dep (ws.set it ⟨2, (bx : Int)⟩) (upW (ws.set it ⟨2, (bx : Int)⟩) j) (d - d0 + db + 1) := by
 have top : Dep (ws.set it ⟨2, (bx : Int)⟩) (upW (ws.set it ⟨2, (bx : Int)⟩) it) (db + 1) := by
  rw [ZN hit]
  refine .step _ rfl db ?_
  rw [show ((⟨2, (bx : Int)⟩ : Place).id.toNat) = bx from Int.toNat_natCast bx]
  exact Kx hb hbx
 induction hj generalizing d with
 | refl =>
   have := hd.inj h0
   subst this
   exact ⟨Nat.le_refl _, by rw [Nat.sub_self, Nat.zero_add]; exact top⟩
 | step i h t ih =>
   by_cases e : i = it
   ·subst e
    have := hd.inj h0
    subst this
    exact ⟨Nat.le_refl _, by rw [Nat.sub_self, Nat.zero_add]; exact top⟩
   ·cases hd with
    | base _ h' => exact absurd h h'
    | step _ _ d t' =>
      obtain ⟨h1, h2⟩ := ih t'
      refine ⟨by omega, ?_⟩
      rw [zH e, show d + 1 - d0 + db + 1 = (d - d0 + db + 1) + 1 by omega]
      refine .step _ h _ h2
theorem qh2 {ws : List Place} {it bx d0 db H : Nat} (hit : it < ws.length) (hb : ¬ InW ws it bx) (hbx : Dep ws (upW ws bx) db) (h0 : Dep ws (upW ws it) d0)
  (hall : ∀ j, j < ws.length → ∃ d, d ≤ 4 ∧ Dep ws (upW ws j) d)
  (hH : (∀ j d, j < ws.length → InW ws it j → Dep ws (upW ws j) d → d - d0 ≤ H) ∧ ∃ j d, j < ws.length ∧ InW ws it j ∧ Dep ws (upW ws j) d ∧ d - d0 = H) :
  (∃ j d, j < ws.length ∧ Dep (ws.set it ⟨2, (bx : Int)⟩) (upW (ws.set it ⟨2, (bx : Int)⟩) j) d ∧ 4 < d) ↔ 4 < db + 1 + H := by
 constructor
 ·rintro ⟨j, d, hj, hd, h4⟩
  obtain ⟨e, he4, he⟩ := hall j hj
  by_cases hin : InW ws it j
  ·obtain ⟨_, h2⟩ := JH hit hb hbx h0 hin he
   have := hd.inj h2
   have := hH.1 j e hj hin he
   omega
  ·have := hd.inj (Kx hin he)
   omega
 ·intro h
  obtain ⟨j, d, hj, hin, hd, hdd⟩ := hH.2
  obtain ⟨_, h2⟩ := JH hit hb hbx h0 hin hd
  exact ⟨j, _, hj, h2, by omega⟩
def manyW (ws : List Place) (p : Place) : Nat := ws.countP (fun x => decide (x = p))
theorem zI {ws : List Place} {i : Nat} (h : i < ws.length) : upW ws i = ws[i] := by
 unfold upW
 rw [List.getD_eq_getElem?_getD, List.getElem?_eq_getElem h]
 rfl
theorem Q9 (p q : Place) : ∀ (ws : List Place) (i : Nat), i < ws.length → manyW (ws.set i q) p + (if upW ws i = p then 1 else 0) = manyW ws p + (if q = p then 1 else 0)
 | [], i, h => by simp at h
 | a :: r, 0, _ => by
   simp only [List.set_cons_zero, manyW, List.countP_cons, upW, List.getD_cons_zero, decide_eq_true_eq]
   omega
 | a :: r, i + 1, h => by
   have := Q9 p q r i (by simpa using h)
   simp only [List.set_cons_succ, manyW, List.countP_cons, decide_eq_true_eq] at this ⊢
   have e : upW (a :: r) (i + 1) = upW r i := by simp [upW]
   rw [e]
   omega
def mvW (ws : List Place) (l : List Nat) (to : Place) : List Place := l.foldl (fun ws i => ws.set i to) ws
theorem mv_nil (ws : List Place) (to : Place) : mvW ws [] to = ws := rfl
theorem Zl (ws : List Place) (i : Nat) (l : List Nat) (to : Place) : mvW ws (i :: l) to = mvW (ws.set i to) l to := rfl
theorem Mr (to : Place) : ∀ (l : List Nat) (ws : List Place), (mvW ws l to).length = ws.length
 | [], _ => rfl
 | i :: l, ws => by rw [Zl, Mr to l]; simp
theorem Rh (to : Place) : ∀ (l : List Nat) (ws : List Place) (j : Nat), j ∉ l → upW (mvW ws l to) j = upW ws j
 | [], _, _, _ => rfl
 | i :: l, ws, j, h => by
   rw [Zl, Rh to l _ j (fun h' => h (List.mem_cons_of_mem _ h')), zH (fun e : j = i => h (by rw [e]; exact List.mem_cons_self))]
theorem BA (frm to : Place) (hne : frm ≠ to) : ∀ (l : List Nat) (ws : List Place), l.Nodup → (∀ i ∈ l, i < ws.length ∧ upW ws i = frm) →
  manyW (mvW ws l to) frm + l.length = manyW ws frm ∧ manyW (mvW ws l to) to = manyW ws to + l.length ∧ ∀ p, p ≠ frm → p ≠ to → manyW (mvW ws l to) p = manyW ws p
 | [], ws, _, _ => by simp [mv_nil]
 | i :: l, ws, hn, h => by
   obtain ⟨hi, hf⟩ := h i List.mem_cons_self
   rw [List.nodup_cons] at hn
   have ih := BA frm to hne l (ws.set i to) hn.2 (fun k hk => by
    have := h k (List.mem_cons_of_mem _ hk)
    rw [List.length_set, zH (fun e : k = i => hn.1 (by rw [← e]; exact hk))]
    exact this)
   have s1 := Q9 frm to ws i hi
   have s2 := Q9 to to ws i hi
   rw [hf] at s1 s2
   rw [if_pos rfl, if_neg (Ne.symm hne)] at s1
   rw [if_neg hne, if_pos rfl] at s2
   rw [Zl, List.length_cons]
   refine ⟨by omega, by omega, fun p h1 h2 => ?_⟩
   have s3 := Q9 p to ws i hi
   rw [hf, if_neg (Ne.symm h1), if_neg (Ne.symm h2)] at s3
   rw [ih.2.2 p h1 h2]
   omega
end Go.Sx
namespace Go.Sx
open Go
section
variable {W : Type} (n : Nat) (ahead : Nat → Nat → Prop) (ans : Nat → Prop) (stp : W → Nat → W × Bool)
def K4 (o : List Nat) : Prop := o.Nodup ∧ (∀ x ∈ o, x < n) ∧ o.Pairwise (fun a b => ¬ ahead b a) ∧ ∀ c, c < n → ans c → c ∈ o
def gr : W → List Nat → Option W
 | w, [] => some w
 | w, x :: r => if (stp w x).2 = true then gr (stp w x).1 r else none
def QR (w : W) (o : List Nat) : Prop := K4 n ahead ans o ∧ (gr stp w o).isSome = true
def qbw (o : List Nat) (x : Nat) : Prop := x ∈ o ∨ ∃ m, m < n ∧ m ≠ x ∧ ahead m x ∧ m ∉ o
theorem Zb (w : W) (a b : List Nat) : gr stp w (a ++ b) = (gr stp w a).bind fun v => gr stp v b := by
 induction a generalizing w with
 | nil => rfl
 | cons x r ih =>
   simp only [List.cons_append, gr]
   split
   ·exact ih _
   ·rfl
open Classical in
noncomputable def kK : Nat → W → List Nat → Option (List Nat)
 | 0, _, o => if K4 n ahead ans o then some o else none
 | f + 1, w, o => if K4 n ahead ans o then some o else (List.range n).findSome? fun x => if qbw n ahead o x then none else if (stp w x).2 = true then kK f (stp w x).1 (o ++ [x]) else none
theorem JG (w0 : W) : ∀ (f : Nat) (w : W) (o p : List Nat), gr stp w0 o = some w → kK n ahead ans stp f w o = some p → QR n ahead ans stp w0 p
 | 0, w, o, p, hr, h => by
   unfold kK at h
   split at h
   ·rename_i hw
    cases h
    exact ⟨hw, by rw [hr]; rfl⟩
   ·cases h
 | f + 1, w, o, p, hr, h => by
   unfold kK at h
   split at h
   ·rename_i hw
    cases h
    exact ⟨hw, by rw [hr]; rfl⟩
   ·obtain ⟨x, _, hx⟩ := List.exists_of_findSome?_eq_some h
    split at hx
    ·cases hx
    ·split at hx
     ·rename_i hs
      refine JG w0 f _ _ p ?_ hx
      rw [Zb, hr]
      simp [gr, hs]
     ·cases hx
theorem J0 (ha : ∀ m x, ahead m x → ans m) (w0 : W) : ∀ (ext : List Nat) (f : Nat) (w : W) (o : List Nat), ext.length ≤ f → gr stp w0 o = some w → QR n ahead ans stp w0 (o ++ ext) → (kK n ahead ans stp f w o).isSome = true
 | [], f, w, o, _, hr, hg => by
   rw [List.append_nil] at hg
   cases f <;> unfold kK <;> rw [if_pos hg.1] <;> rfl
 | x :: r, 0, _, _, h, _, _ => by simp at h
 | x :: r, f + 1, w, o, hf, hr, hg => by
   unfold kK
   split
   ·rfl
   ·obtain ⟨⟨g1, g2, g3, g4⟩, g5⟩ := hg
    have hx : x ∉ o := fun h => by
     rw [List.nodup_append] at g1
     exact g1.2.2 x h x List.mem_cons_self rfl
    have hl : ¬ qbw n ahead o x := by
     rintro (h | ⟨m, hm, hne, hah, hno⟩)
     ·exact hx h
     ·have hin := g4 m hm (ha m x hah)
      rcases List.mem_append.1 hin with h | h
      ·exact hno h
      ·rcases List.mem_cons.1 h with h | h
       ·exact hne h
       ·have := (List.pairwise_append.1 g3).2.1
        exact (List.pairwise_cons.1 this).1 m h hah
    have hs : (stp w x).2 = true := by
     rw [Zb, hr] at g5
     simp only [Option.bind_some, gr] at g5
     split at g5
     ·assumption
     ·cases g5
    have ih := J0 ha w0 r f (stp w x).1 (o ++ [x]) (by simpa using hf) (by rw [Zb, hr]; simp [gr, hs]) (by
     rw [List.append_assoc]
     exact ⟨⟨g1, g2, g3, g4⟩, g5⟩)
    rw [List.findSome?_isSome_iff]
    refine ⟨x, List.mem_range.2 (g2 x (by simp)), ?_⟩
    rw [if_neg hl, if_pos hs]
    exact ih
def kT (w0 : W) (o : List Nat) : Prop := o.Pairwise (fun a b => ¬ ahead b a) ∧ (gr stp w0 o).isSome = true
open Classical in
noncomputable def Ju (w0 : W) : Nat → List Nat → Bool
 | 0, o => decide (QR n ahead ans stp w0 o)
 | f + 1, o => decide (QR n ahead ans stp w0 o) || (List.range n).any fun x => decide (x ∉ o) && (decide (kT ahead stp w0 (o ++ [x])) && Ju w0 f (o ++ [x]))
open Classical in
theorem YS (w0 : W) : ∀ (f : Nat) (o : List Nat), Ju n ahead ans stp w0 f o = true → ∃ ext, QR n ahead ans stp w0 (o ++ ext)
 | 0, o, h => ⟨[], by unfold Ju at h; rw [List.append_nil]; exact of_decide_eq_true h⟩
 | f + 1, o, h => by
   unfold Ju at h
   rcases Bool.or_eq_true_iff.1 h with h | h
   ·exact ⟨[], by rw [List.append_nil]; exact of_decide_eq_true h⟩
   ·obtain ⟨x, _, hx⟩ := List.any_eq_true.1 h
    rw [Bool.and_eq_true, Bool.and_eq_true] at hx
    obtain ⟨ext, he⟩ := YS w0 f (o ++ [x]) hx.2.2
    exact ⟨x :: ext, by rw [List.append_assoc] at he; exact he⟩
open Classical in
theorem ZD (w0 : W) : ∀ (ext : List Nat) (f : Nat) (o : List Nat), ext.length ≤ f → QR n ahead ans stp w0 (o ++ ext) → Ju n ahead ans stp w0 f o = true
 | [], f, o, _, hg => by
   rw [List.append_nil] at hg
   cases f <;> unfold Ju
   ·exact decide_eq_true hg
   ·rw [decide_eq_true hg, Bool.true_or]
 | x :: r, 0, _, h, _ => by simp at h
 | x :: r, f + 1, o, hf, hg => by
   unfold Ju
   rw [Bool.or_eq_true]
   refine .inr (List.any_eq_true.2 ⟨x, List.mem_range.2 (hg.1.2.1 x (by simp)), ?_⟩)
   have hx : x ∉ o := fun h => by
    have g1 := hg.1.1
    rw [List.nodup_append] at g1
    exact g1.2.2 x h x List.mem_cons_self rfl
   have e : o ++ x :: r = (o ++ [x]) ++ r := by simp
   rw [e] at hg
   have hb : kT ahead stp w0 (o ++ [x]) := ⟨(List.pairwise_append.1 hg.1.2.2.1).1, by
    have := hg.2
    rw [Zb] at this
    cases h : gr stp w0 (o ++ [x]) with
    | none => rw [h] at this; cases this
    | some v => rfl⟩
   rw [ZD w0 r f (o ++ [x]) (by simpa using hf) hg]
   simp [hx, hb]
theorem gx : ∀ (n : Nat) (o : List Nat), o.Nodup → (∀ x ∈ o, x < n) → o.length ≤ n := fun n o h1 h2 => by
 have := h1.length_le_of_subset (l₂ := List.range n) (fun x hx => List.mem_range.2 (h2 x hx))
 simpa using this
open Classical in
theorem qhq (ha : ∀ m x, ahead m x → ans m) (w0 : W) (f g : Nat) (hf : n ≤ f) (hg : n ≤ g) : (kK n ahead ans stp f w0 []).isSome = Ju n ahead ans stp w0 g [] := by
 rw [Bool.eq_iff_iff]
 constructor
 ·intro h
  obtain ⟨p, hp⟩ := Option.isSome_iff_exists.1 h
  have := JG n ahead ans stp w0 f w0 [] p rfl hp
  exact ZD n ahead ans stp w0 p g [] (Nat.le_trans (gx n p this.1.1 this.1.2.1) hg) this
 ·intro h
  obtain ⟨p, hp⟩ := YS n ahead ans stp w0 g [] h
  exact J0 n ahead ans stp ha w0 p f w0 [] (Nat.le_trans (gx n p hp.1.1 hp.1.2.1) hf) rfl hp
theorem Qb {β : Type} (g : Nat → Option β) (k : Nat) : ∀ l : List Nat, k ∈ l → (∀ x ∈ l, x ≠ k → g x = none) → l.findSome? g = g k
 | [], h, _ => by simp at h
 | a :: r, h, hn => by
   rw [List.findSome?_cons]
   by_cases e : a = k
   ·subst e
    cases hg : g a with
    | some b => rfl
    | none =>
      simp only
      by_cases hr : a ∈ r
      ·rw [Qb g a r hr fun x hx => hn x (List.mem_cons_of_mem _ hx), hg]
      ·rw [List.findSome?_eq_none_iff]
       intro x hx
       exact hn x (List.mem_cons_of_mem _ hx) (fun e => hr (e ▸ hx))
   ·rw [hn a List.mem_cons_self e]
    simp only
    refine Qb g k r ?_ fun x hx => hn x (List.mem_cons_of_mem _ hx)
    rcases List.mem_cons.1 h with h | h
    ·exact absurd h.symm e
    ·exact h
theorem Y7 (hah : ∀ m x, m < n → x < n → (ahead m x ↔ m < x)) (hans : ∀ c, c < n → ans c) : ∀ (d f k : Nat) (w : W), k + d = n → d ≤ f →
  kK n ahead ans stp f w (List.range k) = (gr stp w (List.range' k d)).map fun _ => List.range n
 | 0, f, k, w, hk, _ => by
   have hk : k = n := by omega
   subst hk
   have hw : K4 k ahead ans (List.range k) := ⟨List.nodup_range, fun x hx => List.mem_range.1 hx, by
    rw [List.pairwise_iff_getElem]
    intro i j hi hj hij
    simp only [List.length_range] at hi hj
    simp only [List.getElem_range]
    rw [hah j i hj hi]
    omega, fun c hc _ => List.mem_range.2 hc⟩
   cases f <;> unfold kK <;> rw [if_pos hw] <;> rfl
 | d + 1, 0, _, _, _, h => by omega
 | d + 1, f + 1, k, w, hk, hf => by
   have hkn : k < n := by omega
   unfold kK
   rw [if_neg (fun h => by
    have := h.2.2.2 k hkn (hans k hkn)
    simp at this)]
   rw [Qb _ k _ (List.mem_range.2 hkn) (fun x hx hne => by
    rw [if_pos]
    by_cases hl : x < k
    ·exact .inl (List.mem_range.2 hl)
    ·exact .inr ⟨k, hkn, fun e => hne e.symm, (hah k x hkn (List.mem_range.1 hx)).2 (by omega), by simp⟩)]
   rw [if_neg (by
    rintro (h | ⟨m, hm, hne, ha, hno⟩)
    ·simp at h
    ·have := (hah m k hm hkn).1 ha
     exact hno (List.mem_range.2 this))]
   rw [List.range'_succ, gr]
   by_cases hs : (stp w k).2 = true
   ·rw [if_pos hs, if_pos hs, ← List.range_succ]
    exact Y7 hah hans d f (k + 1) _ (by omega) (by omega)
   ·rw [if_neg hs, if_neg hs]
    rfl
end
end Go.Sx
namespace Go.Sx
open Go
def okV : Kd → Value → Bool
 | .int k, .int k' _ => decide (k' = k)
 | .bool, .bool _ => true
 | .str, .string _ => true
 | _, _ => false
def kn : List Kd → List Value → Bool
 | [], [] => true
 | k :: ks, v :: vs => okV k v && kn ks vs
 | _, _ => false
def veq : Value → Value → Bool
 | .int _ a, .int _ b => a == b
 | .bool a, .bool b => a == b
 | .string a, .string b => a.toList == b.toList
 | _, _ => false
def gk : List Value → List Value → Bool
 | x :: xs, y :: ys => veq x y && gk xs ys
 | _, _ => true
def eqfs (E : TypeId → Option (List Kd)) (P : Program) : List Field → Nat → Option (List Kd)
 | [], _ => some []
 | f :: fs, off => bif (f.name != "_") && Nat.beq f.offset off then (E f.type).bind fun ks => bif Nat.beq (P.cellsOf f.type) ks.length then (eqfs E P fs (off + ks.length)).bind fun r => some (ks ++ r) else none else none
def eqk (P : Program) : Nat → TypeId → Option (List Kd)
 | 0, _ => none
 | n + 1, t => bif (P.info? t).isSome then (match P.underlying t with
   | some (.int k) => some [.int k]
   | some .bool => some [.bool]
   | some .string => some [.str]
   | some (.struct fs) => bif P.stoodInHeld t then none else eqfs (eqk P n) P fs.toList 0
   | some (.array m e) => (eqk P n e).bind fun ks => bif Nat.beq (P.cellsOf e) ks.length then some (List.replicate m ks).flatten else none
   | _ => none) else none
def vE (P : Program) (t : TypeId) (xs : List Value) : Value :=
 match P.underlying t with
 | some (.struct _) => .agg xs.toArray
 | some (.array _ _) => .agg xs.toArray
 | _ => xs.headD undef
theorem zh : ∀ {ks : List Kd} {xs : List Value}, kn ks xs = true → xs.length = ks.length
 | [], [], _ => rfl
 | k :: ks, v :: vs, h => by
   simp only [kn, Bool.and_eq_true] at h
   simp [zh h.2]
 | [], _ :: _, h => by simp [kn] at h
 | _ :: _, [], h => by simp [kn] at h
theorem vk : ∀ {k1 k2 : List Kd} {xs : List Value}, kn (k1 ++ k2) xs = true → kn k1 (xs.take k1.length) = true ∧ kn k2 (xs.drop k1.length) = true
 | [], k2, xs, h => by simpa [kn] using h
 | k :: k1, k2, [], h => by simp [kn] at h
 | k :: k1, k2, x :: xs, h => by
   simp only [List.cons_append, kn, Bool.and_eq_true] at h
   obtain ⟨h1, h2⟩ := vk h.2
   simp only [List.length_cons, List.take_succ_cons, List.drop_succ_cons, kn, Bool.and_eq_true]
   exact ⟨⟨h.1, h1⟩, h2⟩
theorem VN (m : Nat) : ∀ (xs ys : List Value), xs.length = ys.length → gk xs ys = (gk (xs.take m) (ys.take m) && gk (xs.drop m) (ys.drop m)) := by
 induction m with
 | zero => intro xs ys _; simp [gk]
 | succ m ih =>
   intro xs ys h
   match xs, ys, h with
   | [], [], _ => simp [gk]
   | x :: xs, y :: ys, h =>
     simp only [List.take_succ_cons, List.drop_succ_cons, gk]
     rw [ih xs ys (by simpa using h), Bool.and_assoc]
   | [], _ :: _, h => simp at h
   | _ :: _, [], h => simp at h
theorem Ud {P : Program} {n : Nat} {t : TypeId} {ks : List Kd} (h : eqk P n t = some ks) : ∃ i, P.info? t = some i := by
 cases n with
 | zero => cases h
 | succ n =>
   unfold eqk at h
   cases hi : P.info? t with
   | none => rw [hi] at h; cases h
   | some i => exact ⟨i, rfl⟩
theorem vC {P : Program} {n : Nat} {e : TypeId} {ks : List Kd} (hk : eqk P n e = some ks) (hc : P.cellsOf e = ks.length) {xs : List Value} {off : Nat} (hok : kn ks ((xs.drop off).take ks.length) = true) (w : GW) :
  (part e xs.toArray off).run P w = .ok (vE P e ((xs.drop off).take ks.length)) w := by
 obtain ⟨i, hi⟩ := Ud hk
 have hlen := zh hok
 cases n with
 | zero => cases hk
 | succ n =>
   unfold eqk at hk
   rw [hi] at hk
   simp only [Option.isSome_some, cond_true] at hk
   have leaf : ∀ k, ks = [k] → (∀ d, P.underlying e = some d → (match d with | .struct _ => False | .array _ _ => False | _ => True)) → (∃ d, P.underlying e = some d) → (part e xs.toArray off).run P w = .ok (vE P e ((xs.drop off).take ks.length)) w := by
    intro k hk1 hna ⟨d, hd⟩
    subst hk1
    simp only [List.length_singleton, List.length_take, List.length_drop] at hlen
    have hlt : off < xs.length := by omega
    have hp := hna d hd
    have e1 : (xs.drop off).take [k].length = [xs[off]] := by
     rw [List.drop_eq_getElem_cons hlt]; rfl
    rw [e1]
    unfold vE
    rw [hd]
    cases d <;> simp at hp <;> simp [part, isAgg, run_underlying hd, hlt]
   have agg : (∃ d, P.underlying e = some d ∧ (match d with | .struct _ => True | .array _ _ => True | _ => False)) → (part e xs.toArray off).run P w = .ok (vE P e ((xs.drop off).take ks.length)) w := by
    rintro ⟨d, hd, hp⟩
    have e1 : xs.toArray.extract off (off + ks.length) = ((xs.drop off).take ks.length).toArray := by
     apply Array.ext'
     simp [List.take_drop]
    unfold vE
    rw [hd]
    cases d <;> simp at hp <;> simp [part, isAgg, run_underlying hd, run_sizeOf _ hi, hc, e1]
   split at hk
   ·rename_i k hu; cases hk; exact leaf _ rfl (fun d hd => by rw [hu] at hd; cases hd; trivial) ⟨_, hu⟩
   ·rename_i hu; cases hk; exact leaf _ rfl (fun d hd => by rw [hu] at hd; cases hd; trivial) ⟨_, hu⟩
   ·rename_i hu; cases hk; exact leaf _ rfl (fun d hd => by rw [hu] at hd; cases hd; trivial) ⟨_, hu⟩
   ·rename_i fs hu; exact agg ⟨_, hu, trivial⟩
   ·rename_i m e' hu; exact agg ⟨_, hu, trivial⟩
   ·cases hk
def EqIn (P : Program) (n : Nat) : Prop := ∀ (t : TypeId) (ks : List Kd), eqk P n t = some ks → ∀ d, n ≤ d → ∀ (w : GW) (xs ys : List Value), kn ks xs = true → kn ks ys = true → (Op.equalIn d t (vE P t xs) (vE P t ys)).run P w = .ok (gk xs ys) w
theorem YA {P : Program} {n : Nat} (ih : EqIn P n) {d : Nat} (hd : n ≤ d) (w : GW) {xs ys : List Value} : ∀ (fs : List Field) (off : Nat) (ks : List Kd), eqfs (eqk P n) P fs off = some ks → kn ks (xs.drop off) = true → kn ks (ys.drop off) = true →
  (Op.eqFields d xs.toArray ys.toArray fs).run P w = .ok (gk (xs.drop off) (ys.drop off)) w
 | [], off, ks, h, hx, hy => by
   cases h
   have h1 := zh hx
   have h2 := zh hy
   have e1 : xs.drop off = [] := List.eq_nil_of_length_eq_zero h1
   have e2 : ys.drop off = [] := List.eq_nil_of_length_eq_zero h2
   rw [e1, e2]
   simp [Op.eqFields, gk]
 | f :: fs, off, ks, h, hx, hy => by
   unfold eqfs at h
   replace h := qq h
   obtain ⟨hb, h⟩ := h
   simp only [Bool.and_eq_true] at hb
   obtain ⟨hb1, hb2⟩ := hb
   have hoff := Nat.eq_of_beq_eq_true hb2
   obtain ⟨k1, hk1, h⟩ := Option.bind_eq_some_iff.1 h
   replace h := qq h
   obtain ⟨hc, h⟩ := h
   have hc := Nat.eq_of_beq_eq_true hc
   obtain ⟨k2, hk2, h⟩ := Option.bind_eq_some_iff.1 h
   cases h
   obtain ⟨x1, x2⟩ := vk hx
   obtain ⟨y1, y2⟩ := vk hy
   rw [List.drop_drop] at x2 y2
   have hr := YA ih hd w fs (off + k1.length) k2 hk2 x2 y2
   have hlen : (xs.drop off).length = (ys.drop off).length := by rw [zh hx, zh hy]
   have hname : f.name ≠ "_" := by simpa using hb1
   simp only [Op.eqFields, hname, ne_eq, not_false_eq_true, if_true, Sem.run_bind]
   rw [hoff, vC hk1 hc x1 w]
   simp only [Result.andThen_ok]
   rw [vC hk1 hc y1 w]
   simp only [Result.andThen_ok]
   rw [ih f.type k1 hk1 d hd w _ _ x1 y1]
   simp only [Result.andThen_ok]
   rw [VN k1.length _ _ hlen, List.drop_drop, List.drop_drop]
   cases gk ((xs.drop off).take k1.length) ((ys.drop off).take k1.length) with
   | false => simp
   | true => simp; exact hr
theorem R4 {P : Program} {n : Nat} (ih : EqIn P n) {d : Nat} (hd : n ≤ d) (w : GW) {xs ys : List Value} {e : TypeId} {k : List Kd} (hk : eqk P n e = some k) (hc : P.cellsOf e = k.length) : ∀ (m q : Nat), kn (List.replicate m k).flatten (xs.drop (q * k.length)) = true → kn (List.replicate m k).flatten (ys.drop (q * k.length)) = true →
  (Op.eqItems d e (P.cellsOf e) xs.toArray ys.toArray (List.range' q m)).run P w = .ok (gk (xs.drop (q * k.length)) (ys.drop (q * k.length))) w
 | 0, q, hx, hy => by
   have h1 := zh hx
   have h2 := zh hy
   simp only [List.replicate_zero, List.flatten_nil, List.length_nil] at h1 h2
   have e1 : xs.drop (q * k.length) = [] := List.eq_nil_of_length_eq_zero h1
   have e2 : ys.drop (q * k.length) = [] := List.eq_nil_of_length_eq_zero h2
   rw [e1, e2]
   simp [Op.eqItems, gk]
 | m + 1, q, hx, hy => by
   rw [List.replicate_succ, List.flatten_cons] at hx hy
   have hlen : (xs.drop (q * k.length)).length = (ys.drop (q * k.length)).length := by rw [zh hx, zh hy]
   obtain ⟨x1, x2⟩ := vk hx
   obtain ⟨y1, y2⟩ := vk hy
   rw [List.drop_drop] at x2 y2
   have e1 : q * k.length + k.length = (q + 1) * k.length := by rw [Nat.add_mul]; omega
   rw [e1] at x2 y2
   have hr := R4 ih hd w hk hc m (q + 1) x2 y2
   rw [List.range'_succ]
   simp only [Op.eqItems, Sem.run_bind]
   rw [hc, vC hk hc x1 w]
   simp only [Result.andThen_ok]
   rw [vC hk hc y1 w]
   simp only [Result.andThen_ok]
   rw [ih e k hk d hd w _ _ x1 y1]
   simp only [Result.andThen_ok]
   rw [VN k.length _ _ hlen, List.drop_drop, List.drop_drop, e1]
   rw [hc] at hr
   cases gk ((xs.drop (q * k.length)).take k.length) ((ys.drop (q * k.length)).take k.length) with
   | false => simp
   | true => simp; exact hr
theorem qhx (P : Program) : ∀ n, EqIn P n
 | 0 => fun t ks h => by cases h
 | n + 1 => by
   intro t ks h d hd w xs ys hx hy
   obtain ⟨i, hi⟩ := Ud h
   obtain ⟨d, rfl⟩ : ∃ d', d = d' + 1 := ⟨d - 1, by omega⟩
   unfold eqk at h
   rw [hi] at h
   simp only [Option.isSome_some, cond_true] at h
   have one : ∀ {k : Kd} {zs : List Value}, kn [k] zs = true → ∃ v, zs = [v] ∧ okV k v = true := by
    intro k zs hz
    match zs, hz with
    | [v], hz => exact ⟨v, rfl, by simpa [kn] using hz⟩
    | [], hz => simp [kn] at hz
    | _ :: _ :: _, hz => simp [kn] at hz
   split at h
   ·rename_i k hu
    cases h
    obtain ⟨v, rfl, hv⟩ := one hx
    obtain ⟨u, rfl, hv'⟩ := one hy
    cases v <;> simp [okV] at hv
    cases u <;> simp [okV] at hv'
    subst hv hv'
    unfold vE
    rw [hu]
    simp only [List.headD_cons]
    rw [run_equalIn_int w d t _ _ _ _ hu]
    simp [gk, veq]
   ·rename_i hu
    cases h
    obtain ⟨v, rfl, hv⟩ := one hx
    obtain ⟨u, rfl, hv'⟩ := one hy
    cases v <;> simp [okV] at hv
    cases u <;> simp [okV] at hv'
    unfold vE
    rw [hu]
    simp only [List.headD_cons]
    rw [run_equalIn_bool' w d t _ _ hu]
    simp [gk, veq]
   ·rename_i hu
    cases h
    obtain ⟨v, rfl, hv⟩ := one hx
    obtain ⟨u, rfl, hv'⟩ := one hy
    cases v <;> simp [okV] at hv
    cases u <;> simp [okV] at hv'
    unfold vE
    rw [hu]
    simp only [List.headD_cons]
    rw [run_equalIn_string w d t _ _ hu]
    simp [gk, veq]
   ·rename_i fs hu
    obtain ⟨hp, h⟩ : P.stoodInHeld t = false ∧ eqfs (eqk P n) P fs.toList 0 = some ks := by
     cases hs : P.stoodInHeld t with
     | true => rw [hs] at h; cases h
     | false => rw [hs] at h; exact ⟨rfl, h⟩
    have hf : P.fieldsOf t = fs := by unfold Program.fieldsOf; rw [hu]
    unfold vE
    rw [hu]
    simp only
    rw [run_equalIn_struct w d t _ _ (by rw [hf]; exact hu) hp, hf]
    have := YA (qhx P n) (d := d) (by omega) w (xs := xs) (ys := ys) fs.toList 0 ks h (by simpa using hx) (by simpa using hy)
    simpa using this
   ·rename_i m e hu
    obtain ⟨k, hk, h⟩ := Option.bind_eq_some_iff.1 h
    replace h := qq h
    obtain ⟨hc, h⟩ := h
    cases h
    have hc := Nat.eq_of_beq_eq_true hc
    obtain ⟨ie, hie⟩ := Ud hk
    unfold vE
    rw [hu]
    simp only
    rw [run_equalIn_array w d _ _ hu hie, List.range_eq_range']
    have := R4 (qhx P n) (d := d) (by omega) w (xs := xs) (ys := ys) hk hc m 0 (by simpa using hx) (by simpa using hy)
    simpa using this
   ·cases h
theorem qer {b c : Bool} (h : (bif b then c else false) = true) : b = true ∧ c = true := by cases b <;> simp_all
theorem B3 : ∀ {ks : List Kd} {cs : List AV} {xs : List Value}, Vg ks cs = true → cs.map AV.val = xs.map some → kn ks xs = true
 | [], [], xs, _, hv => by
   have : xs = [] := by simpa using hv.symm
   subst this; rfl
 | k :: ks, v :: vs, [], h, hv => by simp at hv
 | k :: ks, v :: vs, x :: xs, h, hv => by
   simp only [List.map_cons, List.cons.injEq] at hv
   have step : okV k x = true → Vg ks vs = true → kn (k :: ks) (x :: xs) = true := fun h1 h2 => by
    simp only [kn, Bool.and_eq_true]
    exact ⟨h1, B3 h2 hv.2⟩
   cases k <;> cases v <;> simp only [Vg, Bool.false_eq_true] at h
   ·replace h := qer h
    obtain ⟨hk, h⟩ := h
    have e := hv.1
    simp only [AV.val, Option.some.injEq] at e
    subst e
    exact step hk h
   ·have e := hv.1
    simp only [AV.val, Option.some.injEq] at e
    subst e
    exact step rfl h
   ·have e := hv.1
    simp only [AV.val, Option.some.injEq] at e
    subst e
    exact step rfl h
 | [], _ :: _, _, h, _ => by simp [Vg] at h
 | k :: _, [], _, h, _ => by cases k <;> simp [Vg] at h
theorem Ul {a b : AV} {c : Bool} {x y : Value} (h : QK a b = some c) (hx : a.val = some x) (hy : b.val = some y) : c = veq x y := by
 unfold QK at h
 split at h
 ·split at h
  ·cases h; cases hx; cases hy; rfl
  ·cases h
 ·cases h; cases hx; cases hy; rfl
 ·rename_i s s'
  cases h; cases hx; cases hy
  simp only [veq, seq, ByteArray.toList_eq]
  by_cases e : s = s' <;> simp [e]
 ·cases h
theorem Z8 : ∀ {cs ds : List AV} {b : Bool} {xs ys : List Value}, jy cs ds = some b → cs.map AV.val = xs.map some → ds.map AV.val = ys.map some → b = gk xs ys
 | [], [], b, xs, ys, h, hx, hy => by
   have e1 : xs = [] := by simpa using hx.symm
   have e2 : ys = [] := by simpa using hy.symm
   subst e1 e2
   simp [jy] at h
   subst h; rfl
 | [a], [c], b, [x], [y], h, hx, hy => by
   simp only [List.map_cons, List.map_nil, List.cons.injEq, and_true] at hx hy
   have := Ul (show QK a c = some b from h) hx hy
   simp [gk, this]
 | a :: a' :: r, c :: s, b, x :: xs, y :: ys, h, hx, hy => by
   simp only [jy, Option.bind_eq_some_iff, Option.some.injEq] at h
   obtain ⟨p, hp, q, hq, rfl⟩ := h
   rw [List.map_cons, List.map_cons] at hx hy
   have h1 := Ul hp (List.cons.inj hx).1 (List.cons.inj hy).1
   have h2 := Z8 hq (List.cons.inj hx).2 (List.cons.inj hy).2
   simp [gk, band, h1, h2]
 | [a], c :: c' :: s, b, _, _, h, _, _ => by
   simp only [jy, Option.bind_eq_some_iff] at h
   obtain ⟨_, _, _, hy, _⟩ := h
   simp [jy] at hy
 | [], _ :: _, _, _, _, h, _, _ => by simp [jy] at h
 | _ :: _, [], _, _, _, h, _, _ => by simp [jy] at h
 | [a], [c], _, [], _, _, hx, _ => by simp at hx
 | [a], [c], _, _ :: _ :: _, _, _, hx, _ => by simp at hx
 | [a], [c], _, [x], [], _, _, hy => by simp at hy
 | [a], [c], _, [x], _ :: _ :: _, _, _, hy => by simp at hy
 | _ :: _ :: _, _ :: _, _, [], _, _, hx, _ => by simp at hx
 | _ :: _ :: _, _ :: _, _, _ :: _, [], _, _, hy => by simp at hy
def qg6 (P : Program) (t : TypeId) : Bool := match P.underlying t with
 | some (.struct _) => true
 | some (.array _ _) => true
 | _ => false
theorem kV {P : Program} {t : TypeId} {ks : List Kd} (hk : eqk P 9 t = some ks) (ha : qg6 P t = true) (hg : P.eqGuardType P.depth t = false) : EqFact P t ks := by
 intro w cs ds xs ys b hb h1 h2 hx hy
 have hxs := B3 h1 hx
 have hys := B3 h2 hy
 refine ⟨?_, fun op x y => run_eqGuard_agg w op t x y _ _ hg⟩
 have := qhx P 9 t ks hk 10000 (by omega) w xs ys hxs hys
 rw [Z8 hb hx hy]
 have e : ∀ zs : List Value, vE P t zs = .agg zs.toArray := by
  intro zs
  unfold qg6 at ha
  unfold vE
  split at ha <;> first | rfl | (cases ha)
 rw [e, e] at this
 exact this
end Go.Sx
