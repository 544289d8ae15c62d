/-
  SX: a symbolic evaluator over the model and its soundness: part 3 of 4.
-/
import Derived.Test.YtcpabdpbldmmmaaGreatDoorSxBaseB
import Derived.OrdersHeld
import Derived.LoopN
import Derived.SizedLaws
import Derived.ChangeArms
set_option linter.unusedVariables false
set_option linter.unusedSimpArgs false
namespace Go.Sx
open Go
open Go.RowKit (Below)
variable {P : Program} {E : Env} {base : Nat} {w0 : GW} {ok : Nat → Prop} {en : Ent} {G G' : Gam} {s : St} {a : Act} {w w' : GW} {R : Type} {M : Mem}
theorem qdr (hctr : (∀ f c, look E.ctr f = some c → ∀ (R : Type) (args : List AV) (k : AV → Option R), c.run args k = (c.run args some).bind k) ∧ ∀ f c, look E.own f = some c → ∀ (R : Type) (args : List AV) (k : AV → Option R), c.run args k = (c.run args some).bind k) (n0 : Nat) (ev : Operand → AV) (M : Mem) (slot : Nat) (o : Oper) (k : AV → Option Blk → Option R) :
  Zx E n0 ev M slot o k = (Zx E n0 ev M slot o fun v b => some (v, b)).bind fun p => k p.1 p.2 := by
 unfold Zx
 split
 ·rfl
 ·cases jP o with
  | false => rfl
  | true =>
    simp only [cond_true]
    split
    ·rfl
    ·split
     ·split
      ·rename_i kk b kk' n _ _ _
       cases (decide (kk' = kk) && (Nat.ble n0 b && oneA (ev _))) with
       | false => rfl
       | true =>
         simp only [cond_true]
         cases Vj (M[b]?) <;> rfl
      ·rfl
     ·rfl
 ·rw [YI hctr (k := fun v b => bif Vj b then none else k v b), YI hctr (k := fun v b => bif Vj b then none else some (v, b))]
  cases zu E ev M slot o (fun v b => some (v, b)) with
  | none => rfl
  | some p =>
    simp only [Option.bind_some]
    cases Vj p.2 <;> rfl
def PR (D : Nat → Prop) (σ : Nat → SB) (w : GW) : List (AV × AV) → List MapEntry → Prop
 | [], [] => True
 | p :: r, e :: l => (VR D σ w p.1 e.key ∧ VR D σ w p.2 e.val) ∧ PR D σ w r l
 | _, _ => False
theorem PR.grow {D D' : Nat → Prop} {σ σ' : Nat → SB} (h : ∀ c, D c → D' c ∧ w'.heap[c]? = w.heap[c]?) (hσ : ∀ b, σ b ≠ .none → σ' b = σ b) : ∀ {r : List (AV × AV)} {l : List MapEntry}, PR D σ w r l → PR D' σ' w' r l
 | [], [], _ => trivial
 | p :: r, e :: l, ⟨⟨h1, h2⟩, h3⟩ => ⟨⟨h1.grow h hσ, h2.grow h hσ⟩, h3.grow h hσ⟩
 | [], _ :: _, hp => hp.elim
 | _ :: _, [], hp => hp.elim
theorem PR.split {D : Nat → Prop} {σ : Nat → SB} : ∀ {A B : List (AV × AV)} {l : List MapEntry}, PR D σ w (A ++ B) l → ∃ la lb, l = la ++ lb ∧ PR D σ w A la ∧ PR D σ w B lb
 | [], B, l, h => ⟨[], l, rfl, trivial, h⟩
 | p :: A, B, e :: l, ⟨h1, h2⟩ => by
   obtain ⟨la, lb, rfl, h3, h4⟩ := PR.split h2
   exact ⟨e :: la, lb, rfl, ⟨h1, h3⟩, h4⟩
 | _ :: _, _, [], h => h.elim
theorem PR.join {D : Nat → Prop} {σ : Nat → SB} : ∀ {A B : List (AV × AV)} {la lb : List MapEntry}, PR D σ w A la → PR D σ w B lb → PR D σ w (A ++ B) (la ++ lb)
 | [], _, [], _, _, h => h
 | p :: A, _, e :: l, _, ⟨h1, h2⟩, h => ⟨h1, h2.join h⟩
 | [], _, _ :: _, _, h, _ => h.elim
 | _ :: _, _, [], _, h, _ => h.elim
theorem PR.get {D : Nat → Prop} {σ : Nat → SB} : ∀ {r : List (AV × AV)} {l : List MapEntry}, PR D σ w r l → l.length = r.length ∧ ∀ i (h : i < r.length) (h' : i < l.length), VR D σ w r[i].1 l[i].key ∧ VR D σ w r[i].2 l[i].val
 | [], [], _ => ⟨rfl, fun i h => by simp at h⟩
 | p :: r, e :: l, ⟨h1, h2⟩ => by
   obtain ⟨h3, h4⟩ := h2.get
   refine ⟨by simp [h3], fun i h h' => ?_⟩
   cases i with
   | zero => exact h1
   | succ i => exact h4 i (by simpa using h) (by simpa using h')
 | [], _ :: _, hp => hp.elim
 | _ :: _, [], hp => hp.elim
theorem PR.mem {D : Nat → Prop} {σ : Nat → SB} {r : List (AV × AV)} {l : List MapEntry} (h : PR D σ w r l) {e : MapEntry} (he : e ∈ l) : ∃ p ∈ r, VR D σ w p.1 e.key ∧ VR D σ w p.2 e.val := by
 obtain ⟨h1, h2⟩ := h.get
 obtain ⟨i, hi, rfl⟩ := List.mem_iff_getElem.1 he
 exact ⟨r[i]'(by omega), List.getElem_mem _, h2 i (by omega) hi⟩
noncomputable def insS (T : List AV) (b : Nat) (S : Nat → Bool) : Nat → List Oper → List (AV × AV)
 | _, [] => []
 | i, o :: r => (match insAt T b o with | some p => bif S i then [p] else [] | none => []) ++ insS T b S (i + 1) r
theorem R6 (T : List AV) (b : Nat) {S : Nat → Bool} : ∀ (l : List Oper) (i : Nat), (∀ q, q < l.length → S (i + q) = true) → insS T b S i l = Qt T b l
 | [], _, _ => rfl
 | o :: r, i, h => by
   have ih := R6 T b (S := S) r (i + 1) fun q hq => by rw [show i + 1 + q = i + (q + 1) by omega]; exact h (q + 1) (by simpa using hq)
   have h0 : S i = true := h 0 (by simp)
   simp only [insS, ih, h0]
   unfold Qt
   rw [List.filterMap_cons]
   cases insAt T b o <;> rfl
theorem g8 (T : List AV) (b : Nat) {S S' : Nat → Bool} : ∀ (l : List Oper) (i : Nat), (∀ q (h : q < l.length) p, insAt T b l[q] = some p → S (i + q) = S' (i + q)) → insS T b S i l = insS T b S' i l
 | [], _, _ => rfl
 | o :: r, i, h => by
   have ih := g8 T b (S := S) (S' := S') r (i + 1) fun q hq p hp => by
    have := h (q + 1) (by simpa using hq) p (by simpa using hp)
    rw [show i + 1 + q = i + (q + 1) by omega]
    exact this
   simp only [insS, ih]
   cases hp : insAt T b o with
   | none => rfl
   | some p => simp only [show S i = S' i from h 0 (by simp) p hp]
theorem Yz (T : List AV) (b : Nat) {S : Nat → Bool} : ∀ (l : List Oper) (i : Nat), (∀ q (h : q < l.length) p, insAt T b l[q] = some p → S (i + q) = false) → insS T b S i l = []
 | [], _, _ => rfl
 | o :: r, i, h => by
   have ih := Yz T b (S := S) r (i + 1) fun q hq p hp => by
    have := h (q + 1) (by simpa using hq) p (by simpa using hp)
    rw [show i + 1 + q = i + (q + 1) by omega]
    exact this
   simp only [insS, ih]
   cases hp : insAt T b o with
   | none => rfl
   | some p => simp only [show S i = false from h 0 (by simp) p hp]; rfl
theorem R7 (T : List AV) (b : Nat) {S S' : Nat → Bool} : ∀ (l : List Oper) (i q : Nat) (hq : q < l.length) (p : AV × AV), insAt T b l[q] = some p → S (i + q) = false → S' (i + q) = true → (∀ j, j ≠ i + q → S' j = S j) →
  ∃ A B, insS T b S i l = A ++ B ∧ insS T b S' i l = A ++ p :: B
 | [], _, q, hq, _, _, _, _, _ => by simp at hq
 | o :: r, i, 0, _, p, hp, h0, h1, h2 => by
   have ih := g8 T b (S := S') (S' := S) r (i + 1) fun q hq _ _ => h2 _ (by omega)
   have e0 : insAt T b o = some p := hp
   have e1 : S i = false := h0
   have e2 : S' i = true := h1
   exact ⟨[], insS T b S (i + 1) r, by simp only [insS, e0, e1]; rfl, by simp only [insS, e0, e2, ih]; rfl⟩
 | o :: r, i, q + 1, hq, p, hp, h0, h1, h2 => by
   obtain ⟨A, B, e1, e2⟩ := R7 T b (S := S) (S' := S') r (i + 1) q (by simpa using hq) p (by simpa using hp) (by rw [show i + 1 + q = i + (q + 1) by omega]; exact h0) (by rw [show i + 1 + q = i + (q + 1) by omega]; exact h1) (fun j hj => h2 j (by omega))
   refine ⟨(match insAt T b o with | some p => bif S i then [p] else [] | none => []) ++ A, B, ?_, ?_⟩
   ·simp only [insS, e1, List.append_assoc]
   ·simp only [insS, e2, h2 i (by omega), List.append_assoc]
theorem R5 {T : List AV} {b : Nat} {S : Nat → Bool} : ∀ {l : List Oper} {i : Nat} {p : AV × AV}, p ∈ insS T b S i l → ∃ q, ∃ h : q < l.length, S (i + q) = true ∧ insAt T b l[q] = some p
 | [], _, _, h => by simp [insS] at h
 | o :: r, i, p, h => by
   unfold insS at h
   rcases List.mem_append.1 h with h | h
   ·cases hp : insAt T b o with
    | none => rw [hp] at h; simp at h
    | some p' =>
      rw [hp] at h
      cases hS : S i with
      | false => rw [hS] at h; simp at h
      | true =>
        rw [hS] at h
        simp at h
        subst h
        exact ⟨0, by simp, hS, hp⟩
   ·obtain ⟨q, hq, h1, h2⟩ := R5 h
    exact ⟨q + 1, by simpa using hq, by rw [show i + (q + 1) = i + 1 + q by omega]; exact h1, by simpa using h2⟩
theorem g9 {T : List AV} {b : Nat} {o : Oper} {p : AV × AV} (h : insAt T b o = some p) : ∃ t m kk n v, o.op = .insert t (.tmp m) (.const (.int kk n)) v ∧ jP o = true ∧ evO T (.tmp m) = .mref b ∧ p = (.int kk n, evO T v) := by
 unfold insAt at h
 split at h
 ·rename_i t m x v ho
  cases hi : jP o with
  | false => rw [hi] at h; simp at h
  | true =>
    rw [hi] at h
    cases hm : isMr b (evO T m) with
    | false => rw [hm] at h; simp at h
    | true =>
      rw [hm] at h
      simp only [Bool.and_self, cond_true, Option.some.injEq] at h
      have hi' := hi
      unfold jP at hi
      rw [ho] at hi
      split at hi
      ·rename_i t' m' kk n v' heq
       cases heq
       refine ⟨t, m', kk, n, v, ho, rfl, ?_, h.symm⟩
       unfold isMr at hm
       split at hm
       ·rename_i c hc
        rw [hc, Nat.eq_of_beq_eq_true hm]
       ·cases hm
      ·cases hi
 ·cases h
theorem QZ {o : Oper} {t : TypeId} {m : Nat} {kk : IntKind} {n : Int} {v : Operand} (ho : o.op = .insert t (.tmp m) (.const (.int kk n)) v) (hi : jP o = true) : QB o = some (kk, n) := by
 unfold QB
 rw [ho]
 simp only [hi, cond_true]
theorem gZ : ∀ {l : List Oper}, zX l = true → ∀ (i j : Nat) (hi : i < l.length) (hj : j < l.length), i ≠ j → ∀ p q, QB l[i] = some p → QB l[j] = some q → p.1 = q.1 ∧ p.2 ≠ q.2
 | [], _, i, _, hi, _, _, _, _, _, _ => by simp at hi
 | o :: r, h, i, j, hi, hj, hij, p, q, hp, hq => by
   unfold zX at h
   rw [Bool.and_eq_true] at h
   obtain ⟨h1, h2⟩ := h
   have key : ∀ (j : Nat) (hj : j < r.length) p q, QB o = some p → QB r[j] = some q → p.1 = q.1 ∧ p.2 ≠ q.2 := by
    intro j hj p q hp hq
    rw [hp] at h1
    have := List.all_eq_true.1 h1 r[j] (List.getElem_mem _)
    rw [hq] at this
    simp only [Bool.and_eq_true, decide_eq_true_eq, Bool.not_eq_true', decide_eq_false_iff_not] at this
    exact this
   cases i with
   | zero =>
     cases j with
     | zero => exact absurd rfl hij
     | succ j => exact key j (by simpa using hj) p q (by simpa using hp) (by simpa using hq)
   | succ i =>
     cases j with
     | zero =>
       have := key i (by simpa using hi) q p (by simpa using hq) (by simpa using hp)
       exact ⟨this.1.symm, fun e => this.2 e.symm⟩
     | succ j => exact gZ h2 i j (by simpa using hi) (by simpa using hj) (by omega) p q (by simpa using hp) (by simpa using hq)
theorem Y0 {T : List AV} {b : Nat} : ∀ {l : List Oper}, zX l = true → (∃ kk, ∀ p ∈ Qt T b l, ∃ n, p.1 = .int kk n) ∧ (Qt T b l).Pairwise fun p q => p.1 ≠ q.1
 | [], _ => ⟨⟨.i64, fun p hp => by simp [Qt] at hp⟩, List.Pairwise.nil⟩
 | o :: r, h => by
   have h0 := h
   unfold zX at h
   rw [Bool.and_eq_true] at h
   obtain ⟨⟨kk, hk⟩, hp⟩ := Y0 (T := T) (b := b) h.2
   cases ho : insAt T b o with
   | none =>
     have e : Qt T b (o :: r) = Qt T b r := by unfold Qt; rw [List.filterMap_cons, ho]
     rw [e]
     exact ⟨⟨kk, hk⟩, hp⟩
   | some p =>
     have e : Qt T b (o :: r) = p :: Qt T b r := by unfold Qt; rw [List.filterMap_cons, ho]
     rw [e]
     obtain ⟨t, m, kk0, n0, v, hop, hi, _, rfl⟩ := g9 ho
     have key : ∀ q ∈ Qt T b r, ∃ n, q.1 = .int kk0 n ∧ n0 ≠ n := by
      intro q hq
      unfold Qt at hq
      obtain ⟨o', ho', hq'⟩ := List.mem_filterMap.1 hq
      obtain ⟨j, hj, rfl⟩ := List.mem_iff_getElem.1 ho'
      obtain ⟨t', m', kk', n', v', hop', hi', _, rfl⟩ := g9 hq'
      have := gZ h0 0 (j + 1) (by simp) (by simpa using hj) (by omega) _ _ (by simpa using QZ hop hi) (by simpa using QZ hop' hi')
      obtain ⟨e1, e2⟩ := this
      simp only at e1 e2
      subst e1
      exact ⟨n', rfl, e2⟩
     refine ⟨⟨kk0, fun q hq => ?_⟩, List.Pairwise.cons (fun q hq => ?_) hp⟩
     ·rcases List.mem_cons.1 hq with rfl | hq
      ·exact ⟨n0, rfl⟩
      ·obtain ⟨n, hn, _⟩ := key q hq
       exact ⟨n, hn⟩
     ·obtain ⟨n, hn, hne⟩ := key q hq
      rw [hn]
      intro e
      cases e
      exact hne rfl
theorem Zu : ∀ {l : List Oper}, gY l = true → ∀ (i j : Nat) (hi : i < l.length) (hj : j < l.length), i ≤ j → ∀ t m x v, l[i].op = .insert t m x v → jP l[i] = true → ∀ d, l[j].dst = some d → isT d m = false ∧ isT d v = false
 | [], _, i, _, hi, _, _, _, _, _, _, _, _, _, _ => by simp at hi
 | o :: r, h, i, j, hi, hj, hij, t, m, x, v, ho, hins, d, hd => by
   unfold gY at h
   rw [Bool.and_eq_true] at h
   obtain ⟨h1, h2⟩ := h
   cases i with
   | zero =>
     simp only [List.getElem_cons_zero] at ho hins
     rw [ho] at h1
     simp only [hins, cond_true] at h1
     have := List.all_eq_true.1 h1 (o :: r)[j] (List.getElem_mem _)
     rw [hd] at this
     simp only [Bool.and_eq_true, Bool.not_eq_true'] at this
     exact this
   | succ i =>
     cases j with
     | zero => omega
     | succ j => exact Zu h2 i j (by simpa using hi) (by simpa using hj) (by omega) t m x v (by simpa using ho) (by simpa using hins) d (by simpa using hd)
theorem Rel.retell (h : Rel E base w0 ok en G s a w) {M' : Mem} (hlen : M'.length = s.M.length) (hM : ∀ b y, M'[b]? = some y → ∃ x, s.M[b]? = some x ∧ (∀ c, mutC (G.σ b) y = some c → mutC (G.σ b) x = some c) ∧ BR G.D G.σ w (G.σ b) y) : Rel E base w0 ok en G { s with M := M' } a w := by
 refine ⟨h.defers, h.size, h.val, ⟨fun b y hb => ?_, fun b y c hb hc => ?_, fun b b' y y' c hb hc hb' hc' => ?_, h.mem.dlt, h.mem.dok, fun b hb => h.mem.out b (by simpa [hlen] using hb)⟩, h.below, h.glob, h.base, h.grow, h.held, by simpa [hlen] using h.lo, h.fr⟩
 ·obtain ⟨x, hx, _, hbr⟩ := hM b y hb
  exact hbr
 ·obtain ⟨x, hx, hm, _⟩ := hM b y hb
  exact h.mem.own b x c hx (hm c hc)
 ·obtain ⟨x, hx, hm, _⟩ := hM b y hb
  obtain ⟨x', hx', hm', _⟩ := hM b' y' hb'
  exact h.mem.apart b b' x x' c hx (hm c hc) hx' (hm' c hc')
theorem GU (T : List AV) (hd : List Oper) (n0 : Nat) : ∀ (i : Nat) (M : Mem), (gmM T hd n0 i M).length = M.length
 | _, [] => rfl
 | i, b :: r => by simp [gmM, GU T hd n0 (i + 1) r]
theorem qbi (T : List AV) (hd : List Oper) (n0 : Nat) : ∀ (i : Nat) (M : Mem) (q : Nat), (gmM T hd n0 i M)[q]? = (M[q]?).map (gmB T hd n0 (i + q))
 | _, [], q => by simp [gmM]
 | i, b :: r, q => by
   unfold gmM
   cases q with
   | zero => rfl
   | succ q =>
     simp only [List.getElem?_cons_succ]
     rw [qbi T hd n0 (i + 1) r q, show i + 1 + q = i + (q + 1) by omega]
theorem Kr {n0 : Nat} {ev : Operand → AV} {slot : Nat} {o : Oper} {p : AV × Option Blk} (h : (Zx E n0 ev M slot o fun v b => some (v, b)) = some p) :
  (∃ t, o.op = .makeMap t none ∧ p = (.mref slot, some .gmap)) ∨
  (∃ t m x v i kt et kk b n, o.op = .insert t m x v ∧ jP o = true ∧ E.t t = some i ∧ i.sh = .map kt et ∧ (E.t kt).map TyI.sh = some (.int kk) ∧ ev m = .mref b ∧ ev x = .int kk n ∧ n0 ≤ b ∧ M[b]? = some .gmap ∧ p = (.junk, none)) ∨
  ((∀ t m x v, o.op ≠ .insert t m x v) ∧ (zu E ev M slot o fun v b => bif Vj b then none else some (v, b)) = some p) := by
 unfold Zx at h
 split at h
 ·rename_i t ho
  exact .inl ⟨t, ho, (Option.some.inj h).symm⟩
 ·rename_i t m x v ho
  replace h := qq h
  obtain ⟨hi, h⟩ := h
  split at h
  ·cases h
  ·rename_i i hti
   split at h
   ·rename_i kt et hsh
    split at h
    ·rename_i kk b kk' n hkt hm hx
     replace h := qq h
     obtain ⟨hc, h⟩ := h
     replace h := qq h
     obtain ⟨hg, h⟩ := h
     simp only [Bool.and_eq_true, decide_eq_true_eq] at hc
     obtain ⟨rfl, hb, _⟩ := hc
     have hgm : M[b]? = some .gmap := by
      unfold Vj at hg
      split at hg
      ·assumption
      ·cases hg
     exact .inr (.inl ⟨t, m, x, v, i, kt, et, kk', b, n, ho, hi, hti, hsh, hkt, hm, hx, Nat.le_of_ble_eq_true hb, hgm, (Option.some.inj h).symm⟩)
    ·cases h
   ·cases h
 ·rename_i hn1 hn2
  exact .inr (.inr ⟨fun t m x v ho => hn2 t m x v ho, h⟩)
theorem BC {M : Mem} (hm : MemOK base ok G w M) {slot : Nat} (hslot : G.σ slot = .none) (t : TypeId) : zw P G w slot (some (.amap [] [])) (.mref slot) ((do pure (.value (← Instr.makeMap t none)) : Sem Next).run P w) := by
 have hrun : (Instr.makeMap t none).run P w = .ok (.map (some w.heap.size)) (w.alloc (.map #[] 0)) := by
  simp [Instr.makeMap, newObj, Sem.run]
 simp only [Sem.run_bind, hrun, Result.andThen_ok, Sem.run_pure]
 exact ⟨_, Step.lay hslot hm.dlt ⟨w.heap.size, #[], 0, [], .i64, rfl, j2 _ _, ⟨List.Perm.refl _, fun e he => by simp at he, by simp⟩, rfl, rfl, fun i h => by simp at h, fun i h => by simp at h⟩ (fun c hc => by simp [mutC] at hc; exact hc.symm), VR.mref (σ := (G.up slot (.blk w.heap.size)).σ) slot w.heap.size (Gam.up_self ..)⟩
end Go.Sx
namespace Go.Sx
open Go
open Go.RowKit (Below)
variable {P : Program} {E : Env} {base : Nat} {w0 : GW} {ok : Nat → Prop} {en : Ent} {G G' : Gam} {s : St} {a : Act} {w w' : GW} {R : Type} {M : Mem}
abbrev Oc := Option (AV × Option Blk)
noncomputable def qT (n0 i : Nat) (o : Oper) (s : St) : Oc → St
 | some p => ({ s with M := s.M.set (n0 + i) (frzV p.2) } : St).put o.dst p.1
 | none => s.put o.dst .undef
noncomputable def accS (n0 : Nat) (S : Nat → Bool) : Nat → List Oper → List Oc → St → St
 | i, o :: r, c :: tr, s => accS n0 S (i + 1) r tr (bif S i then qT n0 i o s c else s)
 | _, _, _, s => s
def OcOK (E : Env) (ops : Array Oper) (bf : List Nat) (L : List Nat) (n0 i : Nat) (o : Oper) (s : St) : Oc → Prop
 | some p => (Wt ops o s.T true ∧ Yx L i o (evM s.T o) = true) ∧ (Zx E n0 (evM s.T o) (gu n0 (bf.getD i 0) 0 s.M) (n0 + i) o fun v b => some (v, b)) = some p
 | none => Wt ops o s.T false
def TrOK (E : Env) (ops : Array Oper) (bf : List Nat) (L : List Nat) (n0 : Nat) : Nat → List Oper → List Oc → St → Prop
 | _, [], [], _ => True
 | i, o :: r, c :: tr, s => OcOK E ops bf L n0 i o s c ∧ TrOK E ops bf L n0 (i + 1) r tr (qT n0 i o s c)
 | _, _, _, _ => False
theorem QL (hctr : (∀ f c, look E.ctr f = some c → ∀ (R : Type) (args : List AV) (k : AV → Option R), c.run args k = (c.run args some).bind k) ∧ ∀ f c, look E.own f = some c → ∀ (R : Type) (args : List AV) (k : AV → Option R), c.run args k = (c.run args some).bind k) {ops : Array Oper} {bf L : List Nat} {n0 : Nat} {k : St → Option R} {r : R} :
  ∀ (l : List Oper) (i : Nat) (s : St), Uo E ops bf L n0 i l s k = some r → ∃ tr, TrOK E ops bf L n0 i l tr s ∧ k (accS n0 (fun _ => true) i l tr s) = some r
 | [], i, s, h => ⟨[], trivial, h⟩
 | o :: l, i, s, h => by
   unfold Uo at h
   rcases kw h with ⟨hw, h⟩ | ⟨hw, h⟩
   ·replace h := qq h
    obtain ⟨hlag, h⟩ := h
    rw [qdr hctr] at h
    obtain ⟨p, hp, h⟩ := Option.bind_eq_some_iff.1 h
    rw [gC] at h
    obtain ⟨tr, h1, h2⟩ := QL hctr l (i + 1) _ h
    exact ⟨some p :: tr, ⟨⟨⟨hw, hlag⟩, hp⟩, h1⟩, h2⟩
   ·rw [qbm] at h
    obtain ⟨tr, h1, h2⟩ := QL hctr l (i + 1) _ h
    exact ⟨none :: tr, ⟨hw, h1⟩, h2⟩
theorem gH {n0 : Nat} {S : Nat → Bool} : ∀ (l : List Oper) (tr : List Oc) (i : Nat) (s : St), (∀ q, i ≤ q → S q = false) → accS n0 S i l tr s = s
 | [], _, _, _, _ => rfl
 | _ :: _, [], _, _, _ => rfl
 | o :: l, c :: tr, i, s, h => by
   unfold accS
   rw [h i (Nat.le_refl _)]
   exact gH l tr (i + 1) s fun q hq => h q (by omega)
theorem JP {n0 : Nat} {S S' : Nat → Bool} : ∀ (l : List Oper) (tr : List Oc) (i : Nat) (s : St), (∀ q, i ≤ q → q < i + l.length → S q = S' q) → accS n0 S i l tr s = accS n0 S' i l tr s
 | [], _, _, _, _ => by unfold accS; rfl
 | _ :: _, [], _, _, _ => by unfold accS; rfl
 | o :: l, c :: tr, i, s, h => by
   unfold accS
   rw [h i (Nat.le_refl _) (by simp)]
   exact JP l tr (i + 1) _ fun q hq hq' => h q (by omega) (by simp; omega)
theorem UX {ops : Array Oper} {bf L : List Nat} {n0 : Nat} : ∀ (l : List Oper) (tr : List Oc) (i : Nat) (s : St), TrOK E ops bf L n0 i l tr s → tr.length = l.length ∧ ∀ j (h : j < l.length) (h' : j < tr.length), OcOK E ops bf L n0 (i + j) l[j] (accS n0 (fun q => decide (q < i + j)) i l tr s) tr[j]
 | [], [], _, _, _ => ⟨rfl, fun j h => by simp at h⟩
 | [], _ :: _, _, _, h => h.elim
 | _ :: _, [], _, _, h => h.elim
 | o :: l, c :: tr, i, s, h => by
   obtain ⟨h1, h2⟩ := h
   obtain ⟨h3, h4⟩ := UX l tr (i + 1) _ h2
   refine ⟨by simp [h3], fun j hj hj' => ?_⟩
   cases j with
   | zero =>
     rw [gH _ _ _ _ fun q hq => by simp; omega]
     exact h1
   | succ j =>
     have := h4 j (by simpa using hj) (by simpa using hj')
     simp only [List.getElem_cons_succ]
     rw [show i + (j + 1) = i + 1 + j by omega]
     unfold accS
     rw [show decide (i < i + 1 + j) = true by simp; omega]
     exact this
theorem qet (n0 i : Nat) (o : Oper) (s : St) (c : Oc) (t : Nat) (h : o.dst ≠ some t) : (qT n0 i o s c).T[t]? = s.T[t]? := by
 have : ∀ (s : St) (v : AV), (s.put o.dst v).T[t]? = s.T[t]? := by
  intro s v
  unfold St.put
  split
  ·rename_i d hd
   simp only [z5]
   have : d ≠ t := fun e => h (by rw [hd, e])
   simp [List.getElem?_set_ne this]
  ·rfl
 cases c with
 | some p => exact this _ _
 | none => exact this _ _
theorem qaj (n0 i : Nat) (o : Oper) (s s' : St) (c : Oc) (t : Nat) (h : o.dst = some t) (hs : s.T[t]? = s'.T[t]?) : (qT n0 i o s c).T[t]? = (qT n0 i o s' c).T[t]? := by
 have : ∀ (s s' : St) (v : AV), s.T[t]? = s'.T[t]? → (s.put o.dst v).T[t]? = (s'.put o.dst v).T[t]? := by
  intro s s' v hs
  unfold St.put
  rw [h]
  simp only [z5]
  simp only [List.getElem?_set_self', hs]
 cases c with
 | some p => exact this _ _ _ hs
 | none => exact this _ _ _ hs
theorem qal {n0 : Nat} {S S' : Nat → Bool} {t : Nat} : ∀ (l : List Oper) (tr : List Oc) (i : Nat) (s s' : St), s.T[t]? = s'.T[t]? → (∀ j (h : j < l.length), l[j].dst = some t → S (i + j) = S' (i + j)) →
  (accS n0 S i l tr s).T[t]? = (accS n0 S' i l tr s').T[t]?
 | [], _, _, _, _, h, _ => by unfold accS; exact h
 | _ :: _, [], _, _, _, h, _ => by unfold accS; exact h
 | o :: l, c :: tr, i, s, s', h, hS => by
   unfold accS
   refine qal l tr (i + 1) _ _ ?_ fun j hj hd => by
    have := hS (j + 1) (by simpa using hj) (by simpa using hd)
    rw [show i + (j + 1) = i + 1 + j by omega] at this
    exact this
   by_cases hd : o.dst = some t
   ·have := hS 0 (by simp) (by simpa using hd)
    simp only [Nat.add_zero] at this
    rw [this]
    cases S' i with
    | true => exact qaj n0 i o s s' c t hd h
    | false => exact h
   ·have e : ∀ (b : Bool) (s : St), (bif b then qT n0 i o s c else s).T[t]? = s.T[t]? := by
     intro b s
     cases b with
     | true => exact qet n0 i o s c t hd
     | false => rfl
    rw [e, e]; exact h
theorem qa0 (s : St) (d : Option Nat) (v : AV) : (s.put d v).M = s.M := by cases d <;> rfl
theorem qgd (s : St) (d : Option Nat) (v : AV) : (s.put d v).lo = s.lo ∧ (s.put d v).lock = s.lock ∧ (s.put d v).T.length = s.T.length := by cases d <;> simp [St.put, z5]
theorem gG (n0 i : Nat) (o : Oper) (s : St) (c : Oc) : (qT n0 i o s c).M = match c with | some p => s.M.set (n0 + i) (frzV p.2) | none => s.M := by
 cases c <;> exact qa0 _ _ _
theorem Dj {n0 : Nat} {S S' : Nat → Bool} {q : Nat} : ∀ (l : List Oper) (tr : List Oc) (i : Nat) (s s' : St), s.M[q]? = s'.M[q]? → (∀ j (_ : j < l.length), n0 + (i + j) = q → S (i + j) = S' (i + j)) →
  (accS n0 S i l tr s).M[q]? = (accS n0 S' i l tr s').M[q]?
 | [], _, _, _, _, h, _ => by unfold accS; exact h
 | _ :: _, [], _, _, _, h, _ => by unfold accS; exact h
 | o :: l, c :: tr, i, s, s', h, hS => by
   unfold accS
   refine Dj l tr (i + 1) _ _ ?_ fun j hj hd => by
    have := hS (j + 1) (by simpa using hj) (by omega)
    rw [show i + (j + 1) = i + 1 + j by omega] at this
    exact this
   by_cases hq : n0 + i = q
   ·have := hS 0 (by simp) (by omega)
    simp only [Nat.add_zero] at this
    rw [this]
    cases S' i with
    | false => exact h
    | true =>
      simp only [cond_true, gG]
      cases c with
      | none => exact h
      | some p => subst hq; simp only [List.getElem?_set_self', h]
   ·have e : ∀ (b : Bool) (s : St), (bif b then qT n0 i o s c else s).M[q]? = s.M[q]? := by
     intro b s
     cases b with
     | false => rfl
     | true =>
       simp only [cond_true, gG]
       cases c with
       | none => rfl
       | some p => simp only [List.getElem?_set_ne hq]
    rw [e, e]; exact h
theorem vv {n0 : Nat} {S : Nat → Bool} : ∀ (l : List Oper) (tr : List Oc) (i : Nat) (s : St), (accS n0 S i l tr s).M.length = s.M.length ∧ (accS n0 S i l tr s).T.length = s.T.length
 | [], _, _, _ => by unfold accS; exact ⟨rfl, rfl⟩
 | _ :: _, [], _, _ => by unfold accS; exact ⟨rfl, rfl⟩
 | o :: l, c :: tr, i, s => by
   unfold accS
   obtain ⟨h1, h2⟩ := vv l tr (i + 1) (bif S i then qT n0 i o s c else s)
   rw [h1, h2]
   cases S i with
   | false => exact ⟨rfl, rfl⟩
   | true =>
     simp only [cond_true]
     refine ⟨?_, ?_⟩
     ·rw [gG]; cases c <;> simp
     ·cases c with
      | none => exact (qgd _ _ _).2.2
      | some p => exact (qgd _ _ _).2.2
theorem qai {n0 i i' : Nat} {o o' : Oper} (s : St) (c c' : Oc) (hi : i ≠ i') (hd : ∀ d, o.dst = some d → o'.dst ≠ some d) : qT n0 i o (qT n0 i' o' s c') c = qT n0 i' o' (qT n0 i o s c) c' := by
 have hn : n0 + i ≠ n0 + i' := by omega
 have hp : ∀ (s : St) (v v' : AV), (s.put o'.dst v').put o.dst v = (s.put o.dst v).put o'.dst v' := by
  intro s v v'
  cases h : o.dst with
  | none => cases h' : o'.dst <;> rfl
  | some d => cases h' : o'.dst with
    | none => rfl
    | some d' =>
      have : d' ≠ d := fun e => hd d h (by rw [h', e])
      simp only [St.put, z5, List.set_comm _ _ this]
 have hpm : ∀ (s : St) (d : Option Nat) (v : AV) (M : Mem), ({ s.put d v with M := M } : St) = ({ s with M := M } : St).put d v := by
  intro s d v M; cases d <;> rfl
 cases c with
 | none =>
   cases c' with
   | none => exact hp _ _ _
   | some p' => simp only [qT, qa0, hpm]; exact hp _ _ _
 | some p =>
   cases c' with
   | none => simp only [qT, qa0, hpm]; exact hp _ _ _
   | some p' =>
     simp only [qT, qa0, hpm]
     rw [hp, List.set_comm _ _ hn.symm]
theorem YT {n0 i0 : Nat} {S : Nat → Bool} {o : Oper} {c : Oc} : ∀ (l : List Oper) (tr : List Oc) (i : Nat) (s : St), i0 < i → (∀ j (h : j < l.length), S (i + j) = true → ∀ d, o.dst = some d → l[j].dst ≠ some d) →
  accS n0 S i l tr (qT n0 i0 o s c) = qT n0 i0 o (accS n0 S i l tr s) c
 | [], _, _, _, _, _ => by unfold accS; rfl
 | _ :: _, [], _, _, _, _ => by unfold accS; rfl
 | o' :: l, c' :: tr, i, s, hi, hS => by
   unfold accS
   have key : (bif S i then qT n0 i o' (qT n0 i0 o s c) c' else qT n0 i0 o s c) = qT n0 i0 o (bif S i then qT n0 i o' s c' else s) c := by
    cases hb : S i with
    | false => rfl
    | true =>
      simp only [cond_true]
      refine (qai s c c' (by omega) fun d hd => ?_).symm
      exact hS 0 (by simp) (by simpa using hb) d hd
   rw [key]
   refine YT l tr (i + 1) _ (by omega) fun j hj hs d hd => ?_
   have := hS (j + 1) (by simpa using hj) (by rw [show i + (j + 1) = i + 1 + j by omega]; exact hs) d hd
   simpa using this
theorem Ns {n0 : Nat} {S S' : Nat → Bool} : ∀ (l : List Oper) (tr : List Oc) (i : Nat) (s : St) (j : Nat) (h : j < l.length) (h' : j < tr.length), S (i + j) = false → S' (i + j) = true → (∀ q, q ≠ i + j → S' q = S q) →
  (∀ q (hq : q < l.length), j < q → S (i + q) = true → ∀ d, l[j].dst = some d → l[q].dst ≠ some d) → accS n0 S' i l tr s = qT n0 (i + j) l[j] (accS n0 S i l tr s) tr[j]
 | [], _, _, _, _, h, _, _, _, _, _ => by simp at h
 | _ :: _, [], _, _, _, _, h, _, _, _, _ => by simp at h
 | o :: l, c :: tr, i, s, j, h, h', h1, h2, h3, h4 => by
   unfold accS
   cases j with
   | zero =>
     simp only [Nat.add_zero] at h1 h2 h3 ⊢
     rw [h1, h2]
     simp only [cond_true, cond_false, List.getElem_cons_zero]
     rw [JP l tr (i + 1) _ (S := S') (S' := S) fun q hq _ => h3 q (by omega)]
     refine YT l tr (i + 1) s (by omega) fun q hq hs d hd => ?_
     have := h4 (q + 1) (by simpa using hq) (by omega) (by rw [show i + (q + 1) = i + 1 + q by omega]; exact hs) d hd
     simpa using this
   | succ j =>
     rw [h3 i (by omega)]
     have e : i + (j + 1) = i + 1 + j := by omega
     rw [e] at h1 h2 h3 ⊢
     refine Ns l tr (i + 1) _ j (by simpa using h) (by simpa using h') h1 h2 h3 fun q hq hjq hs d hd => ?_
     have := h4 (q + 1) (by simpa using hq) (by omega) (by rw [show i + (q + 1) = i + 1 + q by omega]; exact hs) d (by simpa using hd)
     simpa using this
theorem Ur {acc : List Nat} {q : Nat} : ∀ {es : List Edge}, Nat.testBit (QO acc es) q = true → ∃ e ∈ es, Region.binds .any e = true ∧ (q = e.on ∨ Nat.testBit (acc.getD e.on 0) q = true)
 | [], h => by simp [QO] at h
 | e :: r, h => by
   unfold QO at h
   cases hb : Region.binds .any e with
   | false =>
     rw [hb] at h
     obtain ⟨e', h1, h2⟩ := Ur h
     exact ⟨e', by simp [h1], h2⟩
   | true =>
     rw [hb] at h
     simp only [cond_true] at h
     have h' : Nat.testBit ((2 ^ e.on ||| acc.getD e.on 0) ||| QO acc r) q = true := h
     simp only [Nat.testBit_or, Bool.or_eq_true, Nat.testBit_two_pow, decide_eq_true_eq] at h'
     rcases h' with (h' | h') | h'
     ·exact ⟨e, by simp, hb, .inl h'.symm⟩
     ·exact ⟨e, by simp, hb, .inr h'⟩
     ·obtain ⟨e', h1, h2⟩ := Ur h'
      exact ⟨e', by simp [h1], h2⟩
theorem Np {acc : List Nat} {e : Edge} : ∀ {es : List Edge}, e ∈ es → Region.binds .any e = true → Nat.testBit (QO acc es) e.on = true
 | [], h, _ => by simp at h
 | e' :: r, h, hb => by
   unfold QO
   rcases List.mem_cons.1 h with rfl | h
   ·rw [hb]
    show Nat.testBit ((2 ^ e.on ||| acc.getD e.on 0) ||| QO acc r) e.on = true
    simp [Nat.testBit_or, Nat.testBit_two_pow]
   ·have ih := Np (acc := acc) h hb
    cases hb' : Region.binds .any e' with
    | false => exact ih
    | true =>
      show Nat.testBit ((2 ^ e'.on ||| acc.getD e'.on 0) ||| QO acc r) e.on = true
      rw [Nat.testBit_or, ih, Bool.or_true]
theorem YN : ∀ (l : List Oper) (acc : List Nat), (zB l acc).length = acc.length + l.length ∧ (zB l acc).take acc.length = acc ∧ ∀ p (h : p < l.length), (zB l acc).getD (acc.length + p) 0 = QO ((zB l acc).take (acc.length + p)) l[p].after.toList
 | [], acc => ⟨by simp [zB], by simp [zB], fun p h => by simp at h⟩
 | o :: r, acc => by
   obtain ⟨h1, h2, h3⟩ := YN r (acc ++ [QO acc o.after.toList])
   simp only [List.length_append, List.length_singleton] at h1 h2 h3
   have e : zB (o :: r) acc = zB r (acc ++ [QO acc o.after.toList]) := rfl
   rw [e]
   have htake : (zB r (acc ++ [QO acc o.after.toList])).take acc.length = acc := by
    have := congrArg (List.take acc.length) h2
    rw [List.take_take, Nat.min_eq_left (by omega)] at this
    rw [this]; simp
   refine ⟨by rw [h1]; simp; omega, htake, fun p hp => ?_⟩
   cases p with
   | zero =>
     simp only [Nat.add_zero, List.getElem_cons_zero, htake]
     have : (zB r (acc ++ [QO acc o.after.toList]))[acc.length]? = some (QO acc o.after.toList) := by
      have := congrArg (fun l => l[acc.length]?) h2
      simp only [List.getElem?_take] at this
      rw [if_pos (by omega)] at this
      rw [this]; simp
     rw [List.getD_eq_getElem?_getD, this]; rfl
   | succ p =>
     have := h3 p (by simpa using hp)
     rw [show acc.length + 1 + p = acc.length + (p + 1) by omega] at this
     simpa using this
theorem ZZ {n0 bits : Nat} : ∀ (M : Mem) (i p : Nat), (gu n0 bits i M)[p]? = (M[p]?).map fun b => bif Nat.blt (i + p) n0 then b else bif Nat.testBit bits (i + p - n0) then b else .dead
 | [], _, _ => by simp [gu]
 | b :: r, i, p => by
   unfold gu
   cases p with
   | zero => simp
   | succ p =>
     simp only [List.getElem?_cons_succ]
     rw [ZZ r (i + 1) p, show i + 1 + p = i + (p + 1) by omega]
theorem Yh {n0 bits : Nat} : ∀ (M : Mem) (i : Nat), (gu n0 bits i M).length = M.length
 | [], _ => rfl
 | b :: r, i => by simp [gu, Yh r (i + 1)]
theorem j6 (sb : SB) : mutC sb .dead = none := by cases sb <;> rfl
theorem MemOK.mask {M' : Mem} (hm : MemOK base ok G w M) (h : ∀ (q : Nat) (x : Blk), M'[q]? = some x → x = .dead ∨ M[q]? = some x) (hl : M'.length = M.length) : MemOK base ok G w M' := by
 refine ⟨fun b x hb => ?_, fun b x c hb hc => ?_, fun b b' x x' c hb hc hb' hc' => ?_, hm.dlt, hm.dok, fun b hb => hm.out b (by omega)⟩
 ·rcases h b x hb with rfl | h
  ·trivial
  ·exact hm.blocks b x h
 ·rcases h b x hb with rfl | h
  ·rw [j6] at hc; cases hc
  ·exact hm.own b x c h hc
 ·rcases h b x hb with rfl | h1
  ·rw [j6] at hc; cases hc
  ·rcases h b' x' hb' with rfl | h2
   ·rw [j6] at hc'; cases hc'
   ·exact hm.apart b b' x x' c h1 hc h2 hc'
end Go.Sx
namespace Go.Sx
open Go
open Go.RowKit (Below)
variable {P : Program} {E : Env} {base : Nat} {w0 : GW} {ok : Nat → Prop} {en : Ent} {G G' : Gam} {s : St} {a : Act} {w w' : GW} {R : Type} {M : Mem}
def zD (en : Ent) (w : GW) : Prop := ∀ c, en.1.D c → w.heap[c]? = en.2.1.heap[c]?
theorem Rel.keptW (h : Rel E base w0 ok en G s a w) : zD en w := fun c hc => (h.grow c hc).2
def vD (G : Gam) (w : GW) (s : St) : Ent := (⟨fun b => if b < s.lo then G.σ b else .none, G.D⟩, w, s.lock, s.lo)
theorem Rel.reenter (h : Rel E base w0 ok en G s a w) : Rel E base w0 ok (vD G w s) G s a w := by
 refine ⟨h.defers, h.size, h.val, h.mem, h.below, h.glob, h.base, fun c hc => ⟨hc, rfl⟩, fun b hb hn => ?_, h.lo, ⟨rfl, rfl⟩⟩
 unfold vD at hn ⊢
 simp only at hn ⊢
 split at hn
 ·rename_i hlt; rw [if_pos hlt]; exact ⟨rfl, hlt⟩
 ·exact absurd rfl hn
theorem Rel.releave (h : Rel E base w0 ok en G s a w) {G1 : Gam} {s1 : St} {a1 : Act} {w1 : GW} (h1 : Rel E base w0 ok (vD G w s) G1 s1 a1 w1) : Rel E base w0 ok en G1 s1 a1 w1 := by
 have hfr : s1.lock = s.lock ∧ s1.lo = s.lo := h1.fr
 refine ⟨h1.defers, h1.size, h1.val, h1.mem, h1.below, h1.glob, h1.base, fun c hc => ?_, fun b hb hn => ?_, h1.lo, ?_⟩
 ·obtain ⟨g1, g2⟩ := h.grow c hc
  obtain ⟨g3, g4⟩ := h1.grow c g1
  exact ⟨g3, g4.trans g2⟩
 ·rw [hfr.1] at hb
  obtain ⟨g1, g2⟩ := h.held b hb hn
  have hs : (vD G w s).1.σ b = G.σ b := by unfold vD; simp only; rw [if_pos g2]
  obtain ⟨g3, g4⟩ := h1.held b (by rw [hfr.1]; exact hb) (by rw [hs, g1]; exact hn)
  exact ⟨by rw [g3, hs, g1], g4⟩
 ·rw [hfr.1, hfr.2]; exact h.fr
theorem Rel.keep_of (h : Rel E base w0 ok en G s a w) {w1 : GW} (h1 : zD (vD G w s) w1) : zD en w1 := fun c hc => (h1 c (h.grow c hc).1).trans (h.grow c hc).2
theorem vy {ops : Array Oper} {Q : Exit → Act → GW → Prop} {md : Region.Mode} {S S' : GW → Prop} (hS : ∀ w, S w → S' w) : ∀ (fuel : Nat) (listed : Array Bool) (a : Act) (w : GW), wpAnyH P md ops Q S fuel listed a w → wpAnyH P md ops Q S' fuel listed a w
 | 0, _, _, _, h => h
 | fuel + 1, _, _, _, h => ⟨h.1, fun i hi => wpOp_mono (fun a' w' h' => ⟨hS _ h'.1, vy hS fuel _ a' w' h'.2⟩) (h.2 i hi)⟩
theorem qde {t : TypeId} {i : TyI} (ht : TyFacts P t i) {cs : List AV} {off : Nat} {v : AV} (hp : zg i cs off = some v) (ad : Addr) (cv : Nat → Value) :
  ∃ y, ∀ w : GW, (∀ j, j < cs.length → w.cell? (ad.add j) = some (cv j) ∧ (cv j).oneCell' = true) → (Instr.loadAt t (.pointer (some (ad.add off)))).run P w = .ok y w := by
 let R' : AV → Value → Prop := fun v x => (∃ k n, v = .int k n ∧ x = cv n.toNat) ∨ (∃ (ds : List AV) (vs : List Value), v = .agg ds ∧ x = .agg vs.toArray ∧ ds.length = vs.length ∧ ∀ i (h : i < ds.length) (h' : i < vs.length) k n, ds[i] = .int k n → vs[i] = cv n.toNat)
 have hagg : ∀ (cs : List AV) (vs : List Value), cs.length = vs.length → (∀ v ∈ vs, v.oneCell' = true) → (∀ i (h1 : i < cs.length) (h2 : i < vs.length), R' cs[i] vs[i]) → R' (.agg cs) (.agg vs.toArray) := by
  intro ds vs hl _ hh
  refine .inr ⟨ds, vs, rfl, rfl, hl, fun i h1 h2 k n e => ?_⟩
  rcases hh i h1 h2 with ⟨k', n', e', hx⟩ | ⟨_, _, e', _⟩
  ·rw [e] at e'; cases e'; exact hx
  ·rw [e] at e'; cases e'
 let cs' : List AV := (List.range cs.length).map fun (j : Nat) => AV.int .i64 (Int.ofNat j)
 have hlen : cs'.length = cs.length := by simp [cs']
 have hget : ∀ j (h : j < cs'.length), cs'[j] = .int .i64 (j : Int) := fun j h => by simp [cs']
 have hat : ∀ w : GW, (∀ j, j < cs.length → w.cell? (ad.add j) = some (cv j) ∧ (cv j).oneCell' = true) → At R' w ad cs' := by
  intro w hw j hj
  obtain ⟨h1, h2⟩ := hw j (by rw [← hlen]; exact hj)
  exact ⟨cv j, h1, h2, .inl ⟨.i64, j, hget j hj, by simp⟩⟩
 have fin : ∀ (w : GW) {x : Value}, (loadVar t (ad.add off)).run P w = .ok x w → (Instr.loadAt t (.pointer (some (ad.add off)))).run P w = .ok x w := by
  intro w x hx
  simp only [Instr.loadAt, Sem.run_bind, qJ, Result.andThen_ok, hx]
 cases ha : i.agg with
 | false =>
   unfold zg at hp
   rw [ha] at hp
   have hlt : off < cs.length := (List.getElem?_eq_some_iff.1 hp).1
   refine ⟨cv off, fun w hw => ?_⟩
   have hp' : zg i cs' off = some (.int .i64 (off : Int)) := by
    unfold zg
    rw [ha]
    show cs'[off]? = _
    rw [List.getElem?_eq_getElem (by omega), hget]
   obtain ⟨x, h1, h2, _⟩ := gT hagg ht (hat w hw) hp'
   rcases h2 with ⟨k, n, e, hx⟩ | ⟨_, _, e, _⟩
   ·cases e
    rw [show ((off : Int)).toNat = off by simp] at hx
    subst hx
    exact fin w h1
   ·cases e
 | true =>
   unfold zg at hp
   rw [ha] at hp
   simp only [cond_true] at hp
   replace hp := qq hp
   obtain ⟨hle, _⟩ := hp
   have hle' := Nat.le_of_ble_eq_true hle
   refine ⟨.agg ((List.range i.size).map fun j => cv (off + j)).toArray, fun w hw => ?_⟩
   have hp' : zg i cs' off = some (.agg ((cs'.drop off).take i.size)) := by
    unfold zg
    rw [ha, hlen]
    simp only [cond_true]
    rw [hle]; rfl
   obtain ⟨x, h1, h2, _⟩ := gT hagg ht (hat w hw) hp'
   rcases h2 with ⟨k, n, e, hx⟩ | ⟨ds, vs, e, hx, hl, hh⟩
   ·cases e
   ·cases e
    have hsz : vs.length = i.size := by rw [← hl]; simp [hlen]; omega
    have : vs = (List.range i.size).map fun j => cv (off + j) := by
     apply List.ext_getElem
     ·simp [hsz]
     ·intro j h3 h4
      have := hh j (by omega) h3 .i64 ((off + j : Nat) : Int) (by
       rw [List.getElem_take, List.getElem_drop, hget])
      rw [this, Int.toNat_natCast]
      simp
    rw [hx, this] at h1
    exact fin w h1
theorem Vb (hE : EnvOK P E) {t : TypeId} {av : AV} {x : Value} (hv : VR G.D G.σ w av x) (hd : M5 av = true) {k : AV → Option R} {r : R} (h : Jw E M t av k = some r) :
  ∃ y, ∀ w' : GW, (∀ c, G.D c → w'.heap[c]? = w.heap[c]?) → (Instr.loadAt t x).run P w' = .ok y w' := by
 cases av with
 | dref cs off =>
   unfold Jw at h
   split at h
   ·simp at h
   ·rename_i i hi
    simp only at h
    obtain ⟨v, hp, _⟩ := Option.bind_eq_some_iff.1 h
    cases hv with
    | data _ _ h => cases h
    | dref _ _ a cv hD h =>
      obtain ⟨y, hy⟩ := qde (hE.ty t i hi) hp a cv
      refine ⟨y, fun w' hw => hy w' fun j hj => ⟨?_, (h j hj).2.1⟩⟩
      rw [← (h j hj).1]
      unfold World.cell?
      rw [add_block, hw _ hD]
 | _ => cases hd
theorem Rel.fz (h : Rel E base w0 ok en G s a w) (v : AV) : ∃ G', Rel E base w0 ok en G' (s.fz v) a w ∧ G'.σ = G.σ := by
 unfold St.fz
 split
 ·rename_i b off
  split
  ·rename_i cs hb
   split
   ·rename_i ds hds
    obtain ⟨c, vs, t, h1, h2, h3, h4⟩ := h.mem.blocks b _ hb
    obtain ⟨hl, hdr⟩ := zY h.mem hds
    have hmut : mutC (G.σ b) (.cells cs) = some c := by rw [h1]; rfl
    obtain ⟨o1, o2, o3⟩ := h.mem.own b _ c hb hmut
    let D' : Nat → Prop := fun x => G.D x ∨ x = c
    have hg : ∀ x, G.D x → D' x ∧ w.heap[x]? = w.heap[x]? := fun x hx => ⟨.inl hx, rfl⟩
    have hget : ∀ (q : Nat) (x : Blk), (s.M.set b .dead)[q]? = some x → x = .dead ∨ (q ≠ b ∧ s.M[q]? = some x) := by
     intro q x hq
     rw [List.getElem?_set] at hq
     by_cases e : b = q
     ·subst e
      simp only [if_true] at hq
      split at hq
      ·exact .inl (Option.some.inj hq).symm
      ·cases hq
     ·simp only [e, if_false] at hq
      exact .inr ⟨fun e' => e e'.symm, hq⟩
    have hmem : MemOK base ok ⟨G.σ, D'⟩ w (s.M.set b .dead) := by
     refine ⟨fun q x hq => ?_, fun q x c' hq hc => ?_, fun q q' x x' c' hq hc hq' hc' => ?_, fun x hx => ?_, fun x hx => ?_, fun q hq => h.mem.out q (by simpa using hq)⟩
     ·rcases hget q x hq with rfl | ⟨_, hq⟩
      ·trivial
      ·exact (h.mem.blocks q x hq).mono hg (fun _ _ => rfl) (fun _ _ => rfl)
     ·rcases hget q x hq with rfl | ⟨hne, hq⟩
      ·rw [j6] at hc; cases hc
      ·obtain ⟨g1, g2, g3⟩ := h.mem.own q x c' hq hc
       refine ⟨g1, g2, fun hh => ?_⟩
       rcases hh with hh | rfl
       ·exact g3 hh
       ·exact hne (h.mem.apart b q _ x _ hb hmut hq hc)
     ·rcases hget q x hq with rfl | ⟨_, hq⟩
      ·rw [j6] at hc; cases hc
      ·rcases hget q' x' hq' with rfl | ⟨_, hq'⟩
       ·rw [j6] at hc'; cases hc'
       ·exact h.mem.apart q q' x x' c' hq hc hq' hc'
     ·rcases hx with hx | rfl
      ·exact h.mem.dlt x hx
      ·exact o2
     ·rcases hx with hx | rfl
      ·exact h.mem.dok x hx
      ·exact .inr o1
    refine ⟨⟨G.σ, D'⟩, ?_, rfl⟩
    have hr := h.gam (G' := ⟨G.σ, D'⟩) (M' := s.M.set b .dead) (fun x hx => .inl hx) rfl hmem (by simp)
    refine ⟨hr.defers, by simpa using hr.size, fun q u hu => ?_, hr.mem, hr.below, hr.glob, hr.base, hr.grow, hr.held, hr.lo, hr.fr⟩
    rw [List.getElem?_map] at hu
    obtain ⟨u0, hu0, rfl⟩ := Option.map_eq_some_iff.1 hu
    have hv := hr.val q u0 hu0
    unfold drefV
    split
    ·rename_i b' off'
     cases e : Nat.beq b' b with
     | false => exact hv
     | true =>
       have := Nat.eq_of_beq_eq_true e
       subst this
       simp only [cond_true]
       obtain ⟨c', hc', hx⟩ := hv.ptr_inv
       rw [hx]
       have hcc : c' = c := by
        have : G.σ b' = .blk c' := hc'
        rw [h1] at this; cases this; rfl
       subst hcc
       refine .dref ds off' (blkA c') (fun j => vs.getD j undef) (.inr rfl) fun j hj => ?_
       have hj' : j < cs.length := by omega
       have hjv : j < vs.size := by omega
       obtain ⟨g1, g2⟩ := h4 j hj' hjv
       have e1 : vs.getD j undef = vs[j] := by simp [hjv]
       rw [e1]
       refine ⟨?_, g1, (hdr j hj' hj _ g2).mono hg⟩
       simp [blkA, add_lit, World.cell?, h2, hjv]
    ·exact hv
   ·exact ⟨G, h, rfl⟩
  ·exact ⟨G, h, rfl⟩
 ·exact ⟨G, h, rfl⟩
theorem Rel.fzs {ops : Array Oper} : ∀ (L : List Nat) {s : St} {G : Gam}, Rel E base w0 ok en G s a w → ∃ G', Rel E base w0 ok en G' (fzs ops L s) a w ∧ G'.σ = G.σ
 | [], s, G, h => ⟨G, h, rfl⟩
 | i :: r, s, G, h => by
   unfold Sx.fzs
   split
   ·split
    ·rename_i t _
     obtain ⟨G1, h1, e1⟩ := h.fz (Kh s.T (gF (gF (gF t ops.toList) ops.toList) ops.toList))
     obtain ⟨G2, h2, e2⟩ := Rel.fzs r h1
     exact ⟨G2, h2, e2.trans e1⟩
    ·exact Rel.fzs r h
   ·exact Rel.fzs r h
theorem fzsK_eq (ops : Array Oper) (L : List Nat) (s : St) (k : St → Option R) : fzsK ops L s k = k (fzs ops L s) := by
 unfold fzsK
 cases L with
 | nil => rfl
 | cons i r => exact gC _ _
end Go.Sx
namespace Go.Sx
open Go
open Go.RowKit (Below)
variable {P : Program} {E : Env} {base : Nat} {w0 : GW} {ok : Nat → Prop} {en : Ent} {G G' : Gam} {s : St} {a : Act} {w w' : GW} {R : Type} {M : Mem}
theorem Ua (hE : EnvOK P E) {t : TypeId} {f : Nat} {av : AV} {x : Value} (hv : VR G.D G.σ w av x) {k : AV → Option R} {r : R} (h : jB E t av f k = some r) :
  ∃ y, ∀ w' : GW, (Instr.fieldAt t x f).run P w' = .ok y w' := by
 unfold jB at h
 split at h
 ·simp at h
 ·rename_i i hi
  split at h
  ·simp at h
  ·rename_i p hp
   obtain ⟨gs, hgs, hp⟩ := Z2 hp
   obtain ⟨d, hd, hs, _⟩ := (hE.ty t i hi).und
   rw [hgs] at hs
   obtain ⟨fs, rfl, hf⟩ := JY hs
   have fin : ∀ (a : Addr) (w' : GW), (Instr.fieldAt t (.pointer (some a)) f).run P w' = .ok (.pointer (some (a.add p.1))) w' := by
    intro a w'
    obtain ⟨fld, h1, _, _, h2⟩ := Q1 hf hp a w'
    have h1' : fs[f]? = some fld := by simpa using h1
    simp only [Instr.fieldAt, Sem.run_bind, run_underlying hd w', Result.andThen_ok, h1', qJ, h2, Sem.run_pure]
   split at h
   ·obtain ⟨c, hc, rfl⟩ := hv.ptr_inv
    exact ⟨_, fin _⟩
   ·obtain ⟨a, hD, hat, rfl⟩ := hv.dref_inv
    exact ⟨_, fin _⟩
   ·obtain ⟨c, len, cap, sz, hc, h0, hlen, rfl⟩ := hv.vref_inv
    exact ⟨_, fin _⟩
   ·rw [hv.gp_inv]
    exact ⟨_, fin _⟩
   ·simp at h
theorem U5 (hE : EnvOK P E) {t : TypeId} {av : AV} {g : Nat} (hv : VR G.D G.σ w av (.pointer (some (blkA g)))) {k : AV → Option R} {r : R} (h : va E M t av none none none k = some r) :
  ∃ y, ∀ w' : GW, (Instr.sliceAt t (.pointer (some (blkA g))) none none none).run P w' = .ok y w' := by
 unfold va at h
 split at h
 ·simp at h
 ·rename_i i hi
  obtain ⟨d, hd, hs, _⟩ := (hE.ty t i hi).und
  simp only [JE, Option.bind_some] at h
  generalize hsh : i.sh = sh at h hs
  have arr : ∀ {n et : Nat} {ei : TyI}, sh = .arr n et → E.t et = some ei → ∃ y, ∀ w' : GW, (Instr.sliceAt t (.pointer (some (blkA g))) none none none).run P w' = .ok y w' := by
   intro n et ei hsh' hei
   rw [hsh'] at hs
   rw [kg hs] at hd
   refine ⟨.slice (some (blkA g)) n n, fun w' => ?_⟩
   have hb := qW (P := P) (isS := false) (len := n) (cap := n) (lo := none) (hi := none) (a := 0) (b := n) (.inl ⟨rfl, rfl⟩) (.inl ⟨rfl, rfl⟩) (by omega) (by omega) w'
   unfold Instr.sliceAt
   simp only [Sem.run_bind, run_underlying hd w', Result.andThen_ok, qJ, hb, qL (hE.ty _ _ hei) w', Sem.run_pure, Nat.zero_mul, add_zero, ite_self, Nat.sub_zero]
  split at h
  ·have := hv.str_inv; cases this
  ·have := hv.sl_inv; cases this
  ·have := hv.slc_inv; cases this
  ·simp at h
  ·obtain ⟨_, _, _, _, _, h2⟩ := hv.vec_inv; cases h2
  ·have := hv.nilsl_inv; cases this
  ·split at h
   ·rename_i ei hei; exact arr rfl hei
   ·simp at h
  ·split at h
   ·rename_i ei hei; exact arr rfl hei
   ·simp at h
  ·simp at h
theorem K0 (hE : EnvOK P E) {ev : Operand → AV} {ρ : Operand → Value} (hev : ∀ x, VR G.D G.σ w (ev x) (ρ x)) {t : TypeId} {i : TyI} (hi : E.t t = some i) {gs : List (Nat × TypeId)} (hsh : i.sh = .st gs) {parts : Array (Nat × Operand)} {cs : List AV} (h : QM E gs ev i.zero parts.toList = some cs) :
  ∃ y, ∀ w' : GW, (Instr.build t (parts.map fun (i, x) => (i, ρ x))).run P w' = .ok y w' := by
 obtain ⟨d, hd, hs, _⟩ := (hE.ty t i hi).und
 rw [hsh] at hs
 obtain ⟨fs, rfl, hf⟩ := JY hs
 obtain ⟨hl, hh⟩ := gB hf
 obtain ⟨nz, z, hnz, _, _, hzz, _, hz1, _⟩ := (hE.ty t i hi).info
 have hz : ∀ w' : GW, (zeroValue t).run P w' = .ok z w' := fun w' => by simp [zeroValue, typeInfo, hnz, hzz]
 have hinfo : ∀ f ∈ fs.toList, ∃ n, P.info? f.type = some n := by
  intro f hf'
  obtain ⟨q, hq, rfl⟩ := List.getElem_of_mem hf'
  obtain ⟨_, _, n, hn, _⟩ := hh q hq (by omega)
  exact ⟨n, hn⟩
 have hplA : ∀ w' : GW, (fs.mapM fun f => do pure (f.offset, ← sizeOf f.type) : Sem (Array (Nat × Nat))).run P w' = .ok (fs.toList.map fun f => (f.offset, P.cellsOf f.type)).toArray w' := by
  intro w'
  have hpl := JA hE (w := w') fs.toList hinfo
  rw [Array.mapM_eq_mapM_toList]
  simp only [Sem.run_map, hpl, Result.andThen_ok]
 obtain ⟨vs', h1, h2⟩ := Qj hE hev (place := fun q => ((fs.toList.map fun f => (f.offset, P.cellsOf f.type)).toArray)[q]?) (fun q f fi hq hfi => by
  obtain ⟨hlt, rfl⟩ := List.getElem?_eq_some_iff.1 hq
  obtain ⟨e1, e2, n, hn, _⟩ := hh q (by omega) hlt
  obtain ⟨n', _, hn', hs', _⟩ := (hE.ty _ fi hfi).info
  have hlt' : q < fs.size := by have := hl; simp at this; omega
  simp only [List.getElem?_toArray, List.getElem?_map, Array.getElem?_toList, Array.getElem?_eq_getElem hlt', Option.map_some]
  have e1' : fs[q].offset = gs[q].1 := by simpa using e1
  have e2' : fs[q].type = gs[q].2 := by simpa using e2
  rw [e1', e2']
  simp [Program.cellsOf, hn', hs']) parts.toList i.zero z.cells.toList cs (LR.of_zero hz1) h
 refine ⟨.agg vs'.toArray, fun w' => ?_⟩
 have h2' : Instr.fill (fun q => ((fs.toList.map fun f => (f.offset, P.cellsOf f.type)).toArray)[q]?) z.cells (parts.map fun (i, x) => (i, ρ x)).toList = some vs'.toArray := by
  rw [Array.toList_map]; simpa using h2
 unfold Instr.build
 simp only [Sem.run_bind, hz, Result.andThen_ok, run_underlying hd w', hplA]
 rw [h2']
 rfl
theorem US (hE : EnvOK P E) {ev : Operand → AV} {ρ : Operand → Value} (hev : ∀ x, VR G.D G.σ w (ev x) (ρ x)) {t : TypeId} {i : TyI} (hi : E.t t = some i) {n : Nat} {et : TypeId} (hsh : i.sh = .arr n et) {ei : TyI} (hei : E.t et = some ei) {parts : Array (Nat × Operand)} {cs : List AV} (h : kD ei.size ev i.zero parts.toList = some cs) :
  ∃ y, ∀ w' : GW, (Instr.build t (parts.map fun (i, x) => (i, ρ x))).run P w' = .ok y w' := by
 obtain ⟨d, hd, hs, _⟩ := (hE.ty t i hi).und
 rw [hsh] at hs
 rw [kg hs] at hd
 obtain ⟨nz, z, hnz, _, _, hzz, _, hz1, _⟩ := (hE.ty t i hi).info
 have hz : ∀ w' : GW, (zeroValue t).run P w' = .ok z w' := fun w' => by simp [zeroValue, typeInfo, hnz, hzz]
 obtain ⟨vs', h1, h2⟩ := vt hev parts.toList i.zero z.cells.toList cs (LR.of_zero hz1) h
 refine ⟨.agg vs'.toArray, fun w' => ?_⟩
 have h2' : Instr.fill (fun i => some (i * ei.size, ei.size)) z.cells (parts.map fun (i, x) => (i, ρ x)).toList = some vs'.toArray := by
  rw [Array.toList_map]; simpa using h2
 unfold Instr.build
 simp only [Sem.run_bind, hz, Result.andThen_ok, run_underlying hd w', qL (hE.ty et ei hei) w']
 rw [h2']
 rfl
theorem Yn (hE : EnvOK P E) {ev : Operand → AV} (hev : ∀ x, VR G.D G.σ w (ev x) (a.eval x)) {o : Oper} (hp : vi o = true) {slot : Nat} {k : AV → Option Blk → Option R} {r : R} (h : zu E ev M slot o k = some r) :
  ∃ y, ∀ w' : GW, (execOp a.eval o).run P w' = .ok (.value y) w' := by
 unfold vi at hp
 split at hp
 ·rename_i x ho
  refine ⟨a.eval x, fun w' => ?_⟩
  unfold execOp; rw [ho]; rfl
 ·rename_i t x f ho
  have h' : jB E t (ev x) f (fun v => k v none) = some r := by
   unfold zu at h; rw [ho] at h; exact h
  obtain ⟨y, hy⟩ := Ua hE (hev x) h'
  refine ⟨y, fun w' => ?_⟩
  rw [show execOp a.eval o = (do pure (.value (← Instr.fieldAt t (a.eval x) f))) by unfold execOp; rw [ho]]
  simp only [Sem.run_bind, hy w', Result.andThen_ok, Sem.run_pure]
 ·rename_i t g ho
  have h' : va E M t (ev (.global g)) none none none (fun v => k v none) = some r := by
   unfold zu at h; rw [ho] at h; exact h
  obtain ⟨y, hy⟩ := U5 hE (hev (.global g)) h'
  refine ⟨y, fun w' => ?_⟩
  rw [show execOp a.eval o = (do pure (.value (← Instr.sliceAt t (a.eval (.global g)) none none none))) by unfold execOp; rw [ho]; rfl]
  rw [show a.eval (.global g) = .pointer (some (blkA g)) from rfl]
  simp only [Sem.run_bind, hy w', Result.andThen_ok, Sem.run_pure]
 ·rename_i t parts ho
  have fin : (∃ y, ∀ w' : GW, (Instr.build t (parts.map fun (i, x) => (i, a.eval x))).run P w' = .ok y w') → ∃ y, ∀ w' : GW, (execOp a.eval o).run P w' = .ok (.value y) w' := by
   rintro ⟨y, hy⟩
   refine ⟨y, fun w' => ?_⟩
   rw [show execOp a.eval o = (do pure (.value (← Instr.build t (parts.map fun (i, x) => (i, a.eval x))))) by unfold execOp; rw [ho]]
   simp only [Sem.run_bind, hy w', Result.andThen_ok, Sem.run_pure]
  unfold zu at h
  rw [ho] at h
  simp only at h
  split at h
  ·rename_i i hi
   split at h
   ·rename_i gs hsh
    cases hb : QM E gs ev i.zero parts.toList with
    | none => rw [hb] at h; cases h
    | some cs => exact fin (K0 hE hev hi hsh hb)
   ·rename_i n et hsh
    split at h
    ·rename_i ei hei
     cases hb : kD ei.size ev i.zero parts.toList with
     | none => rw [hb] at h; cases h
     | some cs => exact fin (US hE hev hi hsh hei hb)
    ·cases h
   ·cases h
  ·cases h
 ·rename_i t ix ho
  unfold zu at h
  rw [ho] at h
  simp only at h
  split at h
  ·rename_i vs hvs
   split at h
   ·rename_i v hv
    have ht := hev t
    rw [hvs] at ht
    obtain ⟨xs, h1, h2, h3⟩ := ht.tup_inv
    obtain ⟨hlt, rfl⟩ := List.getElem?_eq_some_iff.1 hv
    refine ⟨xs[ix]'(by omega), fun w' => ?_⟩
    rw [show execOp a.eval o = (do pure (.value (← Instr.extract (a.eval t) ix))) by unfold execOp; rw [ho], h3]
    simp [Instr.extract, show ix < xs.length by omega]
   ·cases h
  ·cases h
 ·cases hp
theorem qdf (hE : EnvOK P E) {ev : Operand → AV} (hev : ∀ x, VR G.D G.σ w (ev x) (a.eval x)) {o : Oper} {L : List Nat} {i : Nat} (hlag : Yx L i o ev = true) (hL : L.any (Nat.beq i) = true) {slot : Nat} {k : AV → Option Blk → Option R} {r : R} (h : zu E ev M slot o k = some r) :
  ∃ y, ∀ w' : GW, (∀ c, G.D c → w'.heap[c]? = w.heap[c]?) → (execOp a.eval o).run P w' = .ok (.value y) w' := by
 unfold Yx at hlag
 rw [hL] at hlag
 simp only [cond_true] at hlag
 split at hlag
 ·rename_i t x ho
  have h' : Jw E M t (ev x) (fun v => k v none) = some r := by
   unfold zu at h; rw [ho] at h; exact h
  obtain ⟨y, hy⟩ := Vb hE (hev x) hlag h'
  refine ⟨y, fun w' hw => ?_⟩
  rw [show execOp a.eval o = (do pure (.value (← Instr.loadAt t (a.eval x)))) by unfold execOp; rw [ho]]
  simp only [Sem.run_bind, hy w' hw, Result.andThen_ok, Sem.run_pure]
 ·cases hlag
theorem gO {S : GW → Prop} {ops : Array Oper} {i : Nat} {o : Oper} {y : Value} {K : Act → GW → Prop} (ho : ops[i]? = some o) (hy : YieldsIf P ops S o y a) (hS : S w) (h : wpOp P ops (fun _ _ _ => False) i K a w) : K (a.put o.dst y) w := by
 unfold wpOp at h
 rw [ho] at h
 simp only at h
 rcases hy with ⟨hw, hv⟩ | ⟨hw, rfl⟩
 ·rw [if_pos hw] at h
  rcases h with h | ⟨_, h⟩
  ·unfold Oper.wp at h
   rw [hv w hS] at h
   exact h
  ·obtain ⟨_, _, h⟩ := h; exact h.elim
 ·rw [if_neg (by rw [hw]; simp)] at h
  exact h
theorem zJ : ∀ {π : List Nat} {i : Nat}, i ∈ π → posOf i π < π.length ∧ π[posOf i π]? = some i
 | [], _, h => by simp at h
 | j :: r, i, h => by
   unfold posOf
   cases e : Nat.beq j i with
   | true => exact ⟨by simp, by simp [Nat.eq_of_beq_eq_true e]⟩
   | false =>
     have hne : j ≠ i := fun h' => by subst h'; rw [Nat.beq_refl] at e; cases e
     obtain ⟨h1, h2⟩ := zJ (π := r) (i := i) (by
      rcases List.mem_cons.1 h with h | h
      ·exact absurd h.symm hne
      ·exact h)
     exact ⟨by simp [h1], by simpa using h2⟩
structure PermOK (ops : Array Oper) (π : List Nat) : Prop where
 len : π.length = ops.size
 all : ∀ i, i < ops.size → i ∈ π
 lt : ∀ i ∈ π, i < ops.size
 once : ∀ q (h : q < π.length), posOf π[q] π = q
 after : ∀ (i : Nat) (o : Oper), ops[i]? = some o → ∀ e ∈ o.after.toList, e.on < ops.size
 guard : ∀ (i : Nat) (o : Oper) (p : Nat × Bool), ops[i]? = some o → o.guard = some p → p.1 < ops.size
theorem Rd : ∀ {π : List Nat}, qa3 π = true → ∀ q (h : q < π.length), posOf π[q] π = q
 | [], _, q, h => by simp at h
 | j :: r, ho, q, h => by
   simp only [qa3, Bool.and_eq_true, Bool.not_eq_true'] at ho
   cases q with
   | zero =>
     simp only [List.getElem_cons_zero]
     unfold posOf
     rw [Nat.beq_refl]; rfl
   | succ q =>
     have hq : q < r.length := by simpa using h
     simp only [List.getElem_cons_succ]
     have hne : Nat.beq j r[q] = false := by
      cases e : Nat.beq j r[q] with
      | false => rfl
      | true =>
        have : r.any (Nat.beq j) = true := List.any_eq_true.2 ⟨r[q], List.getElem_mem _, e⟩
        rw [ho.1] at this; cases this
     unfold posOf
     rw [hne]
     show posOf r[q] r + 1 = q + 1
     rw [Rd ho.2 q hq]
theorem perm_of {ops : Array Oper} {π : List Nat} (h : M4 ops.toList.length π = true) (hn : ops.toList.all (Vr ops.toList.length) = true) : PermOK ops π := by
 unfold M4 at h
 simp only [Bool.and_eq_true] at h
 have hl : π.length = ops.toList.length := Nat.eq_of_beq_eq_true h.1.1.1
 have hall : ∀ i, i < ops.toList.length → i ∈ π := by
  intro i hi
  have := List.all_eq_true.1 h.1.1.2 i (by simpa using hi)
  obtain ⟨j, hj, e⟩ := List.any_eq_true.1 this
  rw [Nat.eq_of_beq_eq_true e]; exact hj
 refine ⟨by simpa using hl, fun i hi => hall i (by simpa using hi), fun i hi => ?_, Rd h.2, fun i o ho e he => ?_, fun i o p ho hp => ?_⟩
 ·have h1 := List.all_eq_true.1 h.1.2 i hi
  have : i < ops.toList.length := Nat.le_of_ble_eq_true h1
  simpa using this
 ·have hm : o ∈ ops.toList := by have := Array.mem_of_getElem? ho; simpa using this
  have := List.all_eq_true.1 hn o hm
  unfold Vr at this
  simp only [Bool.and_eq_true] at this
  have h2 := List.all_eq_true.1 this.1 e he
  have : e.on < ops.toList.length := Nat.le_of_ble_eq_true h2
  simpa using this
 ·have hm : o ∈ ops.toList := by have := Array.mem_of_getElem? ho; simpa using this
  have := List.all_eq_true.1 hn o hm
  unfold Vr at this
  simp only [Bool.and_eq_true] at this
  rw [hp] at this
  have h2 : p.1 < ops.toList.length := Nat.le_of_ble_eq_true this.2
  simpa using h2
theorem Zi {ops : Array Oper} {π : List Nat} (h : PermOK ops π) {i : Nat} {o : Oper} (ho : ops[i]? = some o) : (jW π ops)[posOf i π]? = some (Yi π o) := by
 have hi : i < ops.size := (Array.getElem?_eq_some_iff.1 ho).1
 obtain ⟨h1, h2⟩ := zJ (h.all i hi)
 have e : ops.toList.getD i default = o := by
  rw [List.getD_eq_getElem?_getD]
  simp [ho]
 unfold jW
 rw [List.getElem?_toArray, List.getElem?_map, h2]
 simp only [Option.map_some, e]
theorem qc5 {ops : Array Oper} {π : List Nat} (h : PermOK ops π) {i j : Nat} (hi : i < ops.size) (hj : j < ops.size) (e : posOf i π = posOf j π) : i = j := by
 have h1 := (zJ (h.all i hi)).2
 have h2 := (zJ (h.all j hj)).2
 rw [e, h2] at h1
 exact (Option.some.inj h1).symm
theorem perm_wp {ops : Array Oper} {π : List Nat} (h : PermOK ops π) {Q : Exit → Act → GW → Prop} : ∀ (fuel : Nat) (listed listed' : Array Bool) (a : Act) (w : GW), listed.size = ops.size → listed'.size = ops.size → (∀ i, i < ops.size → listed'.getD (posOf i π) true = listed.getD i true) →
  wpAny P .any (jW π ops) Q fuel listed' a w → wpAny P .any ops Q fuel listed a w := by
 have hsz : (jW π ops).size = ops.size := by simp [jW, h.len]
 have hpos : ∀ i, i < ops.size → posOf i π < ops.size := fun i hi => by rw [← h.len]; exact (zJ (h.all i hi)).1
 have hready : ∀ (listed listed' : Array Bool), listed.size = ops.size → listed'.size = ops.size → (∀ i, i < ops.size → listed'.getD (posOf i π) true = listed.getD i true) → ∀ i, i ∈ Region.ready .any ops listed → posOf i π ∈ Region.ready .any (jW π ops) listed' := by
  intro listed listed' hs hs' hl i hi
  obtain ⟨h1, o, ho, h2⟩ := mem_ready.1 hi
  have hlt := (Array.getElem?_eq_some_iff.1 ho).1
  refine mem_ready.2 ⟨by rw [hl i hlt]; exact h1, _, Zi h ho, fun e he hb => ?_⟩
  simp only [Yi, List.mem_toArray, List.mem_map, Array.mem_toList_iff] at he
  obtain ⟨e', he', rfl⟩ := he
  have hon := h.after i o ho e' (by simpa using he')
  have h3 := h2 e' he' hb
  have h4 := hl e'.on hon
  have hp := hpos e'.on hon
  simp only [Array.getD_eq_getD_getElem?] at h3 h4 ⊢
  rw [Array.getElem?_eq_getElem (by omega)] at h3 h4 ⊢
  rw [Array.getElem?_eq_getElem (by omega)] at h4
  simp at h3 h4 ⊢
  rw [h4]; exact h3
 have hready' : ∀ (listed listed' : Array Bool), listed.size = ops.size → listed'.size = ops.size → (∀ i, i < ops.size → listed'.getD (posOf i π) true = listed.getD i true) → Region.ready .any ops listed = [] → Region.ready .any (jW π ops) listed' = [] := by
  intro listed listed' hs hs' hl h0
  apply List.eq_nil_iff_forall_not_mem.2
  intro q hq
  obtain ⟨h1, o', ho', h2⟩ := mem_ready.1 hq
  have hlt : q < ops.size := by have := (Array.getElem?_eq_some_iff.1 ho').1; omega
  have hi : π[q]'(by rw [h.len]; exact hlt) < ops.size := h.lt _ (List.getElem_mem _)
  generalize hpi : π[q]'(by rw [h.len]; exact hlt) = i at hi
  have hposq : posOf i π = q := by
   have := h.once q (by rw [h.len]; exact hlt)
   rw [hpi] at this
   exact this
  have ho : ops[i]? = some ops[i] := Array.getElem?_eq_getElem hi
  have e1 := Zi h ho
  rw [hposq, ho'] at e1
  cases e1
  have : i ∈ Region.ready .any ops listed := by
   refine mem_ready.2 ⟨by rw [← hl i hi, hposq]; exact h1, _, ho, fun e he hb => ?_⟩
   have h3 := h2 { e with on := posOf e.on π } (by
    simp only [Yi, List.mem_toArray, List.mem_map, Array.mem_toList_iff]
    exact ⟨e, he, rfl⟩) hb
   have hon := h.after i _ ho e (by simpa using he)
   have h4 := hl e.on hon
   have hp := hpos e.on hon
   simp only [Array.getD_eq_getD_getElem?] at h3 h4 ⊢
   rw [Array.getElem?_eq_getElem (by omega)] at h3 h4 ⊢
   rw [Array.getElem?_eq_getElem (by omega)] at h4
   simp at h3 h4 ⊢
   rw [← h4]; exact h3
  rw [h0] at this
  cases this
 have hop : ∀ (i : Nat) (K : Act → GW → Prop) (a : Act) (w : GW), i < ops.size → wpOp P (jW π ops) Q (posOf i π) K a w → wpOp P ops Q i K a w := by
  intro i K a w hi hh
  have ho : ops[i]? = some ops[i] := Array.getElem?_eq_getElem hi
  unfold wpOp at hh ⊢
  rw [Zi h ho] at hh
  rw [ho]
  simp only at hh ⊢
  have hw : Region.wanted (Yi π ops[i]) (yielded (jW π ops) a.tmps) = Region.wanted ops[i] (yielded ops a.tmps) := by
   unfold Region.wanted Yi
   cases hg : (ops[i]).guard with
   | none => rfl
   | some p =>
     have hp := h.guard i _ p ho hg
     have hop' : ops[p.1]? = some ops[p.1] := Array.getElem?_eq_getElem hp
     have e : yielded (jW π ops) a.tmps (posOf p.1 π) = yielded ops a.tmps p.1 := by
      unfold yielded
      rw [Zi h hop', hop']
      rfl
     simp only [Option.map_some, e]
  rw [hw] at hh
  exact hh
 intro fuel
 induction fuel with
 | zero =>
   intro listed listed' a w hs hs' hl hh
   refine ⟨?_, hh.2⟩
   apply List.eq_nil_iff_forall_not_mem.2
   intro i hi
   have := hready listed listed' hs hs' hl i hi
   rw [hh.1] at this
   cases this
 | succ fuel ih =>
   intro listed listed' a w hs hs' hl hh
   refine ⟨fun h0 => hh.1 (hready' listed listed' hs hs' hl h0), fun i hi => ?_⟩
   have hlt : i < ops.size := by
    obtain ⟨_, o, ho, _⟩ := mem_ready.1 hi
    exact (Array.getElem?_eq_some_iff.1 ho).1
   refine hop i _ a w hlt (wpOp_mono (fun a' w' h' => ih _ _ a' w' (by simp [hs]) (by simp [hs']) (fun q hq => ?_) h') (hh.2 _ (hready listed listed' hs hs' hl i hi)))
   by_cases e : q = i
   ·subst e
    have hp := hpos q hq
    simp [hs, hs', hq, hp]
   ·have hp : posOf i π ≠ posOf q π := fun e' => e (qc5 h hq hlt e'.symm)
    rw [getD_set_ne true hp, getD_set_ne true (fun e' => e e'.symm)]
    exact hl q hq
end Go.Sx
namespace Go.Sx
open Go
open Go.RowKit (Below)
variable {P : Program} {E : Env} {base : Nat} {w0 : GW} {ok : Nat → Prop} {en : Ent} {G G' : Gam} {s : St} {a : Act} {w w' : GW} {R : Type} {M : Mem}
def Float (ops : Array Oper) (m i : Nat) : Prop := ∃ hi : i < ops.size, (vi ops[i] = true ∨ GI ops[i] = true) ∧ ∀ (k : Nat) (ok : Oper), ops[k]? = some ok → i < k → (∀ e ∈ ok.after, Region.binds .any e = true → e.on ≠ i) → (ops[i]).apart ops ok = true
theorem qhn {ops : Array Oper} {m i : Nat} (hi : i < ops.size) (h : Vu ops m ops.toList.length i = true) : Float ops m i := by
 unfold Vu at h
 simp only [Bool.and_eq_true] at h
 obtain ⟨h1, h2⟩ := h
 refine ⟨hi, ?_, fun k ok hk hik hno => ?_⟩
 ·rw [Bool.or_eq_true] at h1
  rcases h1 with h1 | h2
  ·unfold Gx at h1
   rw [Array.getElem?_eq_getElem hi] at h1
   exact .inl h1
  ·unfold Zm at h2
   rw [Array.getElem?_eq_getElem hi] at h2
   exact .inr h2
 ·have hlt : k < ops.size := (Array.getElem?_eq_some_iff.1 hk).1
  have := List.all_eq_true.1 h2 k (by simpa using hlt)
  simp only [Bool.or_eq_true] at this
  rcases this with h3 | h3 | h3
  ·have : k ≤ i := Nat.le_of_ble_eq_true h3
   omega
  ·unfold Vo at h3
   rw [hk] at h3
   obtain ⟨e, he, hb⟩ := List.any_eq_true.1 h3
   simp only [Bool.and_eq_true] at hb
   exact absurd (Nat.eq_of_beq_eq_true hb.2) (hno e (by simpa using he) hb.1)
  ·unfold Qm at h3
   rw [Array.getElem?_eq_getElem hi, hk] at h3
   exact h3
structure Drawn (ops : Array Oper) (bf : List Nat) (m : Nat) : Prop where
 lt : ∀ j q, j < ops.size → Nat.testBit (bf.getD j 0) q = true → q < j
 apart : ∀ i j (hj : j < ops.size) (hi : i < j), j < m → Nat.testBit (bf.getD j 0) i = true ∨ (ops[i]).apart ops ops[j] = true
 chain : ∀ i j, j < ops.size → m ≤ j → i < j → Nat.testBit (bf.getD j 0) i = true ∨ Float ops m i
 sel : ∀ (j : Nat) (o : Oper) (cs : Array SelectCase) (b : Bool), ops[j]? = some o → o.op ≠ .select cs b
 bit : ∀ j (hj : j < ops.size) e, e ∈ (ops[j]).after.toList → Region.binds .any e = true → Nat.testBit (bf.getD j 0) e.on = true
 edge : ∀ j q (hj : j < ops.size), Nat.testBit (bf.getD j 0) q = true → ∃ e ∈ (ops[j]).after.toList, Region.binds .any e = true ∧ (q = e.on ∨ (e.on < j ∧ Nat.testBit (bf.getD e.on 0) q = true))
theorem qhz {ops : Array Oper} {m : Nat} (h : MQ ops (zB ops.toList []) m ops.toList.length = true) : Drawn ops (zB ops.toList []) m := by
 unfold MQ at h
 rw [Bool.and_eq_true] at h
 obtain ⟨hsel, h⟩ := h
 rw [List.all_eq_true] at h
 have hj : ∀ j, j < ops.size → Nat.blt ((zB ops.toList []).getD j 0) (2 ^ j) = true ∧ (bif Nat.blt j m then (List.range j).all (fun i => Nat.testBit ((zB ops.toList []).getD j 0) i || Qm ops i j)
   else (Nat.beq ((zB ops.toList []).getD j 0 + 1) (2 ^ j) || (List.range j).all (fun i => Nat.testBit ((zB ops.toList []).getD j 0) i || Vu ops m ops.toList.length i))) = true := by
  intro j hj
  have := h j (by simp; exact hj)
  simpa only [Bool.and_eq_true] using this
 obtain ⟨b1, b2, b3⟩ := YN ops.toList []
 have hlt : ∀ j q, j < ops.size → Nat.testBit ((zB ops.toList []).getD j 0) q = true → q < j := by
  intro j q h1 h2
  have h3 : (zB ops.toList []).getD j 0 < 2 ^ j := Nat.le_of_ble_eq_true (hj j h1).1
  rcases Nat.lt_or_ge q j with h4 | h4
  ·exact h4
  ·have : (zB ops.toList []).getD j 0 < 2 ^ q := Nat.lt_of_lt_of_le h3 (Nat.pow_le_pow_right (by omega) h4)
   rw [Nat.testBit_lt_two_pow this] at h2
   cases h2
 refine ⟨hlt, ?_, ?_, ?_, ?_, ?_⟩
 ·intro i j h1 h2 h3
  have := (hj j h1).2
  rw [show Nat.blt j m = true from Nat.ble_eq_true_of_le h3] at this
  simp only [cond_true, List.all_eq_true, List.mem_range, Bool.or_eq_true] at this
  rcases this i h2 with h4 | h4
  ·exact .inl h4
  ·refine .inr ?_
   unfold Qm at h4
   rw [Array.getElem?_eq_getElem (by omega), Array.getElem?_eq_getElem h1] at h4
   exact h4
 ·intro i j h1 h2 h3
  have := (hj j h1).2
  have e : Nat.blt j m = false := by
   cases hb : Nat.blt j m with
   | false => rfl
   | true => have : j < m := Nat.le_of_ble_eq_true hb; omega
  rw [e] at this
  simp only [cond_false, Bool.or_eq_true] at this
  rcases this with this | this
  ·have h4 := Nat.eq_of_beq_eq_true this
   have h5 : (zB ops.toList []).getD j 0 = 2 ^ j - 1 := by omega
   rw [h5, Nat.testBit_two_pow_sub_one]
   exact .inl (by simpa using h3)
  ·have h4 := List.all_eq_true.1 this i (by simpa using h3)
   rw [Bool.or_eq_true] at h4
   rcases h4 with h4 | h4
   ·exact .inl h4
   ·exact .inr (qhn (by omega) h4)
 ·intro j o cs b ho heq
  have hm : o ∈ ops.toList := by have := Array.mem_of_getElem? ho; simpa using this
  have := List.all_eq_true.1 hsel o hm
  unfold B4 at this
  rw [heq] at this
  cases this
 ·intro j h1 e he hb
  have h3 := b3 j (by simpa using h1)
  simp only [List.length_nil, Nat.zero_add] at h3
  rw [h3]
  exact Np (by simpa using he) hb
 ·intro j q h1 h2
  have h3 := b3 j (by simpa using h1)
  simp only [List.length_nil, Nat.zero_add] at h3
  rw [h3] at h2
  obtain ⟨e, he, hb, hq⟩ := Ur h2
  refine ⟨e, by simpa using he, hb, ?_⟩
  rcases hq with hq | hq
  ·exact .inl hq
  ·refine .inr ?_
   rw [List.getD_eq_getElem?_getD, List.getElem?_take] at hq
   by_cases hlt' : e.on < j
   ·rw [if_pos hlt', ← List.getD_eq_getElem?_getD] at hq
    exact ⟨hlt', hq⟩
   ·rw [if_neg hlt'] at hq
    simp at hq
def K9 (ops : Array Oper) (bf : List Nat) (S : Nat → Bool) : Prop := ∀ j, j < ops.size → S j = true → ∀ q, Nat.testBit (bf.getD j 0) q = true → S q = true
noncomputable def allT (n0 : Nat) (hd : List Oper) (tr : List Oc) (s0 : St) : List AV := (accS n0 (fun _ => true) 0 hd tr s0).T
structure InvS (E : Env) (base : Nat) (w0 : GW) (ok : Nat → Prop) (en : Ent) (n0 : Nat) (hd : List Oper) (tr : List Oc) (s0 : St) (S : Nat → Bool) (G : Gam) (a : Act) (w : GW) : Prop where
 rel : Rel E base w0 ok en G (accS n0 S 0 hd tr s0) a w
 none : ∀ j, j < hd.length → S j = false → G.σ (n0 + j) = .none
 gh : ∀ b, n0 ≤ b → (accS n0 S 0 hd tr s0).M[b]? = some .gmap → ∃ c es clock l, G.σ b = .blk c ∧ w.heap[c]? = some (.map es clock) ∧ l.Perm es.toList ∧ PR G.D G.σ w (insS (allT n0 hd tr s0) b S 0 hd) l
 gd : ∀ q (_ : q < hd.length), S q = true → ∀ b p, insAt (allT n0 hd tr s0) b hd[q] = some p → G.σ b ≠ .none
theorem QP {ops : Array Oper} {x y : Oper} (h : x.apart ops y = true) : (∀ d, x.dst = some d → d ∉ y.looksAt ops) ∧ (∀ d, y.dst = some d → d ∉ x.looksAt ops) ∧ (∀ d, x.dst = some d → y.dst ≠ some d) :=
 let ⟨a, b, c⟩ := Oper.apart_spec h
 ⟨a, c, b⟩
theorem GA {ops : Array Oper} {bf : List Nat} {m : Nat} (hD : Drawn ops bf m) (hm : m ≤ ops.size) {n0 : Nat} {tr : List Oc} {s0 : St} {S : Nat → Bool} (hS : K9 ops bf S) {i : Nat} (hi : i < m) (hSi : S i = false) (hbits : ∀ q, Nat.testBit (bf.getD i 0) q = true → S q = true)
  {t : Nat} (ht : t ∈ (ops[i]'(by omega)).looksAt ops) : (accS n0 S 0 (ops.toList.take m) tr s0).T[t]? = (accS n0 (fun q => decide (q < 0 + i)) 0 (ops.toList.take m) tr s0).T[t]? := by
 refine qal _ _ _ _ _ rfl fun j hj hd => ?_
 simp only [Nat.zero_add]
 have hjm : j < m := by simp at hj; omega
 have hd' : (ops[j]'(by omega)).dst = some t := by simpa using hd
 by_cases hji : j < i
 ·rw [decide_eq_true hji]
  rcases hD.apart j i (by omega) hji hi with h | h
  ·exact hbits j h
  ·exact absurd ht ((QP h).1 t hd')
 ·rw [decide_eq_false hji]
  by_cases e : j = i
  ·rw [e]; exact hSi
  ·rcases hD.apart i j (by omega) (by omega) hjm with h | h
   ·cases hSj : S j with
    | false => rfl
    | true =>
      have := hS j (by omega) hSj i h
      rw [hSi] at this; cases this
   ·exact absurd ht ((QP h).2.1 t hd')
theorem head_wt {ops : Array Oper} {m : Nat} (hm : m ≤ ops.size) {n0 : Nat} {tr : List Oc} {s0 : St} {S : Nat → Bool} {i : Nat} (hi : i < m) (h : InvS E base w0 ok en n0 (ops.toList.take m) tr s0 S G a w)
  (hlook : ∀ t, t ∈ (ops[i]'(by omega)).looksAt ops → (accS n0 S 0 (ops.toList.take m) tr s0).T[t]? = (accS n0 (fun q => decide (q < i)) 0 (ops.toList.take m) tr s0).T[t]?) :
  ∀ b, Wt ops (ops[i]'(by omega)) (accS n0 (fun q => decide (q < i)) 0 (ops.toList.take m) tr s0).T b → Region.wanted (ops[i]'(by omega)) (yielded ops a.tmps) = b := by
  intro b hb
  have hin : ∀ g, (∃ j want, (ops[i]'(by omega)).guard = some (j, want) ∧ (ops[j]?).bind (·.dst) = some g) → g ∈ (ops[i]'(by omega)).looksAt ops := by
   rintro g ⟨j, want, hgu, hj⟩
   unfold Oper.looksAt
   rw [hgu]
   simp only [List.mem_append]
   exact .inr (by simp [hj])
  refine hb.wanted ?_ (fun g t hg ht => ?_) (fun g hg ht => ?_)
  ·rw [h.rel.size, (vv _ _ _ _).2, (vv _ _ _ _).2]
  ·rw [← hlook g (hin g hg)] at ht
   exact h.rel.bools ht
  ·rw [← hlook g (hin g hg)] at ht
   exact h.rel.undefs ht
theorem qbh {ops : Array Oper} {m : Nat} (hm : m ≤ ops.size) {n0 : Nat} {tr : List Oc} {s0 : St} {S : Nat → Bool} {i : Nat} (hi : i < m) (h : InvS E base w0 ok en n0 (ops.toList.take m) tr s0 S G a w)
  (hlook : ∀ t, t ∈ (ops[i]'(by omega)).looksAt ops → (accS n0 S 0 (ops.toList.take m) tr s0).T[t]? = (accS n0 (fun q => decide (q < i)) 0 (ops.toList.take m) tr s0).T[t]?) :
  ∀ x, VR G.D G.σ w (evM (accS n0 (fun q => decide (q < i)) 0 (ops.toList.take m) tr s0).T (ops[i]'(by omega)) x) (a.eval x) := by
   intro x
   unfold evM
   cases x with
   | tmp t =>
     simp only
     cases hany : (ops[i]'(by omega)).op.operands.toList.any (isT t) with
     | false => exact .junk _
     | true =>
       simp only [cond_true]
       obtain ⟨y, hy1, hy2⟩ := List.any_eq_true.1 hany
       have hty : y = .tmp t := by
        cases y with
        | tmp u => exact congrArg _ (Nat.eq_of_beq_eq_true hy2)
        | _ => cases hy2
       subst hty
       have hin : t ∈ (ops[i]'(by omega)).looksAt ops := by
        unfold Oper.looksAt
        simp only [List.mem_append, List.mem_filterMap]
        exact .inl ⟨_, hy1, rfl⟩
       have e := hlook t hin
       have := qR (G := G) (w := w) (a := a) h.rel.val (.tmp t)
       simp only [evO, vF] at this ⊢
       rw [← e]
       exact this
   | global g => exact qR (G := G) (w := w) (a := a) (T := []) (fun t v ht => by simp at ht) (.global g)
   | func f => exact qR (G := G) (w := w) (a := a) (T := []) (fun t v ht => by simp at ht) (.func f)
   | const v => exact qR (G := G) (w := w) (a := a) (T := []) (fun t v ht => by simp at ht) (.const v)
theorem qg7 (hE : EnvOK P E) {ops : Array Oper} {bf : List Nat} {m : Nat} (hD : Drawn ops bf m) (hm : m ≤ ops.size) {n0 : Nat} {tr : List Oc} {s0 : St} (hlen : tr.length = (ops.toList.take m).length)
  (hdi : zX (ops.toList.take m) = true) (hfr : gY (ops.toList.take m) = true)
  {S S' : Nat → Bool} (hS : K9 ops bf S) {i : Nat} (hi : i < m) (hSi : S i = false) (hbits : ∀ q, Nat.testBit (bf.getD i 0) q = true → S q = true) (hS' : S' i = true) (hSS : ∀ q, q ≠ i → S' q = S q)
  (h : InvS E base w0 ok en n0 (ops.toList.take m) tr s0 S G a w) (hslotM : (accS n0 S 0 (ops.toList.take m) tr s0).M[n0 + i]? = some .dead)
  (hadd : accS n0 S' 0 (ops.toList.take m) tr s0 = qT n0 i (ops[i]'(by omega)) (accS n0 S 0 (ops.toList.take m) tr s0) (some (.junk, Option.none)))
  {t : TypeId} {mo x v : Operand} {i' : TyI} {kt et : TypeId} {kk : IntKind} {b : Nat} {n : Int} (ho : (ops[i]'(by omega)).op = .insert t mo x v) (hins : jP (ops[i]'(by omega)) = true) (hti : E.t t = some i') (hsh : i'.sh = .map kt et) (hkt : (E.t kt).map TyI.sh = some (.int kk))
  (hm1 : evM (accS n0 (fun q => decide (q < i)) 0 (ops.toList.take m) tr s0).T (ops[i]'(by omega)) mo = .mref b) (hx1 : evM (accS n0 (fun q => decide (q < i)) 0 (ops.toList.take m) tr s0).T (ops[i]'(by omega)) x = .int kk n) (hb : n0 ≤ b)
  (hMr : (gu n0 (bf.getD i 0) 0 (accS n0 (fun q => decide (q < i)) 0 (ops.toList.take m) tr s0).M)[b]? = some .gmap)
  (hev : ∀ x, VR G.D G.σ w (evM (accS n0 (fun q => decide (q < i)) 0 (ops.toList.take m) tr s0).T (ops[i]'(by omega)) x) (a.eval x))
  {K : Act → GW → Prop} {Q : Exit → Act → GW → Prop} (hK : ∀ G' a' w', InvS E base w0 ok en n0 (ops.toList.take m) tr s0 S' G' a' w' → K a' w') : (ops[i]'(by omega)).wp P a w K Q := by
 have hil : i < (ops.toList.take m).length := by simp; omega
 have hoi : (ops.toList.take m)[i] = ops[i]'(by omega) := by simp
 obtain ⟨mt, kk0, n00, rfl, rfl, hdst⟩ : ∃ mt kk0 n00, mo = .tmp mt ∧ x = .const (.int kk0 n00) ∧ (ops[i]'(by omega)).dst = Option.none := by
  have hins' := hins
  unfold jP at hins'
  rw [ho] at hins'
  split at hins'
  ·rename_i e
   cases e
   simp only [Bool.and_eq_true, Option.isNone_iff_eq_none] at hins'
   exact ⟨_, _, _, rfl, rfl, hins'.2⟩
  ·cases hins'
 obtain ⟨rfl, rfl⟩ : kk0 = kk ∧ n00 = n := by
  have : (AV.int kk0 n00) = .int kk n := hx1
  cases this
  exact ⟨rfl, rfl⟩
 have hTs : ∀ d, (∀ j (hj : j < (ops.toList.take m).length), i ≤ j → (ops.toList.take m)[j].dst ≠ some d) → (accS n0 (fun q => decide (q < i)) 0 (ops.toList.take m) tr s0).T[d]? = (allT n0 (ops.toList.take m) tr s0)[d]? := by
  intro d hd
  refine qal _ _ _ _ _ rfl fun j hj hdj => ?_
  rw [Nat.zero_add, decide_eq_true]
  apply Nat.lt_of_not_le
  intro hij
  exact hd j hj hij hdj
 have hfree : ∀ d, (isT d (.tmp mt) = true ∨ isT d v = true) → ∀ j (hj : j < (ops.toList.take m).length), i ≤ j → (ops.toList.take m)[j].dst ≠ some d := by
  intro d hd j hj hij hdj
  have := Zu hfr i j hil hj hij t (.tmp mt) (.const (.int kk0 n00)) v (by rw [hoi]; exact ho) (by rw [hoi]; exact hins) d hdj
  rcases hd with hd | hd
  ·rw [this.1] at hd; cases hd
  ·rw [this.2] at hd; cases hd
 have hops : (ops[i]'(by omega)).op.operands.toList = [.tmp mt, .const (.int kk0 n00), v] := by rw [ho]; rfl
 have hm2 : evO (allT n0 (ops.toList.take m) tr s0) (.tmp mt) = .mref b := by
  rw [← hm1]
  unfold evM
  simp only [hops, List.any_cons, isT, Nat.beq_refl, Bool.true_or, cond_true, evO, vF]
  rw [hTs mt (hfree mt (.inl (Nat.beq_refl _)))]
 have hv2 : evM (accS n0 (fun q => decide (q < i)) 0 (ops.toList.take m) tr s0).T (ops[i]'(by omega)) v = evO (allT n0 (ops.toList.take m) tr s0) v := by
  unfold evM
  cases v with
  | tmp d =>
    simp only [hops, List.any_cons, isT, Nat.beq_refl, Bool.true_or, Bool.or_true, cond_true, evO, vF]
    rw [hTs d (hfree d (.inr (Nat.beq_refl _)))]
  | _ => rfl
 have hat : insAt (allT n0 (ops.toList.take m) tr s0) b (ops.toList.take m)[i] = some (.int kk0 n00, evO (allT n0 (ops.toList.take m) tr s0) v) := by
  rw [hoi]
  unfold insAt
  rw [ho]
  simp only [hins, hm2, isMr, Nat.beq_refl, Bool.and_self, cond_true]
  rfl
 have hat2 : ∀ b2 p, insAt (allT n0 (ops.toList.take m) tr s0) b2 (ops.toList.take m)[i] = some p → b2 = b := by
  intro b2 p hp
  rw [hoi] at hp
  obtain ⟨_, m2, _, _, _, ho2, _, hmm, _⟩ := g9 hp
  rw [ho] at ho2
  cases ho2
  rw [hm2] at hmm
  cases hmm
  rfl
 have hMb : (accS n0 S 0 (ops.toList.take m) tr s0).M[b]? = some .gmap := by
  rw [ZZ] at hMr
  obtain ⟨y, hy, hx⟩ := Option.map_eq_some_iff.1 hMr
  simp only [Nat.zero_add] at hx
  have hblt : Nat.blt b n0 = false := by
   cases hbb : Nat.blt b n0 with
   | false => rfl
   | true => have : b < n0 := Nat.le_of_ble_eq_true hbb; omega
  rw [hblt] at hx
  simp only [cond_false] at hx
  cases hbit : Nat.testBit (bf.getD i 0) (b - n0) with
  | false => rw [hbit] at hx; cases hx
  | true =>
    rw [hbit] at hx
    simp only [cond_true] at hx
    subst hx
    rw [← hy]
    refine Dj _ _ _ _ _ rfl fun j hj hq => ?_
    have e2 : b - n0 = j := by omega
    rw [e2] at hbit
    simp only [Nat.zero_add]
    rw [hbits j hbit, decide_eq_true (hD.lt i j (by omega) hbit)]
 obtain ⟨c, es, clock, l, g1, g2, g3, g4⟩ := h.gh b hb hMb
 have hmm := hev (.tmp mt)
 rw [hm1] at hmm
 obtain ⟨c', hc', hmv⟩ := hmm.mref_inv
 rw [g1] at hc'
 cases hc'
 have hxx := hev (.const (.int kk0 n00))
 have hvv := hev v
 rw [hv2] at hvv
 obtain ⟨d, hd, hs, _⟩ := (hE.ty t i' hti).und
 rw [hsh] at hs
 rw [JZ hs] at hd
 obtain ⟨ki, hki, hks⟩ := Option.map_eq_some_iff.1 hkt
 obtain ⟨d2, hd2, hs2, _⟩ := (hE.ty kt ki hki).und
 rw [hks] at hs2
 rw [vb hs2] at hd2
 have hkeys : ∀ e ∈ es.toList, ∃ n', e.key = .int kk0 n' ∧ n' ≠ n00 := by
  intro e he
  obtain ⟨p, hp, hk, _⟩ := g4.mem (g3.mem_iff.2 he)
  obtain ⟨q, hq, hSq, hpq⟩ := R5 hp
  rw [Nat.zero_add] at hSq
  have hqi : q ≠ i := fun e => by rw [e, hSi] at hSq; cases hSq
  obtain ⟨t2, m2, kk2, n2, v2, ho2, hi2, _, rfl⟩ := g9 hpq
  have := gZ hdi q i hq hil hqi _ _ (QZ ho2 hi2) (QZ (by rw [hoi]; exact ho) (by rw [hoi]; exact hins))
  obtain ⟨e1, e2⟩ := this
  simp only at e1 e2
  subst e1
  exact ⟨n2, hk.int_inv, e2⟩
 have hf := Qc (kk := kk0) (n := n00) es.toList 0 hkeys
 have hlt : c < w.heap.size := (Array.getElem?_eq_some_iff.1 g2).1
 have hrun := vS (P := P) hd hd2 g2 hf (fun p hp => by cases hp) (a.eval v)
 simp only at hrun
 obtain ⟨f1, f2, f3⟩ := gP w c (.map (es.push { key := .int kk0 n00, val := a.eval v, born := clock }) (clock + 1))
 have hmut : mutC (G.σ b) .gmap = some c := by rw [g1]; rfl
 have hheap : ({ w with heap := w.heap.setIfInBounds c (.map (es.push { key := .int kk0 n00, val := a.eval v, born := clock }) (clock + 1)) } : GW).heap[c]? = some (.map (es.push { key := .int kk0 n00, val := a.eval v, born := clock }) (clock + 1)) := by simp [hlt]
 have hrel := h.rel.write hMb hmut f1 f2 f3 (x' := .gmap) ⟨c, _, _, g1, hheap⟩ (by intro c' h'; rw [g1] at h'; cases h'; rfl)
 have hDD : ∀ k, G.D k → G.D k ∧ ({ w with heap := w.heap.setIfInBounds c (.map (es.push { key := .int kk0 n00, val := a.eval v, born := clock }) (clock + 1)) } : GW).heap[k]? = w.heap[k]? := fun k hk => ⟨hk, f1 k fun e' => (h.rel.mem.own b _ c hMb hmut).2.2 (e' ▸ hk)⟩
 generalize ({ w with heap := w.heap.setIfInBounds c (.map (es.push { key := .int kk0 n00, val := a.eval v, born := clock }) (clock + 1)) } : GW) = w1 at hrun f1 f2 f3 hheap hrel hDD
 unfold Oper.wp
 rw [show execOp a.eval (ops[i]'(by omega)) = (do Instr.mapUpdate t (a.eval (.tmp mt)) (a.eval (.const (.int kk0 n00))) (a.eval v); pure Next.skip) by unfold execOp; rw [ho], hmv, hxx.int_inv]
 simp only [Sem.run_bind, hrun, Result.andThen_ok, Sem.run_pure]
 rw [Oper.upon_skip]
 have hMset : (accS n0 S 0 (ops.toList.take m) tr s0).M.set b .gmap = (accS n0 S 0 (ops.toList.take m) tr s0).M := by
  apply List.ext_getElem?
  intro q
  rw [List.getElem?_set]
  by_cases e : b = q
  ·subst e
   rw [if_pos rfl, if_pos (List.getElem?_eq_some_iff.1 hMb).1, hMb]
  ·rw [if_neg e]
 have hMset2 : (accS n0 S 0 (ops.toList.take m) tr s0).M.set (n0 + i) .dead = (accS n0 S 0 (ops.toList.take m) tr s0).M := by
  apply List.ext_getElem?
  intro q
  rw [List.getElem?_set]
  by_cases e : n0 + i = q
  ·subst e
   rw [if_pos rfl, if_pos (List.getElem?_eq_some_iff.1 hslotM).1, hslotM]
  ·rw [if_neg e]
 have hacc : accS n0 S' 0 (ops.toList.take m) tr s0 = accS n0 S 0 (ops.toList.take m) tr s0 := by
  rw [hadd]
  unfold qT
  rw [hdst]
  simp only [frzV, hMset2, St.put]
 rw [hdst]
 refine hK G _ _ ⟨?_, fun j hj hSj => ?_, fun b2 hb2 hM2 => ?_, fun q hq hSq b2 p hp => ?_⟩
 ·rw [hacc]
  rw [hMset] at hrel
  exact hrel
 ·have hji : j ≠ i := fun e => by rw [e, hS'] at hSj; cases hSj
  exact h.none j hj (by rw [← hSS j hji]; exact hSj)
 ·rw [hacc] at hM2
  by_cases e : b2 = b
  ·subst e
   obtain ⟨A, B, e1, e2⟩ := R7 (allT n0 (ops.toList.take m) tr s0) b2 (S := S) (S' := S') (ops.toList.take m) 0 i hil _ hat (by rw [Nat.zero_add]; exact hSi) (by rw [Nat.zero_add]; exact hS') (fun j hj => hSS j (by omega))
   rw [e1] at g4
   obtain ⟨la, lb, rfl, g5, g6⟩ := PR.split g4
   refine ⟨c, _, _, la ++ { key := .int kk0 n00, val := a.eval v, born := clock } :: lb, g1, hheap, ?_, ?_⟩
   ·rw [Array.toList_push]
    exact List.perm_middle.trans ((List.Perm.cons _ g3).trans (List.perm_append_singleton _ _).symm)
   ·rw [e2]
    exact (g5.grow hDD (fun _ _ => rfl)).join ⟨⟨.data _ _ (.int kk0 n00), hvv.grow hDD (fun _ _ => rfl)⟩, g6.grow hDD (fun _ _ => rfl)⟩
  ·obtain ⟨c2, es2, clock2, l2, k1, k2, k3, k4⟩ := h.gh b2 hb2 hM2
   have hcc : c2 ≠ c := fun e' => e (h.rel.mem.apart b b2 _ _ c hMb hmut hM2 (by rw [k1, e']; rfl))
   refine ⟨c2, es2, clock2, l2, k1, by rw [f1 c2 hcc]; exact k2, k3, ?_⟩
   rw [g8 _ b2 (S := S') (S' := S) _ 0 fun q hq p hp => ?_]
   ·exact k4.grow hDD (fun _ _ => rfl)
   ·refine hSS _ fun e' => ?_
    have e2 : q = i := by omega
    subst e2
    exact e (hat2 b2 p hp)
 ·by_cases e : q = i
  ·subst e
   rw [hat2 b2 p hp, g1]
   simp
  ·exact h.gd q hq (by rw [← hSS q e]; exact hSq) b2 p hp
theorem qdq (hE : EnvOK P E) {ops : Array Oper} {bf : List Nat} {m : Nat} (hD : Drawn ops bf m) (hm : m ≤ ops.size) {L : List Nat} {n0 : Nat} {tr : List Oc} {s0 : St} (hn0 : n0 + m = s0.M.length) (hlen : tr.length = (ops.toList.take m).length)
  (hdead : ∀ j, j < m → s0.M[n0 + j]? = some .dead) (hdi : zX (ops.toList.take m) = true) (hfr : gY (ops.toList.take m) = true)
  (htr : ∀ j (h : j < (ops.toList.take m).length) (h' : j < tr.length), OcOK E ops bf L n0 (0 + j) (ops.toList.take m)[j] (accS n0 (fun q => decide (q < 0 + j)) 0 (ops.toList.take m) tr s0) tr[j])
  {S S' : Nat → Bool} (hS : K9 ops bf S) {i : Nat} (hi : i < m) (hSi : S i = false) (hbits : ∀ q, Nat.testBit (bf.getD i 0) q = true → S q = true) (hS' : S' i = true) (hSS : ∀ q, q ≠ i → S' q = S q)
  (h : InvS E base w0 ok en n0 (ops.toList.take m) tr s0 S G a w) {K : Act → GW → Prop} {Q : Exit → Act → GW → Prop} (hK : ∀ G' a' w', InvS E base w0 ok en n0 (ops.toList.take m) tr s0 S' G' a' w' → K a' w') : wpOp P ops Q i K a w := by
 have hil : i < (ops.toList.take m).length := by simp; omega
 have hoc := htr i hil (by omega)
 have hadd := Ns (n0 := n0) (S := S) (S' := S') (ops.toList.take m) tr 0 s0 i hil (by omega) (by simpa using hSi) (by simpa using hS') (by simpa using hSS) (fun q hq hiq hSq d hd => by
  simp only [Nat.zero_add] at hSq
  have hqm : q < m := by simp at hq; omega
  rcases hD.apart i q (by omega) hiq hqm with hh | hh
  ·have := hS q (by omega) hSq i hh
   rw [hSi] at this; cases this
  ·have := (QP hh).2.2 d (by simpa using hd)
   simpa using this)
 simp only [Nat.zero_add] at hoc hadd
 have hlook := fun t (ht : t ∈ (ops[i]'(by omega)).looksAt ops) => GA (n0 := n0) (tr := tr) (s0 := s0) hD hm hS hi hSi hbits ht
 simp only [Nat.zero_add] at hlook
 have hoi : (ops.toList.take m)[i] = ops[i]'(by omega) := by simp
 rw [hoi] at hoc hadd
 have hwt : ∀ b, Wt ops (ops[i]'(by omega)) (accS n0 (fun q => decide (q < i)) 0 (ops.toList.take m) tr s0).T b → Region.wanted (ops[i]'(by omega)) (yielded ops a.tmps) = b := by
  intro b hb
  have hin : ∀ g, (∃ j want, (ops[i]'(by omega)).guard = some (j, want) ∧ (ops[j]?).bind (·.dst) = some g) → g ∈ (ops[i]'(by omega)).looksAt ops := by
   rintro g ⟨j, want, hgu, hj⟩
   unfold Oper.looksAt
   rw [hgu]
   simp only [List.mem_append]
   exact .inr (by simp [hj])
  refine hb.wanted ?_ (fun g t hg ht => ?_) (fun g hg ht => ?_)
  ·rw [h.rel.size, (vv _ _ _ _).2, (vv _ _ _ _).2]
  ·rw [← hlook g (hin g hg)] at ht
   exact h.rel.bools ht
  ·rw [← hlook g (hin g hg)] at ht
   exact h.rel.undefs ht
 unfold wpOp
 rw [Array.getElem?_eq_getElem (by omega : i < ops.size)]
 simp only
 cases hc : tr[i] with
 | none =>
   rw [hc] at hoc hadd
   rw [if_neg (by rw [hwt false hoc]; simp)]
   have hnoi : ∀ b p, insAt (allT n0 (ops.toList.take m) tr s0) b (ops[i]'(by omega)) ≠ some p := by
    intro b p hp
    obtain ⟨t, m', kk, n, v, ho, hins, _, _⟩ := g9 hp
    have hgu : (ops[i]'(by omega)).guard = Option.none := by
     unfold jP at hins
     rw [ho] at hins
     simp only [Bool.and_eq_true, Option.isNone_iff_eq_none] at hins
     exact hins.1
    simp only [OcOK, Wt, hgu] at hoc
    cases hoc
   refine hK G _ _ ⟨?_, fun j hj hSj => h.none j hj ?_, fun b hb hM => ?_, fun q hq hSq b p hp => ?_⟩
   ·rw [hadd]; exact h.rel.put .undef _
   ·by_cases e : j = i
    ·subst e; exact hSi
    ·rw [← hSS j e]; exact hSj
   ·rw [hadd, gG] at hM
    obtain ⟨c, es, clock, l, g1, g2, g3, g4⟩ := h.gh b hb hM
    refine ⟨c, es, clock, l, g1, g2, g3, ?_⟩
    rw [g8 _ b (S := S') (S' := S) _ 0 fun q hq p hp => ?_]
    ·exact g4
    ·refine hSS _ fun e => ?_
     have e' : q = i := by omega
     subst e'
     exact hnoi b p (by simpa using hp)
   ·by_cases e : q = i
    ·subst e
     exact absurd (by simpa using hp) (hnoi b p)
    ·exact h.gd q hq (by rw [← hSS q e]; exact hSq) b p hp
 | some p =>
   rw [hc] at hoc hadd
   obtain ⟨⟨hw, _⟩, hp⟩ := hoc
   rw [if_pos (hwt true hw)]
   refine .inl ?_
   have hMS : (accS n0 S 0 (ops.toList.take m) tr s0).M.length = s0.M.length := (vv _ _ _ _).1
   have hslotM : (accS n0 S 0 (ops.toList.take m) tr s0).M[n0 + i]? = some .dead := by
    rw [← hdead i hi]
    have := Dj (n0 := n0) (S := S) (S' := fun _ => false) (q := n0 + i) (ops.toList.take m) tr 0 s0 s0 rfl (fun j hj hq => by
     have : j = i := by omega
     subst this
     simpa using hSi)
    rw [this, gH _ _ _ _ (fun _ _ => rfl)]
   have hslot : G.σ (n0 + i) = .none := h.none i hil hSi
   have hmask : MemOK base ok G w (gu n0 (bf.getD i 0) 0 (accS n0 (fun q => decide (q < i)) 0 (ops.toList.take m) tr s0).M) := by
    refine h.rel.mem.mask (fun q x hq => ?_) ?_
    ·rw [ZZ] at hq
     obtain ⟨y, hy, hx⟩ := Option.map_eq_some_iff.1 hq
     simp only [Nat.zero_add] at hx
     have same : ∀ (hsame : ∀ j, j < (ops.toList.take m).length → n0 + j = q → S j = decide (j < i)), (accS n0 S 0 (ops.toList.take m) tr s0).M[q]? = some y := by
      intro hsame
      rw [← hy]
      exact Dj _ _ _ _ _ rfl fun j hj hq => by simpa using hsame j hj (by omega)
     cases hb : Nat.blt q n0 with
     | true =>
       rw [hb] at hx
       have hqn : q < n0 := Nat.le_of_ble_eq_true hb
       right
       rw [← show y = x from hx]
       exact same fun j _ e => by omega
     | false =>
       rw [hb] at hx
       simp only [cond_false] at hx
       cases hbit : Nat.testBit (bf.getD i 0) (q - n0) with
       | false => rw [hbit] at hx; exact .inl hx.symm
       | true =>
         rw [hbit] at hx
         right
         rw [← show y = x from hx]
         refine same fun j _ e => ?_
         have e2 : q - n0 = j := by omega
         rw [e2] at hbit
         rw [hbits j hbit, decide_eq_true (hD.lt i j (by omega) hbit)]
    ·rw [Yh, (vv _ _ _ _).1, hMS]
   have hev : ∀ x, VR G.D G.σ w (evM (accS n0 (fun q => decide (q < i)) 0 (ops.toList.take m) tr s0).T (ops[i]'(by omega)) x) (a.eval x) := by
    intro x
    unfold evM
    cases x with
    | tmp t =>
      simp only
      cases hany : (ops[i]'(by omega)).op.operands.toList.any (isT t) with
      | false => exact .junk _
      | true =>
        simp only [cond_true]
        obtain ⟨y, hy1, hy2⟩ := List.any_eq_true.1 hany
        have hty : y = .tmp t := by
         cases y with
         | tmp u => exact congrArg _ (Nat.eq_of_beq_eq_true hy2)
         | _ => cases hy2
        subst hty
        have hin : t ∈ (ops[i]'(by omega)).looksAt ops := by
         unfold Oper.looksAt
         simp only [List.mem_append, List.mem_filterMap]
         exact .inl ⟨_, hy1, rfl⟩
        have e := hlook t hin
        have := qR (G := G) (w := w) (a := a) h.rel.val (.tmp t)
        simp only [evO, vF] at this ⊢
        rw [← e]
        exact this
    | global g => exact qR (G := G) (w := w) (a := a) (T := []) (fun t v ht => by simp at ht) (.global g)
    | func f => exact qR (G := G) (w := w) (a := a) (T := []) (fun t v ht => by simp at ht) (.func f)
    | const v => exact qR (G := G) (w := w) (a := a) (T := []) (fun t v ht => by simp at ht) (.const v)
   have hgrow : ∀ (G2 : Gam) (w2 : GW), (∀ c, G.D c → G2.D c) → (∀ k, k < w.heap.size → w2.heap[k]? = w.heap[k]?) → (∀ b, b ≠ n0 + i → G2.σ b = G.σ b) → (∀ c, G.D c → G2.D c ∧ w2.heap[c]? = w.heap[c]?) ∧ (∀ b, G.σ b ≠ .none → G2.σ b = G.σ b) := by
    intro G2 w2 h1 h2 h3
    exact ⟨fun c hc => ⟨h1 c hc, h2 c (h.rel.mem.dlt c hc)⟩, fun b hb => h3 b fun e => by rw [e] at hb; exact hb hslot⟩
   have hcase : (∀ t m x v, (ops[i]'(by omega)).op ≠ .insert t m x v) ∧ (∃ b', zw P G w (n0 + i) b' p.1 ((execOp a.eval (ops[i]'(by omega))).run P w) ∧ (b' = p.2 ∧ Vj p.2 = false ∨ p.2 = some .gmap ∧ b' = some (.amap [] []))) ∨
     (∃ t mo x v i' kt et kk b n, (ops[i]'(by omega)).op = .insert t mo x v ∧ jP (ops[i]'(by omega)) = true ∧ E.t t = some i' ∧ i'.sh = .map kt et ∧ (E.t kt).map TyI.sh = some (.int kk) ∧ evM (accS n0 (fun q => decide (q < i)) 0 (ops.toList.take m) tr s0).T (ops[i]'(by omega)) mo = .mref b ∧ evM (accS n0 (fun q => decide (q < i)) 0 (ops.toList.take m) tr s0).T (ops[i]'(by omega)) x = .int kk n ∧ n0 ≤ b ∧ (gu n0 (bf.getD i 0) 0 (accS n0 (fun q => decide (q < i)) 0 (ops.toList.take m) tr s0).M)[b]? = some .gmap ∧ p = (.junk, Option.none)) := by
    rcases Kr hp with ⟨t, ho, rfl⟩ | hins | ⟨hno, hp⟩
    ·refine .inl ⟨fun _ _ _ _ e => (by rw [ho] at e; cases e), some (.amap [] []), ?_, .inr ⟨rfl, rfl⟩⟩
     rw [show execOp a.eval (ops[i]'(by omega)) = (do pure (.value (← Instr.makeMap t Option.none))) by unfold execOp; rw [ho]; rfl]
     exact BC hmask hslot t
    ·exact .inr hins
    ·refine .inl ⟨hno, ?_⟩
     obtain ⟨v, b, hvb, hcalm⟩ := JL hE hmask h.rel.glob h.rel.base hslot hev hp
     cases hg : Vj b with
     | true => rw [hg] at hvb; cases hvb
     | false =>
       rw [hg] at hvb
       simp only [cond_false, Option.some.injEq] at hvb
       subst hvb
       exact ⟨b, hcalm, .inl ⟨rfl, hg⟩⟩
   rcases hcase with ⟨hno, b', hcalm, hb'⟩ | hins
   ·have hnoi : ∀ b p, insAt (allT n0 (ops.toList.take m) tr s0) b (ops[i]'(by omega)) ≠ some p := by
     intro b p hp
     obtain ⟨t, m', kk, n, v, ho, _⟩ := g9 hp
     exact hno _ _ _ _ ho
    refine Vv hcalm fun x G1 w1 hst hv => ?_
    have hrel0 : Rel E base w0 ok en G1 { accS n0 S 0 (ops.toList.take m) tr s0 with M := (accS n0 S 0 (ops.toList.take m) tr s0).M.set (n0 + i) (b'.getD .dead) } a w1 := by
     refine h.rel.step hst hslot (fun j y hj => ?_) (by simp) (.inr (by simp [hMS]; omega))
     rw [List.getElem?_set] at hj
     by_cases e : n0 + i = j
     ·subst e
      have : n0 + i < (accS n0 S 0 (ops.toList.take m) tr s0).M.length := by omega
      simp only [if_true, this] at hj
      refine .inr ⟨rfl, ?_⟩
      cases b' with
      | none => exact .inr (Option.some.inj hj).symm
      | some z => exact .inl hj
     ·simp only [e, if_false] at hj
      exact .inl ⟨fun q => e q.symm, hj⟩
    have hgm : p.2 = some .gmap → ∃ c clock, G1.σ (n0 + i) = .blk c ∧ w1.heap[c]? = some (.map #[] clock) := by
     intro hpg
     rcases hb' with ⟨_, hng⟩ | ⟨_, rfl⟩
     ·rw [hpg] at hng; cases hng
     ·obtain ⟨⟨c, es, clock, l, kk, g1, g2, ⟨g3, _⟩, g4, _⟩, _⟩ := hst.slot
      have hl : l = [] := List.length_eq_zero_iff.1 g4
      subst hl
      have hes : es = #[] := by
       have := g3.length_eq
       exact Array.eq_empty_of_size_eq_zero (by simpa using this.symm)
      subst hes
      exact ⟨c, clock, g1, g2⟩
    have hrel1 : Rel E base w0 ok en G1 { accS n0 S 0 (ops.toList.take m) tr s0 with M := (accS n0 S 0 (ops.toList.take m) tr s0).M.set (n0 + i) (p.2.getD .dead) } a w1 := by
     rcases hb' with ⟨rfl, _⟩ | ⟨hpg, rfl⟩
     ·exact hrel0
     ·obtain ⟨c, clock, g1, g2⟩ := hgm hpg
      rw [hpg]
      refine hrel0.retell (by simp) fun q y hq => ?_
      simp only [List.getElem?_set] at hq ⊢
      by_cases e : n0 + i = q
      ·subst e
       have hlt : n0 + i < (accS n0 S 0 (ops.toList.take m) tr s0).M.length := by omega
       simp only [if_true, hlt] at hq ⊢
       cases hq
       refine ⟨.amap [] [], rfl, fun c' hc' => ?_, ⟨c, #[], clock, g1, g2⟩⟩
       rw [g1] at hc' ⊢
       exact hc'
      ·simp only [e, if_false] at hq ⊢
       exact ⟨y, hq, fun _ hc => hc, hrel0.mem.blocks q y (by simp only [List.getElem?_set, e, if_false]; exact hq)⟩
    obtain ⟨G2, hrel2, hσ2, hD2⟩ := hrel1.freezeD (n0 + i)
    have hM : (((accS n0 S 0 (ops.toList.take m) tr s0).M.set (n0 + i) (p.2.getD .dead)).modify (n0 + i) Vl) = (accS n0 S 0 (ops.toList.take m) tr s0).M.set (n0 + i) (frzV p.2) := by
     apply List.ext_getElem?
     intro q
     rw [List.getElem?_modify, List.getElem?_set, List.getElem?_set]
     by_cases e : n0 + i = q
     ·subst e
      have : n0 + i < (accS n0 S 0 (ops.toList.take m) tr s0).M.length := by omega
      simp only [if_true, this]
      cases p.2 <;> rfl
     ·simp [e]
    simp only [hM] at hrel2
    obtain ⟨gr1, gr2⟩ := hgrow G2 w1 (fun c hc => hD2 c (hst.keep c hc)) (fun k hk => hst.below.block k hk) (fun b hb => by rw [hσ2, hst.σ b hb])
    refine hK G2 _ _ ⟨?_, fun j hj hSj => ?_, fun b hb hMb => ?_, fun q hq hSq b p' hp' => ?_⟩
    ·rw [hadd]
     exact hrel2.put (VR.grow (fun c hc => ⟨hD2 c hc, rfl⟩) (fun _ _ => by rw [hσ2]) hv) _
    ·have hji : j ≠ i := fun e => by rw [e, hS'] at hSj; cases hSj
     rw [hσ2, hst.σ _ (by omega)]
     exact h.none j hj (by rw [← hSS j hji]; exact hSj)
    ·rw [hadd, gG] at hMb
     simp only [List.getElem?_set] at hMb
     by_cases e : n0 + i = b
     ·subst e
      have : n0 + i < (accS n0 S 0 (ops.toList.take m) tr s0).M.length := by omega
      simp only [if_true, this, Option.some.injEq] at hMb
      have hpg : p.2 = some .gmap := by
       cases hp2 : p.2 with
       | none => rw [hp2] at hMb; cases hMb
       | some z =>
         rw [hp2] at hMb
         cases z <;> first | rfl | cases hMb
      obtain ⟨c, clock, g1, g2⟩ := hgm hpg
      refine ⟨c, #[], clock, [], by rw [hσ2]; exact g1, g2, List.Perm.refl _, ?_⟩
      rw [Yz _ _ _ 0 fun q hq p' hp' => ?_]
      ·trivial
      ·rw [Nat.zero_add]
       by_cases e : q = i
       ·subst e
        exact absurd (by simpa using hp') (hnoi _ p')
       ·rw [hSS q e]
        cases hSq : S q with
        | false => rfl
        | true => exact absurd hslot (h.gd q hq hSq _ p' hp')
     ·simp only [e, if_false] at hMb
      obtain ⟨c, es, clock, l, g1, g2, g3, g4⟩ := h.gh b hb hMb
      have hc : c < w.heap.size := (Array.getElem?_eq_some_iff.1 g2).1
      refine ⟨c, es, clock, l, by rw [gr2 b (by rw [g1]; simp)]; exact g1, by rw [hst.below.block c hc]; exact g2, g3, ?_⟩
      rw [g8 _ b (S := S') (S' := S) _ 0 fun q hq p3 hp3 => ?_]
      ·exact g4.grow gr1 gr2
      ·refine hSS _ fun e => ?_
       have e' : q = i := by omega
       subst e'
       exact hnoi b p3 (by simpa using hp3)
    ·by_cases e : q = i
     ·subst e
      exact absurd (by simpa using hp') (hnoi b p')
     ·have := h.gd q hq (by rw [← hSS q e]; exact hSq) b p' hp'
      rw [gr2 b this]
      exact this
   ·obtain ⟨t, mo, x, v, i', kt, et, kk, b, n, ho, hisn, hti, hsh, hkt, hm1, hx1, hb, hMr, rfl⟩ := hins
    exact qg7 hE hD hm hlen hdi hfr hS hi hSi hbits hS' hSS h hslotM hadd ho hisn hti hsh hkt hm1 hx1 hb hMr hev hK
theorem Zy (T : List AV) : ∀ (l : List Oper) {s : St} {G : Gam}, Rel E base w0 ok en G s a w → ∃ G', Rel E base w0 ok en G' { s with M := BU T l s.M } a w ∧ G'.σ = G.σ
 | [], s, G, h => ⟨G, h, rfl⟩
 | o :: r, s, G, h => by
   obtain ⟨G1, h1, e1⟩ := h.frzOp (evO T) o
   obtain ⟨G2, h2, e2⟩ := Zy T r h1
   exact ⟨G2, h2, e2.trans e1⟩
theorem Jz (T : List AV) : ∀ (l : List Oper) (M : Mem), (BU T l M).length = M.length
 | [], _ => rfl
 | o :: r, M => (Jz T r _).trans (Qa _ _ _)
theorem Rel.room (h : Rel E base w0 ok en G s a w) (m : Nat) : Rel E base w0 ok en G { s with M := s.M ++ List.replicate m .dead } a w := by
 have hget : ∀ (q : Nat) (x : Blk), (s.M ++ List.replicate m Blk.dead)[q]? = some x → x = .dead ∨ s.M[q]? = some x := by
  intro q x hq
  rw [List.getElem?_append] at hq
  split at hq
  ·exact .inr hq
  ·rw [List.getElem?_replicate] at hq
   split at hq
   ·exact .inl (Option.some.inj hq).symm
   ·cases hq
 refine ⟨h.defers, h.size, h.val, ⟨fun b x hb => ?_, fun b x c hb hc => ?_, fun b b' x x' c hb hc hb' hc' => ?_, h.mem.dlt, h.mem.dok, fun b hb => h.mem.out b (by simp at hb; omega)⟩, h.below, h.glob, h.base, h.grow, h.held, ?_, h.fr⟩
 ·rcases hget b x hb with rfl | h1
  ·trivial
  ·exact h.mem.blocks b x h1
 ·rcases hget b x hb with rfl | h1
  ·rw [j6] at hc; cases hc
  ·exact h.mem.own b x c h1 hc
 ·rcases hget b x hb with rfl | h1
  ·rw [j6] at hc; cases hc
  ·rcases hget b' x' hb' with rfl | h2
   ·rw [j6] at hc'; cases hc'
   ·exact h.mem.apart b b' x x' c h1 hc h2 hc'
 ·have := h.lo
  simp
  omega
theorem JI : ∀ (l : List Bool) (i : Nat), l[i]? = some false → (l.set i true).count false + 1 = l.count false
 | [], i, h => by simp at h
 | b :: r, 0, h => by
   simp at h; subst h
   simp
 | b :: r, i + 1, h => by
   have := JI r i (by simpa using h)
   simp only [List.set_cons_succ, List.count_cons]
   omega
theorem G4 (hE : EnvOK P E) {run : zC R} (h : Rel E base w0 ok en G s a w) {ops : Array Oper} {o : Oper} (hp : vi o = true) {k : St → Option R} {r : R} (hk : opK E run ops o s k = some r) : ∃ y, Yields P ops o y a := by
 unfold opK at hk
 rcases kw hk with ⟨hw, hk⟩ | ⟨hw, hk⟩
 ·have hwild : vn o = false := by
   unfold vi at hp
   split at hp
   ·rename_i ho; unfold vn; rw [ho]
   ·rename_i ho; unfold vn; rw [ho]
   ·rename_i ho; unfold vn; rw [ho]
   ·rename_i ho; unfold vn; rw [ho]
   ·rename_i ho; unfold vn; rw [ho]
   ·cases hp
  have hcall : zi E (evO s.T) o = none := by
   unfold vi at hp
   split at hp
   ·rename_i ho; unfold zi; rw [ho]
   ·rename_i ho; unfold zi; rw [ho]
   ·rename_i ho; unfold zi; rw [ho]
   ·rename_i ho; unfold zi; rw [ho]
   ·rename_i ho; unfold zi; rw [ho]
   ·cases hp
  have hcu : Uf E s o = none := by
   unfold vi at hp
   split at hp
   ·rename_i ho; unfold Uf; rw [ho]
   ·rename_i ho; unfold Uf; rw [ho]
   ·rename_i ho; unfold Uf; rw [ho]
   ·rename_i ho; unfold Uf; rw [ho]
   ·rename_i ho; unfold Uf; rw [ho]
   ·cases hp
  have hsn : Qz E (evO s.T) o = none := by
   unfold vi at hp
   split at hp
   ·rename_i ho; unfold Qz; rw [ho]
   ·rename_i ho; unfold Qz; rw [ho]
   ·rename_i ho; unfold Qz; rw [ho]
   ·rename_i ho; unfold Qz; rw [ho]
   ·rename_i ho; unfold Qz; rw [ho]
   ·cases hp
  rw [hwild, hcall, hcu, hsn] at hk
  simp only [cond_false] at hk
  obtain ⟨y, hy⟩ := Yn hE (qR (G := G) (w := w) (a := a) h.val) hp hk
  exact ⟨y, .inl ⟨hw.wanted h.size (fun g t _ ht => h.bools ht) (fun g _ ht => h.undefs ht), hy⟩⟩
 ·exact ⟨undef, .inr ⟨hw.wanted h.size (fun g t _ ht => h.bools ht) (fun g _ ht => h.undefs ht), rfl⟩⟩
theorem qc8 (hE : EnvOK P E) {run : zC R} (h : Rel E base w0 ok en G s a w) {ops : Array Oper} {o : Oper} {L : List Nat} {i : Nat} (hlag : M2 L i o (evO s.T) = true) (hL : L.any (Nat.beq i) = true) {k : St → Option R} {r : R} (hk : opK E run ops o s k = some r) :
  ∃ y, YieldsIf P ops (fun w' => ∀ c, G.D c → w'.heap[c]? = w.heap[c]?) o y a := by
 unfold M2 at hlag
 rw [hL] at hlag
 simp only [cond_true] at hlag
 split at hlag
 ·rename_i t x ho
  unfold opK at hk
  rcases kw hk with ⟨hw, hk⟩ | ⟨hw, hk⟩
  ·have hwild : vn o = false := by unfold vn; rw [ho]
   have hcall : zi E (evO s.T) o = none := by unfold zi; rw [ho]
   have hsn : Qz E (evO s.T) o = none := by unfold Qz; rw [ho]
   have hcu : Uf E s o = none := by unfold Uf; rw [ho]
   rw [hwild, hcall, hcu, hsn] at hk
   simp only [cond_false] at hk
   unfold zu at hk
   rw [ho] at hk
   simp only at hk
   have hd : M5 (evO s.T x) = true := by
    cases hx : evO s.T x <;> rw [hx] at hlag <;> first | rfl | cases hlag | skip
    exfalso
    rw [hx] at hk
    unfold Jw at hk
    split at hk <;> simp at hk
   obtain ⟨y, hy⟩ := Vb hE (qR (G := G) (w := w) (a := a) h.val x) hd hk
   refine ⟨y, .inl ⟨hw.wanted h.size (fun g t _ ht => h.bools ht) (fun g _ ht => h.undefs ht), fun w' hw' => ?_⟩⟩
   rw [show execOp a.eval o = (do pure (.value (← Instr.loadAt t (a.eval x)))) by unfold execOp; rw [ho]]
   simp only [Sem.run_bind, hy w' hw', Result.andThen_ok, Sem.run_pure]
  ·exact ⟨undef, .inr ⟨hw.wanted h.size (fun g t _ ht => h.bools ht) (fun g _ ht => h.undefs ht), rfl⟩⟩
 ·cases hlag
theorem Gb (hE : EnvOK P E) {run : zC R} (hrun : ZE P E base w0 ok run) {ops : Array Oper} {bf : List Nat} {m : Nat} (hD : Drawn ops bf m) {k : St → Option R} {r : R} {Q : Exit → Act → GW → Prop} {en0 : Ent} (hQ : ∀ s' G' a' w', k s' = some r → Rel E base w0 ok en0 G' s' a' w' → Q .normal a' w') (hQp : ∀ c a w, ¬ Q (.panic c) a w) {L : List Nat}
  (hL : ∀ i j (hi : i < ops.size), i < j → m ≤ j → j < ops.size → GI ops[i] = true → Nat.testBit (bf.getD j 0) i = false → L.any (Nat.beq i) = true) :
  ∀ (fuel : Nat) (en : Ent) (hen : ∀ G1 s1 a1 w1, Rel E base w0 ok en G1 s1 a1 w1 → Rel E base w0 ok en0 G1 s1 a1 w1) (j : Nat) (listed : Array Bool) (s : St) (G : Gam) (a : Act) (w : GW), m ≤ j → j + fuel = ops.size → listed.size = ops.size → (∀ q, q < ops.size → listed.getD q false = decide (q < j)) →
   K9 ops bf (fun q => listed.getD q false) → D2 E run ops L j (ops.toList.drop j) s k = some r → Rel E base w0 ok en G s a w → wpAnyH P .any ops Q (zD en) fuel listed a w := by
 intro fuel
 induction fuel with
 | zero =>
   intro en hen j listed s G a w hmj hj hls hl hcl hk h
   have hdrop : ops.toList.drop j = [] := List.drop_of_length_le (by simp; omega)
   rw [hdrop] at hk
   refine ⟨?_, hQ _ _ _ _ hk (hen _ _ _ _ h)⟩
   apply List.eq_nil_iff_forall_not_mem.2
   intro i hi
   obtain ⟨h1, o, h2, _⟩ := mem_ready.1 hi
   have hlt := (Array.getElem?_eq_some_iff.1 h2).1
   have := hl i hlt
   rw [decide_eq_true (by omega)] at this
   have e : listed.getD i true = listed.getD i false := by simp [show i < listed.size by omega]
   rw [e, this] at h1; cases h1
 | succ fuel ih =>
   intro en hen j listed s G a w hmj hj hls hl hcl hk h
   have hjl : j < ops.size := by omega
   have hgd : ∀ i, i < ops.size → listed.getD i true = listed.getD i false := fun i hi => by simp [show i < listed.size by omega]
   have hready : j ∈ Region.ready .any ops listed := by
    refine mem_ready.2 ⟨by rw [hgd j hjl, hl j hjl]; simp, ops[j], Array.getElem?_eq_getElem hjl, fun e he hb => ?_⟩
    have : e.on < j := hD.lt j e.on hjl (hD.bit j hjl e (by simpa using he) hb)
    rw [hl e.on (by omega), decide_eq_true this]
   have hdrop : ops.toList.drop j = ops[j] :: ops.toList.drop (j + 1) := by
    rw [List.drop_eq_getElem_cons (by simpa using hjl)]; simp
   rw [hdrop] at hk
   unfold D2 at hk
   replace hk := qq hk
   obtain ⟨hlag, hk⟩ := hk
   have hgo : ∀ (en : Ent) (hen : ∀ G1 s1 a1 w1, Rel E base w0 ok en G1 s1 a1 w1 → Rel E base w0 ok en0 G1 s1 a1 w1) (h : Rel E base w0 ok en G s a w) (Q' : Exit → Act → GW → Prop), (Region.wanted ops[j] (yielded ops a.tmps) = true ∧ (ops[j]).wp P a w (fun a' w' => zD en w' ∧ wpAnyH P .any ops Q (zD en) fuel (listed.setIfInBounds j true) a' w') Q') ∨ (Region.wanted ops[j] (yielded ops a.tmps) = false ∧ (zD en w ∧ wpAnyH P .any ops Q (zD en) fuel (listed.setIfInBounds j true) (a.put (ops[j]).dst undef) w)) :=
    fun en hen h Q' => Kg hE hrun h hk (K := fun a' w' => zD en w' ∧ wpAnyH P .any ops Q (zD en) fuel (listed.setIfInBounds j true) a' w') (Q := Q') fun s' G' a' w' hk' h' => by
     refine ⟨h'.keptW, ?_⟩
     refine ih en hen (j + 1) (listed.setIfInBounds j true) s' G' a' w' (by omega) (by omega) (by simp [hls]) (fun q hq => ?_) ?_ (by rw [qbm] at hk'; exact hk') h'
     ·by_cases e : j = q
      ·subst e; simp [hls, hjl]
      ·rw [getD_set_ne false e, hl q hq]
       simp
       omega
     ·intro q hq hSq p hp
      by_cases e : j = p
      ·subst e; simp [hls, hjl]
      ·show (listed.setIfInBounds j true).getD p false = true
       rw [getD_set_ne false e]
       by_cases e2 : j = q
       ·subst e2
        have := hD.lt j p hq hp
        rw [hl p (by omega)]; simpa using this
       ·have : (listed.setIfInBounds j true).getD q false = true := hSq
        rw [getD_set_ne false e2] at this
        exact hcl q hq this p hp
   have hwp : ∀ (en : Ent) (hen : ∀ G1 s1 a1 w1, Rel E base w0 ok en G1 s1 a1 w1 → Rel E base w0 ok en0 G1 s1 a1 w1) (h : Rel E base w0 ok en G s a w) (Q' : Exit → Act → GW → Prop), wpOp P ops Q' j (fun a' w' => zD en w' ∧ wpAnyH P .any ops Q (zD en) fuel (listed.setIfInBounds j true) a' w') a w := by
    intro en hen h Q'
    unfold wpOp
    rw [Array.getElem?_eq_getElem hjl]
    simp only
    rcases hgo en hen h Q' with ⟨g1, g2⟩ | ⟨g1, g2⟩
    ·rw [if_pos g1]; exact .inl g2
    ·rw [if_neg (by rw [g1]; simp)]; exact g2
   by_cases hall : ∀ i, j < i → i < ops.size → Nat.testBit (bf.getD i 0) j = true
   ·refine ⟨fun h0 => (by rw [h0] at hready; cases hready), fun i hi => ?_⟩
    obtain ⟨h1, o, h2, h3⟩ := mem_ready.1 hi
    have hlt := (Array.getElem?_eq_some_iff.1 h2).1
    have hij : i = j := by
     have h4 : ¬ i < j := fun hh => by
      rw [hgd i hlt, hl i hlt, decide_eq_true hh] at h1; cases h1
     rcases Nat.lt_or_ge j i with h5 | h5
     ·exfalso
      have hb := hall i h5 hlt
      obtain ⟨e, he, hbi, hq⟩ := hD.edge i j hlt hb
      have hoi : o = ops[i] := by rw [Array.getElem?_eq_getElem hlt] at h2; exact (Option.some.inj h2).symm
      subst hoi
      have hle := h3 e (by simpa using he) hbi
      have : listed.getD j false = true := by
       rcases hq with hq | ⟨hq1, hq2⟩
       ·rw [hq]; exact hle
       ·exact hcl e.on (by omega) hle j hq2
      rw [hl j hjl] at this
      simp at this
     ·omega
    subst hij
    exact hwp en hen h Q
   ·have hfl : Float ops m j := by
     apply Classical.byContradiction
     intro hne
     apply hall
     intro i hij hi
     rcases hD.chain j i hi (by omega) hij with hb | hb
     ·exact hb
     ·exact absurd hb hne
    obtain ⟨_, hpu, hfree⟩ := hfl
    have hyl : ∃ y, YieldsIf P ops (fun w' => ∀ c, G.D c → w'.heap[c]? = w.heap[c]?) ops[j] y a := by
     rcases hpu with hpu | hpu
     ·obtain ⟨y, hy⟩ := G4 hE h hpu hk
      exact ⟨y, hy.yieldsIf⟩
     ·have hin : L.any (Nat.beq j) = true := by
       apply Classical.byContradiction
       intro hne
       apply hall
       intro i hij hi
       cases hb : Nat.testBit (bf.getD i 0) j with
       | true => rfl
       | false => exact absurd (hL j i hjl hij (by omega) hi hpu hb) hne
      exact qc8 hE h hlag hin hk
    obtain ⟨y, hy⟩ := hyl
    have hre := h.reenter
    refine vy (S := zD (vD G w s)) (fun w' hw' => h.keep_of hw') _ _ _ _ ?_
    have hk0 : zD (vD G w s) w := hre.keptW
    refine wpAnyH_first (Array.getElem?_eq_getElem hjl) hD.sel (fun c a w hq => absurd hq (hQp c _ w)) fuel listed a w (fun q oq hq hqj hun hno => ?_) hready hy hk0 (gO (Array.getElem?_eq_getElem hjl) hy hk0 (hwp _ (fun G1 s1 a1 w1 h1 => hen _ _ _ _ (h.releave h1)) hre _)).2
    have hqlt := (Array.getElem?_eq_some_iff.1 hq).1
    refine hfree q oq hq ?_ hno
    rw [hgd q hqlt, hl q hqlt] at hun
    have : ¬ q < j := by simpa using hun
    omega
end Go.Sx
namespace Go.Sx
open Go
open Go.RowKit (Below)
variable {P : Program} {E : Env} {base : Nat} {w0 : GW} {ok : Nat → Prop} {en : Ent} {G G' : Gam} {s : St} {a : Act} {w w' : GW} {R : Type} {M : Mem}
theorem least (p : Nat → Bool) : ∀ q, p q = true → ∃ i, i ≤ q ∧ p i = true ∧ ∀ j, j < i → p j = false := by
 intro q
 induction q using Nat.strongRecOn with
 | _ q ih =>
   intro h
   by_cases hh : ∃ j, j < q ∧ p j = true
   ·obtain ⟨j, h1, h2⟩ := hh
    obtain ⟨i, h3, h4⟩ := ih j h1 h2
    exact ⟨i, by omega, h4⟩
   ·refine ⟨q, Nat.le_refl _, h, fun j hj => ?_⟩
    cases hb : p j with
    | false => rfl
    | true => exact absurd ⟨j, hj, hb⟩ hh
theorem Dd (n m : Nat) (l : List Bool) (hl : l.length = n) (hm : m ≤ n) (h : ∀ q (hq : q < l.length), l[q] = decide (q < m)) : m + l.count false = n := by
 have e : l = List.replicate m true ++ List.replicate (n - m) false := by
  apply List.ext_getElem
  ·simp; omega
  ·intro q h1 h2
   rw [h q h1, List.getElem_append]
   by_cases hq : q < m
   ·simp [hq]
   ·simp [hq]
 rw [e]
 simp [List.count_append, List.count_replicate]
 omega
theorem MB {n0 : Nat} {ev : Operand → AV} {slot : Nat} {o : Oper} {p : AV × Option Blk} (hp : vi o = true) (h : (Zx E n0 ev M slot o fun v b => some (v, b)) = some p) : (zu E ev M slot o fun v b => bif Vj b then none else some (v, b)) = some p := by
 rcases Kr h with ⟨t, ho, _⟩ | ⟨t, m, x, v, _, _, _, _, _, _, ho, _⟩ | ⟨_, h⟩
 ·unfold vi at hp; rw [ho] at hp; cases hp
 ·unfold vi at hp; rw [ho] at hp; cases hp
 ·exact h
theorem qds {n0 : Nat} {ev : Operand → AV} {slot : Nat} {o : Oper} {p : AV × Option Blk} {L : List Nat} {i : Nat} (hlag : Yx L i o ev = true) (hL : L.any (Nat.beq i) = true) (h : (Zx E n0 ev M slot o fun v b => some (v, b)) = some p) : (zu E ev M slot o fun v b => bif Vj b then none else some (v, b)) = some p := by
 unfold Yx at hlag
 rw [hL] at hlag
 simp only [cond_true] at hlag
 rcases Kr h with ⟨t, ho, _⟩ | ⟨t, m, x, v, _, _, _, _, _, _, ho, _⟩ | ⟨_, h⟩
 ·rw [ho] at hlag; cases hlag
 ·rw [ho] at hlag; cases hlag
 ·exact h
theorem RF (hE : EnvOK P E) {ops : Array Oper} {bf : List Nat} {m : Nat} (hD : Drawn ops bf m) (hm : m ≤ ops.size) {L : List Nat} {n0 : Nat} {tr : List Oc} {s0 : St} (hn0 : n0 + m = s0.M.length) (hlen : tr.length = (ops.toList.take m).length)
  (htr : ∀ j (h : j < (ops.toList.take m).length) (h' : j < tr.length), OcOK E ops bf L n0 (0 + j) (ops.toList.take m)[j] (accS n0 (fun q => decide (q < 0 + j)) 0 (ops.toList.take m) tr s0) tr[j])
  {S : Nat → Bool} (hS : K9 ops bf S) {i : Nat} (hi : i < m) (hSi : S i = false) (hbits : ∀ q, Nat.testBit (bf.getD i 0) q = true → S q = true)
  (h : InvS E base w0 ok en n0 (ops.toList.take m) tr s0 S G a w) (hp : vi (ops[i]'(by omega)) = true ∨ L.any (Nat.beq i) = true) : ∃ y, YieldsIf P ops (fun w' => ∀ c, G.D c → w'.heap[c]? = w.heap[c]?) (ops[i]'(by omega)) y a := by
 have hil : i < (ops.toList.take m).length := by simp; omega
 have hoc := htr i hil (by omega)
 simp only [Nat.zero_add] at hoc
 have hlook := fun t (ht : t ∈ (ops[i]'(by omega)).looksAt ops) => GA (n0 := n0) (tr := tr) (s0 := s0) hD hm hS hi hSi hbits ht
 simp only [Nat.zero_add] at hlook
 have hoi : (ops.toList.take m)[i] = ops[i]'(by omega) := by simp
 rw [hoi] at hoc
 have hwt := head_wt (n0 := n0) (tr := tr) (s0 := s0) hm hi h hlook
 cases hc : tr[i] with
 | none =>
   rw [hc] at hoc
   exact ⟨undef, .inr ⟨hwt false hoc, rfl⟩⟩
 | some p =>
   rw [hc] at hoc
   obtain ⟨⟨hw, hlag⟩, hpk⟩ := hoc
   rcases hp with hp | hp
   ·obtain ⟨y, hy⟩ := Yn (M := gu n0 (bf.getD i 0) 0 (accS n0 (fun q => decide (q < i)) 0 (ops.toList.take m) tr s0).M) hE (qbh (n0 := n0) (tr := tr) (s0 := s0) hm hi h hlook) hp (MB hp hpk)
    exact ⟨y, .inl ⟨hwt true hw, fun w' _ => hy w'⟩⟩
   ·obtain ⟨y, hy⟩ := qdf (M := gu n0 (bf.getD i 0) 0 (accS n0 (fun q => decide (q < i)) 0 (ops.toList.take m) tr s0).M) hE (qbh (n0 := n0) (tr := tr) (s0 := s0) hm hi h hlook) hlag hp (qds hlag hp hpk)
    exact ⟨y, .inl ⟨hwt true hw, hy⟩⟩
theorem InvS.maps {ops : Array Oper} {m : Nat} {n0 : Nat} {tr : List Oc} {s0 : St} (hdi : zX (ops.toList.take m) = true) {S : Nat → Bool} (hall : ∀ q, q < (ops.toList.take m).length → S q = true) (h : InvS E base w0 ok en n0 (ops.toList.take m) tr s0 S G a w) :
  Rel E base w0 ok en G { accS n0 (fun _ => true) 0 (ops.toList.take m) tr s0 with M := gmM (allT n0 (ops.toList.take m) tr s0) (ops.toList.take m) n0 0 (accS n0 (fun _ => true) 0 (ops.toList.take m) tr s0).M } a w := by
 have hacc : accS n0 S 0 (ops.toList.take m) tr s0 = accS n0 (fun _ => true) 0 (ops.toList.take m) tr s0 := JP _ _ _ _ (fun q _ hq => hall q (by omega))
 have hrel := h.rel
 have hgh := h.gh
 rw [hacc] at hrel hgh
 refine hrel.retell (GU _ _ _ _ _) fun b y hb => ?_
 rw [qbi, Nat.zero_add] at hb
 obtain ⟨x, hx, hxy⟩ := Option.map_eq_some_iff.1 hb
 refine ⟨x, hx, ?_⟩
 have same : gmB (allT n0 (ops.toList.take m) tr s0) (ops.toList.take m) n0 b x = x → (∀ c, mutC (G.σ b) y = some c → mutC (G.σ b) x = some c) ∧ BR G.D G.σ w (G.σ b) y := by
  intro e
  rw [e] at hxy
  subst hxy
  exact ⟨fun _ hc => hc, hrel.mem.blocks b x hx⟩
 cases x with
 | gmap =>
   cases hbn : Nat.ble n0 b with
   | false => exact same (by unfold gmB; rw [hbn]; rfl)
   | true =>
     have hbn' : n0 ≤ b := Nat.le_of_ble_eq_true hbn
     obtain ⟨c, es, clock, l, g1, g2, g3, g4⟩ := hgh b hbn' hx
     rw [R6 _ b _ 0 fun q hq => by rw [Nat.zero_add]; exact hall q hq] at g4
     unfold gmB at hxy
     simp only [hbn, cond_true] at hxy
     subst hxy
     refine ⟨fun c' hc' => by rw [g1] at hc' ⊢; exact hc', ?_⟩
     obtain ⟨k1, k2⟩ := g4.get
     have hdist := Y0 (T := allT n0 (ops.toList.take m) tr s0) (b := b) hdi
     obtain ⟨kk, hkk⟩ : ∃ kk, ∀ p ∈ Qt (allT n0 (ops.toList.take m) tr s0) b (ops.toList.take m), ∃ n, p.1 = .int kk n := hdist.1
     refine ⟨c, es, clock, l, kk, g1, g2, ⟨g3, fun e he => ?_, ?_⟩, by simpa using k1, by simpa using k1, fun i h1 h2 => ?_, fun i h1 h2 => ?_⟩
     ·obtain ⟨p, hp, hk, _⟩ := g4.mem he
      obtain ⟨n, hn⟩ := hkk p hp
      rw [hn] at hk
      exact ⟨n, hk.int_inv⟩
     ·rw [List.nodup_iff_pairwise_ne, List.pairwise_iff_getElem]
      intro i j hi hj hij heq
      simp only [List.getElem_map] at heq
      have hi' : i < (Qt (allT n0 (ops.toList.take m) tr s0) b (ops.toList.take m)).length := by simp at hi; omega
      have hj' : j < (Qt (allT n0 (ops.toList.take m) tr s0) b (ops.toList.take m)).length := by simp at hj; omega
      obtain ⟨n1, h1⟩ := hkk _ (List.getElem_mem hi')
      obtain ⟨n2, h2⟩ := hkk _ (List.getElem_mem hj')
      have v1 := (k2 i hi' (by simpa using hi)).1
      have v2 := (k2 j hj' (by simpa using hj)).1
      rw [h1] at v1
      rw [h2] at v2
      rw [v1.int_inv, v2.int_inv] at heq
      cases heq
      have := List.pairwise_iff_getElem.1 hdist.2 i j hi' hj' hij
      exact this (h1.trans h2.symm)
     ·simp only [List.getElem_map]
      exact (k2 i (by simpa using h1) h2).1
     ·simp only [List.getElem_map]
      exact (k2 i (by simpa using h1) h2).2
 | _ => exact same rfl
theorem MA (hE : EnvOK P E) {run : zC R} (hrun : ZE P E base w0 ok run) {ops : Array Oper} {bf : List Nat} {m : Nat} {en0 : Ent} (hD : Drawn ops bf m) (hm : m ≤ ops.size) {k : St → Option R} {r : R} {Q : Exit → Act → GW → Prop} (hQ : ∀ s' G' a' w', k s' = some r → Rel E base w0 ok en0 G' s' a' w' → Q .normal a' w') (hQp : ∀ c a w, ¬ Q (.panic c) a w)
  {L : List Nat} {n0 : Nat} {tr : List Oc} {s0 : St} (hn0 : n0 + m = s0.M.length) (hlen : tr.length = (ops.toList.take m).length)
  (hdead : ∀ j, j < m → s0.M[n0 + j]? = some .dead) (hdi : zX (ops.toList.take m) = true) (hfr : gY (ops.toList.take m) = true)
  (htr : ∀ j (h : j < (ops.toList.take m).length) (h' : j < tr.length), OcOK E ops bf L n0 (0 + j) (ops.toList.take m)[j] (accS n0 (fun q => decide (q < 0 + j)) 0 (ops.toList.take m) tr s0) tr[j])
  (hk : D2 E run ops L m (ops.toList.drop m) { accS n0 (fun _ => true) 0 (ops.toList.take m) tr s0 with M := gmM (allT n0 (ops.toList.take m) tr s0) (ops.toList.take m) n0 0 (accS n0 (fun _ => true) 0 (ops.toList.take m) tr s0).M } k = some r)
  (hL : ∀ i j (hi : i < ops.size), i < j → m ≤ j → j < ops.size → GI ops[i] = true → Nat.testBit (bf.getD j 0) i = false → L.any (Nat.beq i) = true) :
  ∀ (fuel : Nat) (en : Ent) (hen : ∀ G1 s1 a1 w1, Rel E base w0 ok en G1 s1 a1 w1 → Rel E base w0 ok en0 G1 s1 a1 w1) (listed : Array Bool) (G : Gam) (a : Act) (w : GW), listed.size = ops.size → listed.toList.count false = fuel → (∀ q, m ≤ q → listed.getD q false = false) → K9 ops bf (fun q => listed.getD q false) →
   InvS E base w0 ok en n0 (ops.toList.take m) tr s0 (fun q => listed.getD q false) G a w → wpAnyH P .any ops Q (zD en) fuel listed a w := by
 intro fuel
 induction fuel with
 | zero =>
   intro en hen listed G a w hls hct htail hcl h
   have hall : ∀ q, q < ops.size → listed.getD q false = true := by
    intro q hq
    have hnot : false ∉ listed.toList := by
     intro hmem
     have := List.count_pos_iff.2 hmem
     omega
    have hlt : q < listed.size := by omega
    have : listed[q] ≠ false := fun e => hnot (by rw [← e]; simp)
    simp [hlt]
    simpa using this
   have hmn : m = ops.size := by
    rcases Nat.lt_or_ge m ops.size with h1 | h1
    ·have := hall m h1
     rw [htail m (Nat.le_refl _)] at this; cases this
    ·omega
   refine Gb hE hrun hD hQ hQp hL 0 en hen m listed _ G a w (Nat.le_refl _) (by omega) hls (fun q hq => by rw [hall q hq, decide_eq_true (by omega)]) hcl hk ?_
   exact h.maps hdi fun q hq => by
    have : q < ops.size := by simp at hq; omega
    exact hall q this
 | succ fuel ih =>
   intro en hen listed G a w hls hct htail hcl h
   have hgd : ∀ i, i < ops.size → listed.getD i true = listed.getD i false := fun i hi => by simp [show i < listed.size by omega]
   by_cases hall : ∀ q, q < m → listed.getD q false = true
   ·have hdec : ∀ q, q < ops.size → listed.getD q false = decide (q < m) := by
     intro q hq
     by_cases e : q < m
     ·rw [hall q e, decide_eq_true e]
     ·rw [htail q (by omega), decide_eq_false e]
    have hfu : m + (fuel + 1) = ops.size := by
     rw [← hct]
     refine Dd ops.size m listed.toList (by simpa using hls) hm fun q hq => ?_
     have := hdec q (by simp at hq; omega)
     have hq' : q < listed.size := by simpa using hq
     simp [hq'] at this
     simpa using this
    refine Gb hE hrun hD hQ hQp hL (fuel + 1) en hen m listed _ G a w (Nat.le_refl _) hfu hls hdec hcl hk ?_
    exact h.maps hdi fun q hq => by
     have : q < m := by simp at hq; omega
     exact hall q this
   ·have hex : ∃ q, q < m ∧ listed.getD q false = false := by
     apply Classical.byContradiction
     intro hne
     apply hall
     intro q hq
     cases hb : listed.getD q false with
     | true => rfl
     | false => exact absurd ⟨q, hq, hb⟩ hne
    obtain ⟨q0, hq0, hq0'⟩ := hex
    obtain ⟨i0, hi0, hi0', hmin⟩ := least (fun q => !listed.getD q false) q0 (by simp only [hq0']; rfl)
    have hready : i0 ∈ Region.ready .any ops listed := by
     have hlt : i0 < ops.size := by omega
     refine mem_ready.2 ⟨by rw [hgd i0 hlt]; simpa using hi0', ops[i0], Array.getElem?_eq_getElem hlt, fun e he hb => ?_⟩
     have := hmin e.on (hD.lt i0 e.on hlt (hD.bit i0 hlt e (by simpa using he) hb))
     simpa using this
    have hi0m : i0 < m := by omega
    have hi0s : i0 < ops.size := by omega
    have hSi0 : listed.getD i0 false = false := by simpa using hi0'
    have more : ∀ (en : Ent), (∀ G1 s1 a1 w1, Rel E base w0 ok en G1 s1 a1 w1 → Rel E base w0 ok en0 G1 s1 a1 w1) → InvS E base w0 ok en n0 (ops.toList.take m) tr s0 (fun q => listed.getD q false) G a w → ∀ (i : Nat), i < m → listed.getD i false = false → (∀ q, Nat.testBit (bf.getD i 0) q = true → listed.getD q false = true) → ∀ Q' : Exit → Act → GW → Prop,
      wpOp P ops Q' i (fun a' w' => zD en w' ∧ wpAnyH P .any ops Q (zD en) fuel (listed.setIfInBounds i true) a' w') a w := by
     intro en hen h i him hSi hbits Q'
     have hlt : i < ops.size := by omega
     have hset : ∀ q, q ≠ i → (listed.setIfInBounds i true).getD q false = listed.getD q false := fun q hq => getD_set_ne false (Ne.symm hq)
     have hseti : (listed.setIfInBounds i true).getD i false = true := by simp [hls, hlt]
     refine qdq hE hD hm hn0 hlen hdead hdi hfr htr hcl him hSi hbits (S' := fun q => (listed.setIfInBounds i true).getD q false) hseti hset h fun G' a' w' h' => ?_
     refine ⟨h'.rel.keptW, ?_⟩
     refine ih en hen (listed.setIfInBounds i true) G' a' w' (by simp [hls]) ?_ (fun q hq => by rw [hset q (by omega)]; exact htail q hq) ?_ h'
     ·have hil : listed.toList[i]? = some false := by
       have : i < listed.size := by omega
       simp [this] at hSi
       simp [this, hSi]
      have := JI listed.toList i hil
      rw [Array.toList_setIfInBounds]
      omega
     ·intro q hq hSq p hp
      by_cases e : p = i
      ·subst e; exact hseti
      ·show (listed.setIfInBounds i true).getD p false = true
       rw [hset p e]
       by_cases e2 : q = i
       ·subst e2; exact hbits p hp
       ·have : (listed.setIfInBounds i true).getD q false = true := hSq
        rw [hset q e2] at this
        exact hcl q hq this p hp
    by_cases hall0 : ∀ i, m ≤ i → i < ops.size → Nat.testBit (bf.getD i 0) i0 = true
    ·refine ⟨fun h0 => (by rw [h0] at hready; cases hready), fun i hi => ?_⟩
     obtain ⟨h1, o, h2, h3⟩ := mem_ready.1 hi
     have hlt := (Array.getElem?_eq_some_iff.1 h2).1
     have hoi : o = ops[i] := by rw [Array.getElem?_eq_getElem hlt] at h2; exact (Option.some.inj h2).symm
     subst hoi
     have hbits : ∀ q, Nat.testBit (bf.getD i 0) q = true → listed.getD q false = true := by
      intro q hq
      obtain ⟨e, he, hbi, hq'⟩ := hD.edge i q hlt hq
      have hle := h3 e (by simpa using he) hbi
      rcases hq' with hq' | ⟨hq1, hq2⟩
      ·rw [hq']; exact hle
      ·exact hcl e.on (by omega) hle q hq2
     have him : i < m := by
      rcases Nat.lt_or_ge i m with h4 | h4
      ·exact h4
      ·have := hbits i0 (hall0 i h4 hlt)
       rw [hSi0] at this; cases this
     exact more en hen h i him (by rw [← hgd i hlt]; exact h1) hbits Q
    ·have hfl : Float ops m i0 := by
      apply Classical.byContradiction
      intro hne
      apply hall0
      intro i hmi hi
      rcases hD.chain i0 i hi hmi (by omega) with hb | hb
      ·exact hb
      ·exact absurd hb hne
     obtain ⟨_, hpu, hfree⟩ := hfl
     have hbits0 : ∀ q, Nat.testBit (bf.getD i0 0) q = true → listed.getD q false = true := fun q hq => by
      have := hmin q (hD.lt i0 q hi0s hq)
      simpa using this
     have hpl : vi ops[i0] = true ∨ L.any (Nat.beq i0) = true := by
      rcases hpu with hpu | hpu
      ·exact .inl hpu
      ·refine .inr ?_
       apply Classical.byContradiction
       intro hne
       apply hall0
       intro j hmj hj
       cases hb : Nat.testBit (bf.getD j 0) i0 with
       | true => rfl
       | false => exact absurd (hL i0 j hi0s (by omega) hmj hj hpu hb) hne
     obtain ⟨y, hy⟩ := RF hE hD hm hn0 hlen htr hcl hi0m hSi0 hbits0 h hpl
     have hre : InvS E base w0 ok (vD G w (accS n0 (fun q => listed.getD q false) 0 (ops.toList.take m) tr s0)) n0 (ops.toList.take m) tr s0 (fun q => listed.getD q false) G a w := ⟨h.rel.reenter, h.none, h.gh, h.gd⟩
     refine vy (S := zD (vD G w (accS n0 (fun q => listed.getD q false) 0 (ops.toList.take m) tr s0))) (fun w' hw' => h.rel.keep_of hw') _ _ _ _ ?_
     have hk0 : zD (vD G w (accS n0 (fun q => listed.getD q false) 0 (ops.toList.take m) tr s0)) w := hre.rel.keptW
     refine wpAnyH_first (Array.getElem?_eq_getElem hi0s) hD.sel (fun c a w hq => absurd hq (hQp c _ w)) fuel listed a w (fun q oq hq hqj hun hno => ?_) hready hy hk0 (gO (Array.getElem?_eq_getElem hi0s) hy hk0 (more _ (fun G1 s1 a1 w1 h1 => hen _ _ _ _ (h.rel.releave h1)) hre i0 hi0m hSi0 hbits0 _)).2
     have hqlt := (Array.getElem?_eq_some_iff.1 hq).1
     refine hfree q oq hq ?_ hno
     rcases Nat.lt_or_ge i0 q with h9 | h9
     ·exact h9
     ·have := hmin q (by omega)
      rw [hgd q hqlt] at hun
      rw [hun] at this; cases this
theorem Rel.world (h : Rel E base w0 ok en G s a w) (hh : w'.heap = w.heap) (ho : w'.os = w.os ∧ w'.tape = w.tape ∧ w'.output = w.output) : Rel E base w0 ok en G s a w' := by
 have hD : ∀ c, G.D c → G.D c ∧ w'.heap[c]? = w.heap[c]? := fun c hc => ⟨hc, by rw [hh]⟩
 refine ⟨h.defers, h.size, fun t v ht => (h.val t v ht).grow hD (fun _ _ => rfl), ⟨fun b x hb => (h.mem.blocks b x hb).mono hD (fun _ _ => rfl) (fun c _ => by rw [hh]), fun b x c hb hc => by rw [hh]; exact h.mem.own b x c hb hc, h.mem.apart, fun c hc => by rw [hh]; exact h.mem.dlt c hc, h.mem.dok, h.mem.out⟩,
  h.below.trans ⟨ho.1, ho.2.1, ho.2.2, by rw [hh]; exact Nat.le_refl _, fun k _ => by rw [hh]⟩, h.glob.mono hD, by rw [hh]; exact h.base, fun c hc => ⟨(h.grow c hc).1, by rw [hh]; exact (h.grow c hc).2⟩, h.held, h.lo, h.fr⟩
theorem GP (E : Env) (g : Bool) : ∀ (l : List Oper), Jb E g l ≤ l.length
 | [] => Nat.le_refl _
 | o :: r => by
   unfold Jb
   have := GP E g r
   cases M3 E g o with
   | true => simp
   | false => simp; exact this
theorem Z6 (hE : EnvOK P E) {run : zC R} (hrun : ZE P E base w0 ok run) {ops : Array Oper} {k : St → Option R} {r : R} {Q : Exit → Act → GW → Prop} (hQ : ∀ s' G' a' w', k s' = some r → Rel E base w0 ok en G' s' a' w' → Q .normal a' w')
  (hQp : ∀ c a w, ¬ Q (.panic c) a w)
  (hk : BZ E run ops s k = some r) (h : Rel E base w0 ok en G s a w) : wpAny P .any ops Q ops.size (Array.replicate ops.size false) a { w with drawn := w.drawn + 1 } := by
 unfold BZ at hk
 rw [Uc, qht] at hk
 simp only [Uc] at hk
 replace hk := qq hk
 obtain ⟨hdraw, hk⟩ := hk
 have hD := qhz hdraw
 have hm : Jb E (ops.toList.any jP) ops.toList ≤ ops.size := by simpa using GP E (ops.toList.any jP) ops.toList
 generalize Jb E (ops.toList.any jP) ops.toList = m at hk hD hm
 generalize zB ops.toList [] = bf at hk hD
 have hL : ∀ i j (hi : i < ops.size), i < j → m ≤ j → j < ops.size → GI ops[i] = true → Nat.testBit (bf.getD j 0) i = false → (lags ops bf m ops.toList.length).any (Nat.beq i) = true := by
  intro i j hi hij hmj hj hld hb
  refine List.any_eq_true.2 ⟨i, ?_, Nat.beq_refl i⟩
  unfold lags
  rw [List.mem_filter, Bool.and_eq_true]
  refine ⟨by simpa using hi, ?_, List.any_eq_true.2 ⟨j, by simpa using hj, ?_⟩⟩
  ·unfold Zm
   rw [Array.getElem?_eq_getElem (by omega)]
   exact hld
  ·rw [hb, Nat.ble_eq_true_of_le hmj, show Nat.blt i j = true from Nat.ble_eq_true_of_le hij]; rfl
 generalize lags ops bf m ops.toList.length = L at hk hL
 rw [fzsK_eq] at hk
 obtain ⟨tr, htr, hk⟩ := QL ⟨fun f c hc => (hE.ctr f c hc).2.1, fun f c hc => (hE.own f c hc).2.1⟩ _ _ _ hk
 obtain ⟨hlen, hget⟩ := UX _ _ _ _ htr
 unfold gmK at hk
 replace hk := qq hk
 obtain ⟨hins, hk⟩ := hk
 rw [Bool.and_eq_true] at hins
 rw [gC] at hk
 have h1 : Rel E base w0 ok en G s a { w with drawn := w.drawn + 1 } := h.world rfl ⟨rfl, rfl, rfl⟩
 obtain ⟨G1, h1, hσ1⟩ := h1.fzs (ops := ops) L
 generalize fzs ops L s = s at hk htr h1 hget
 obtain ⟨G2, h2, hσ2⟩ := Zy s.T (ops.toList.take m) h1
 have h3 := h2.room m
 have hfl := Jz s.T (ops.toList.take m) s.M
 refine wpAny_of_held (S := zD en) _ _ _ _ ?_
 refine MA hE hrun hD hm hQ hQp (n0 := s.M.length) (by simp [hfl]) hlen (fun j hj => ?_) hins.1 hins.2 hget hk hL ops.size en (fun _ _ _ _ h => h) (Array.replicate ops.size false) G2 a _ (by simp) (by simp) (fun q _ => ?_) (fun j _ hj => ?_) ⟨?_, fun j hj _ => ?_, fun b hb hM => ?_, fun q hq hSq => ?_⟩
 ·rw [List.getElem?_append_right (by simp [hfl]), hfl, List.getElem?_replicate]
  simp [hj]
 ·simp [Array.getD_eq_getD_getElem?, Array.getElem?_replicate]; split <;> rfl
 ·exfalso
  simp [Array.getD_eq_getD_getElem?, Array.getElem?_replicate] at hj
  split at hj <;> cases hj
 ·rw [gH _ _ _ _ (fun q _ => by simp [Array.getD_eq_getD_getElem?, Array.getElem?_replicate]; split <;> rfl)]
  exact h3
 ·rw [hσ2]
  exact h1.mem.out _ (by omega)
 ·exfalso
  rw [gH _ _ _ _ (fun q _ => by simp [Array.getD_eq_getD_getElem?, Array.getElem?_replicate]; split <;> rfl)] at hM
  simp only at hM
  rw [List.getElem?_append_right (by rw [hfl]; exact hb), List.getElem?_replicate] at hM
  split at hM <;> cases hM
 ·exfalso
  simp [Array.getD_eq_getD_getElem?, Array.getElem?_replicate] at hSq
  split at hSq <;> cases hSq
theorem qbn {f : Nat → Option R} {r : R} : ∀ {l : List Nat}, exL f l = some r → ∀ p ∈ l, f p = some r
 | [], h, _, hp => by simp at hp
 | [q], h, p, hp => by
   simp at hp
   subst hp
   exact h
 | q :: q' :: l, h, p, hp => by
   obtain ⟨h1, h2⟩ := Gg (show q6 (f q) (exL f (q' :: l)) = some r from h)
   rcases List.mem_cons.1 hp with rfl | hp
   ·exact h1
   ·exact qbn h2 p hp
theorem GX {p : Nat → Bool} : ∀ {l : List Nat} {i : Nat}, Ku p l = some i → i ∈ l ∧ p i = true
 | [], _, h => by simp [Ku] at h
 | j :: r, i, h => by
   unfold Ku at h
   cases hj : p j with
   | true =>
     rw [hj] at h
     simp at h
     subst h
     exact ⟨by simp, hj⟩
   | false =>
     rw [hj] at h
     obtain ⟨h1, h2⟩ := GX (show Ku p r = some i from h)
     exact ⟨List.mem_cons_of_mem _ h1, h2⟩
theorem qa9 (d p q : Nat) : Nat.testBit (Nat.lor d (2 ^ p)) q = (Nat.testBit d q || decide (q = p)) := by
 show Nat.testBit (d ||| 2 ^ p) q = _
 rw [Nat.testBit_or, Nat.testBit_two_pow]
 congr 1
 exact decide_eq_decide.2 ⟨fun h => h.symm, fun h => h.symm⟩
theorem Md {ops : Array Oper} {done : Nat} {listed : Array Bool} (hls : listed.size = ops.size) (hl : ∀ q, q < ops.size → listed.getD q false = Nat.testBit done q) (hout : ∀ q, ops.size ≤ q → Nat.testBit done q = false) {i : Nat} : i ∈ Bs ops done ↔ i ∈ Region.ready .any ops listed := by
 have hgd : ∀ i, i < ops.size → listed.getD i true = listed.getD i false := fun i hi => by simp [show i < listed.size by omega]
 have hld : ∀ q, listed.getD q false = Nat.testBit done q := fun q => by
  by_cases hq : q < ops.size
  ·exact hl q hq
  ·rw [hout q (by omega)]
   simp [Array.getD_eq_getD_getElem?, Array.getElem?_eq_none (show listed.size ≤ q by omega)]
 rw [mem_ready]
 unfold Bs
 rw [List.mem_filter, Bool.and_eq_true, List.mem_range]
 constructor
 ·rintro ⟨h1, h2, h3⟩
  have hi : i < ops.size := by simpa using h1
  rw [Array.getElem?_eq_getElem hi] at h3
  refine ⟨by rw [hgd i hi, hl i hi]; simpa using h2, ops[i], Array.getElem?_eq_getElem hi, fun e he hb => ?_⟩
  have := List.all_eq_true.1 h3 e (by simpa using he)
  rw [hb] at this
  rw [hld]
  simpa using this
 ·rintro ⟨h1, o, ho, h2⟩
  have hi : i < ops.size := (Array.getElem?_eq_some_iff.1 ho).1
  refine ⟨by simpa using hi, by rw [hgd i hi, hl i hi] at h1; simpa using h1, ?_⟩
  rw [ho]
  refine List.all_eq_true.2 fun e he => ?_
  cases hb : Region.binds .any e with
  | false => rfl
  | true =>
    have := h2 e (by simpa using he) hb
    rw [hld] at this
    simpa using this
theorem Ml (hE : EnvOK P E) {run : zC R} (hrun : ZE P E base w0 ok run) {ops : Array Oper} (hsel : ∀ (j : Nat) (o : Oper) cs b, ops[j]? = some o → o.op ≠ .select cs b) {k : St → Option R} {r : R} {Q : Exit → Act → GW → Prop} {en0 : Ent} (hQ : ∀ s' G' a' w', k s' = some r → Rel E base w0 ok en0 G' s' a' w' → Q .normal a' w') (hQp : ∀ c a w, ¬ Q (.panic c) a w) :
  ∀ (fuel : Nat) (en : Ent) (hen : ∀ G1 s1 a1 w1, Rel E base w0 ok en G1 s1 a1 w1 → Rel E base w0 ok en0 G1 s1 a1 w1) (done : Nat) (listed : Array Bool) (s : St) (G : Gam) (a : Act) (w : GW), listed.size = ops.size → listed.toList.count false = fuel → (∀ q, q < ops.size → listed.getD q false = Nat.testBit done q) → (∀ q, ops.size ≤ q → Nat.testBit done q = false) →
   ordK E run ops fuel done s k = some r → Rel E base w0 ok en G s a w → wpAnyH P .any ops Q (zD en) fuel listed a w := by
 intro fuel
 induction fuel with
 | zero =>
   intro en hen done listed s G a w hls hct hl hout hk h
   refine ⟨?_, hQ _ _ _ _ hk (hen _ _ _ _ h)⟩
   apply List.eq_nil_iff_forall_not_mem.2
   intro i hi
   obtain ⟨h1, o, h2, _⟩ := mem_ready.1 hi
   have hlt := (Array.getElem?_eq_some_iff.1 h2).1
   have hlt' : i < listed.size := by omega
   have hmem : false ∈ listed.toList := by
    have : listed[i] = false := by simpa [hlt'] using h1
    rw [← this]
    simp
   have := List.count_pos_iff.2 hmem
   omega
 | succ fuel ih =>
   intro en hen done listed s G a w hls hct hl hout hk h
   have hready : ∀ i, i ∈ Bs ops done ↔ i ∈ Region.ready .any ops listed := fun i => Md hls hl hout
   unfold ordK at hk
   rw [Uc] at hk
   have step : ∀ (en : Ent) (hen : ∀ G1 s1 a1 w1, Rel E base w0 ok en G1 s1 a1 w1 → Rel E base w0 ok en0 G1 s1 a1 w1) (h : Rel E base w0 ok en G s a w) (p : Nat) (hp : p ∈ Region.ready .any ops listed) (hkp : (match ops[p]? with
     | some o => opK E run ops o s fun s => fO o s fun s => fN (Nat.lor done (2 ^ p)) fun done => ordK E run ops fuel done s k
     | none => none) = some r) (Q' : Exit → Act → GW → Prop), wpOp P ops Q' p (fun a' w' => zD en w' ∧ wpAnyH P .any ops Q (zD en) fuel (listed.setIfInBounds p true) a' w') a w := by
    intro en hen h p hp hkp Q'
    obtain ⟨h1, o, ho, h2⟩ := mem_ready.1 hp
    have hlt := (Array.getElem?_eq_some_iff.1 ho).1
    have hlt' : p < listed.size := by omega
    rw [ho] at hkp
    simp only at hkp
    have hgo := Kg hE hrun h hkp (K := fun a' w' => zD en w' ∧ wpAnyH P .any ops Q (zD en) fuel (listed.setIfInBounds p true) a' w') (Q := Q') fun s' G' a' w' hk' h' => by
     refine ⟨h'.keptW, ?_⟩
     rw [qbm, qht] at hk'
     refine ih en hen _ (listed.setIfInBounds p true) s' G' a' w' (by simp [hls]) ?_ (fun q hq => ?_) (fun q hq => ?_) hk' h'
     ·have hil : listed.toList[p]? = some false := by
       have : listed[p] = false := by simpa [hlt'] using h1
       simp [hlt', this]
      have := JI listed.toList p hil
      rw [Array.toList_setIfInBounds]
      omega
     ·rw [qa9]
      by_cases e : p = q
      ·subst e; simp [hlt']
      ·rw [getD_set_ne false e, hl q hq]
       simp [show q ≠ p from fun e' => e e'.symm]
     ·rw [qa9, hout q hq]
      simp
      omega
    unfold wpOp
    rw [ho]
    simp only
    rcases hgo with ⟨g1, g2⟩ | ⟨g1, g2⟩
    ·rw [if_pos g1]; exact .inl g2
    ·rw [if_neg (by rw [g1]; simp)]; exact g2
   split at hk
   ·cases hk
   ·rename_i rd hne
    split at hk
    ·rename_i p hp
     obtain ⟨hpm, hfl⟩ := GX hp
     have hpr := (hready p).1 hpm
     obtain ⟨h1, o, ho, h2⟩ := mem_ready.1 hpr
     have hlt := (Array.getElem?_eq_some_iff.1 ho).1
     unfold qho at hfl
     rw [Bool.and_eq_true] at hfl
     obtain ⟨hpu, hap⟩ := hfl
     have hpu' : vi o = true := by
      unfold Gx at hpu
      rw [ho] at hpu
      exact hpu
     have hk2 := hk
     rw [ho] at hk2
     simp only at hk2
     obtain ⟨y, hy⟩ := G4 hE h hpu' hk2
     have hy' : YieldsIf P ops (zD (vD G w s)) o y a := hy.yieldsIf
     have hre := h.reenter
     refine vy (S := zD (vD G w s)) (fun w' hw' => h.keep_of hw') _ _ _ _ ?_
     have hk0 : zD (vD G w s) w := hre.keptW
     refine wpAnyH_first ho hsel (fun c a w hq => absurd hq (hQp c _ w)) fuel listed a w (fun q oq hq hqj hun hno => ?_) hpr hy' hk0 (gO ho hy' hk0 (step _ (fun G1 s1 a1 w1 h1 => hen _ _ _ _ (h.releave h1)) hre p hpr hk _)).2
     have hqlt := (Array.getElem?_eq_some_iff.1 hq).1
     have := List.all_eq_true.1 hap q (by simpa using hqlt)
     simp only [Bool.or_eq_true] at this
     rcases this with h3 | h3 | h3 | h3
     ·exact absurd (Nat.eq_of_beq_eq_true h3) hqj
     ·exfalso
      rw [← hl q hqlt] at h3
      have e : listed.getD q true = listed.getD q false := by simp [show q < listed.size by omega]
      rw [e, h3] at hun
      cases hun
     ·unfold Vo at h3
      rw [hq] at h3
      obtain ⟨e, he, hb⟩ := List.any_eq_true.1 h3
      simp only [Bool.and_eq_true] at hb
      exact absurd (Nat.eq_of_beq_eq_true hb.2) (hno e (by simpa using he) hb.1)
     ·unfold Qm at h3
      rw [ho, hq] at h3
      exact h3
    ·refine ⟨fun h0 => ?_, fun i hi => ?_⟩
     ·exfalso
      apply hne
      apply List.eq_nil_iff_forall_not_mem.2
      intro i hi
      have := (hready i).1 hi
      rw [h0] at this
      cases this
     ·exact step en hen h i hi (qbn hk i ((hready i).2 hi)) Q
theorem qd1 (hE : EnvOK P E) {run : zC R} (hrun : ZE P E base w0 ok run) {ops : Array Oper} {k : St → Option R} {r : R} {Q : Exit → Act → GW → Prop} (hQ : ∀ s' G' a' w', k s' = some r → Rel E base w0 ok en G' s' a' w' → Q .normal a' w')
  (hQp : ∀ c a w, ¬ Q (.panic c) a w) (hk : exR E run ops s k = some r) (h : Rel E base w0 ok en G s a w) : wpAny P .any ops Q ops.size (Array.replicate ops.size false) a { w with drawn := w.drawn + 1 } := by
 unfold exR at hk
 replace hk := qq hk
 obtain ⟨hs, hk⟩ := hk
 have hsel : ∀ (j : Nat) (o : Oper) cs b, ops[j]? = some o → o.op ≠ .select cs b := by
  intro j o cs b ho heq
  have hm : o ∈ ops.toList := by have := Array.mem_of_getElem? ho; simpa using this
  have := List.all_eq_true.1 hs o hm
  unfold B4 at this
  rw [heq] at this
  cases this
 have h1 : Rel E base w0 ok en G s a { w with drawn := w.drawn + 1 } := h.world rfl ⟨rfl, rfl, rfl⟩
 refine wpAny_of_held (S := zD en) _ _ _ _ ?_
 refine Ml hE hrun hsel hQ hQp ops.size en (fun _ _ _ _ h => h) 0 (Array.replicate ops.size false) s G a _ (by simp) (by simp) (fun q hq => by simp [hq]) (fun q _ => by simp) (by simpa using hk) h1
theorem RW (hE : EnvOK P E) {run : zC R} (hrun : ZE P E base w0 ok run) {ops : Array Oper} {k : St → Option R} {r : R} {Q : Exit → Act → GW → Prop} (hQ : ∀ s' G' a' w', k s' = some r → Rel E base w0 ok en G' s' a' w' → Q .normal a' w')
  (hk : qh0 E run ops s k = some r) (h : Rel E base w0 ok en G s a w) (id : Nat) : (Code.region id ops true).wp P Q a w := by
 refine wp_mono (Q := fun e a w => match e with | .normal => Q .normal a w | _ => False) ?_ (fun e a w hq => by cases e <;> first | exact hq | exact hq.elim)
 refine wp_region_any hE.mixed ?_
 unfold qh0 at hk
 rcases Nn hk with ⟨_, hk⟩ | ⟨_, hk⟩
 ·exact qd1 hE hrun (Q := fun e a w => match e with | .normal => Q .normal a w | _ => False) (fun s' G' a' w' h1 h2 => hQ s' G' a' w' h1 h2) (fun c a w hq => hq) hk h
 rw [Uc] at hk
 cases hid : isId 0 (Vq E ops) with
 | true =>
   rw [hid] at hk
   exact Z6 hE hrun (Q := fun e a w => match e with | .normal => Q .normal a w | _ => False) (fun s' G' a' w' h1 h2 => hQ s' G' a' w' h1 h2) (fun c a w hq => hq) hk h
 | false =>
   rw [hid] at hk
   simp only [cond_false] at hk
   replace hk := qq hk
   obtain ⟨hp, hk⟩ := hk
   rw [Bool.and_eq_true] at hp
   have hpo := perm_of hp.1 hp.2
   have hsz : (jW (Vq E ops) ops).size = ops.size := by simp [jW, hpo.len]
   have := Z6 hE hrun (Q := fun e a w => match e with | .normal => Q .normal a w | _ => False) (fun s' G' a' w' h1 h2 => hQ s' G' a' w' h1 h2) (fun c a w hq => hq) hk h
   rw [hsz] at this
   refine perm_wp hpo ops.size _ _ a _ (by simp) (by simp) (fun i hi => ?_) this
   have hpi : posOf i (Vq E ops) < ops.size := by rw [← hpo.len]; exact (zJ (hpo.all i hi)).1
   simp [hi, hpi]
end Go.Sx
namespace Go.Sx
open Go
open Go.RowKit (Below)
variable {P : Program} {E : Env} {base : Nat} {w0 : GW} {ok : Nat → Prop} {en : Ent} {G G' : Gam} {s : St} {a : Act} {w w' : GW} {R : Type} {M : Mem}
noncomputable def okP (n : Nat) : Pt → Bool := SPat.closed.ok n
noncomputable def As (n : Nat) (v u : AV) : Prop := (∀ (D : Nat → Prop) (σ : Nat → SB) (w : GW) (x : Value), VR D σ w v x → VR D σ w u x) ∧ ∀ b ∈ u.ids, b < n
theorem JN : ∀ {l : List (Nat × Nat)} {vs : List AV}, Qk l vs = true → vs = DY l
 | [], [], _ => rfl
 | p :: r, v :: s, h => by
   simp only [Qk, Bool.and_eq_true] at h
   have := JN h.2
   subst this
   have h1 := h.1
   unfold qbd at h1
   split at h1
   ·simp only [Bool.and_eq_true] at h1
    rw [Nat.eq_of_beq_eq_true h1.1, Nat.eq_of_beq_eq_true h1.2]
    rfl
   ·cases h1
 | [], _ :: _, h => by simp [Qk] at h
 | _ :: _, [], h => by simp [Qk] at h
theorem Gy (n : Nat) : ∀ (l : List (Nat × Nat)), l.all (fun p => Nat.blt p.1 n) = true → ∀ b ∈ AV.idss (DY l), b < n
 | [], _, b, hb => by simp [DY, AV.idss] at hb
 | p :: r, h, b, hb => by
   simp only [List.all_cons, Bool.and_eq_true] at h
   simp only [DY, List.map_cons, AV.idss, AV.ids, List.mem_append, List.mem_singleton] at hb
   rcases hb with rfl | hb
   ·exact Nat.le_of_ble_eq_true h.1
   ·exact Gy n r h.2 b hb
theorem RB {b : Nat} : ∀ {l : List AV}, b ∈ AV.idss l → ∃ j, ∃ (h : j < l.length), b ∈ (l[j]).ids
 | [], h => by simp [AV.idss] at h
 | v :: r, h => by
   simp only [AV.idss, List.mem_append] at h
   rcases h with h | h
   ·exact ⟨0, by simp, h⟩
   ·obtain ⟨j, hj, hb⟩ := RB h
    exact ⟨j + 1, by simpa using hj, by simpa using hb⟩
theorem QX (n : Nat) : ∀ (ps : List Pt) (vs : List AV) (x : PTs ps), qQ ps vs = some x → (ps.all (okP n)) = true → (qS ps x).length = vs.length ∧ ∀ i (h : i < vs.length) (h' : i < (qS ps x).length), As n vs[i] (qS ps x)[i]
 | [], [], x, _, _ => ⟨rfl, fun i h => by simp at h⟩
 | [], _ :: _, x, h, _ => by simp [qQ] at h
 | p :: ps, [], x, h, _ => by cases p <;> simp [qQ] at h
 | p :: ps, v :: vs, x, h, hok => by
   simp only [List.all_cons, Bool.and_eq_true] at hok
   have go : ∀ (u : AV) (xr : PTs ps), As n v u → qQ ps vs = some xr → ∀ (l : List AV), l = u :: qS ps xr → l.length = (v :: vs).length ∧ ∀ i (h : i < (v :: vs).length) (h' : i < l.length), As n (v :: vs)[i] l[i] := by
    intro u xr hu hm l hl
    subst hl
    obtain ⟨h1, h2⟩ := QX n ps vs xr hm hok.2
    refine ⟨by simp [h1], fun i h h' => ?_⟩
    cases i with
    | zero => exact hu
    | succ i => exact h2 i (by simpa using h) (by simpa using h')
   cases p with
   | int k =>
     simp only [qQ, Option.bind_eq_some_iff, Option.some.injEq] at h
     obtain ⟨m, hm, r, hr, rfl⟩ := h
     exact go (.int k m) r (by rw [YP hm]; exact ⟨fun _ _ _ _ h => h, by simp [AV.ids]⟩) hr _ rfl
   | bool =>
     simp only [qQ, Option.bind_eq_some_iff, Option.some.injEq] at h
     obtain ⟨m, hm, r, hr, rfl⟩ := h
     refine go (.bool m) r ?_ hr _ rfl
     unfold AV.asBool at hm
     split at hm
     ·cases hm; exact ⟨fun _ _ _ _ h => h, by simp [AV.ids]⟩
     ·simp at hm
   | str =>
     simp only [qQ, Option.bind_eq_some_iff, Option.some.injEq] at h
     obtain ⟨m, hm, r, hr, rfl⟩ := h
     refine go (.str m) r ?_ hr _ rfl
     unfold AV.asStr at hm
     split at hm
     ·cases hm; exact ⟨fun _ _ _ _ h => h, by simp [AV.ids]⟩
     ·simp at hm
   | sl e =>
     simp only [qQ, Option.bind_eq_some_iff, Option.some.injEq] at h
     obtain ⟨m, hm, r, hr, rfl⟩ := h
     refine go (.sl e m) r ⟨fun D σ w x hx => ?_, by simp [AV.ids]⟩ hr _ rfl
     have := jg hm
     cases hx with
     | data _ _ hd => exact .data _ _ (this _ _ _ hd)
     | _ => simp [AV.asSl] at hm
   | ptr b off =>
     simp only [qQ] at h
     replace h := qq h
     obtain ⟨hb, h⟩ := h
     refine go (.ptr b off) x ?_ h _ rfl
     unfold qbd at hb
     split at hb
     ·simp only [Bool.and_eq_true] at hb
      rw [Nat.eq_of_beq_eq_true hb.1, Nat.eq_of_beq_eq_true hb.2]
      refine ⟨fun _ _ _ _ h => h, fun b' hb' => ?_⟩
      simp only [AV.ids, List.mem_singleton] at hb'
      subst hb'
      exact Nat.le_of_ble_eq_true hok.1
     ·cases hb
   | vec b =>
     simp only [qQ] at h
     replace h := qq h
     obtain ⟨hb, h⟩ := h
     refine go (.vec b) x ?_ h _ rfl
     unfold isVec at hb
     split at hb
     ·rw [Nat.eq_of_beq_eq_true hb]
      refine ⟨fun _ _ _ _ h => h, fun b' hb' => ?_⟩
      simp only [AV.ids, List.mem_singleton] at hb'
      subst hb'
      exact Nat.le_of_ble_eq_true hok.1
     ·cases hb
   | mref b =>
     simp only [qQ] at h
     replace h := qq h
     obtain ⟨hb, h⟩ := h
     refine go (.mref b) x ?_ h _ rfl
     unfold qg4 at hb
     split at hb
     ·rw [Nat.eq_of_beq_eq_true hb]
      refine ⟨fun _ _ _ _ h => h, fun b' hb' => ?_⟩
      simp only [AV.ids, List.mem_singleton] at hb'
      subst hb'
      exact Nat.le_of_ble_eq_true hok.1
     ·cases hb
   | nilsl =>
     simp only [qQ] at h
     replace h := qq h
     obtain ⟨hb, h⟩ := h
     refine go .nilsl x ?_ h _ rfl
     unfold qbe at hb
     split at hb
     ·exact ⟨fun _ _ _ _ h => h, by simp [AV.ids]⟩
     ·cases hb
   | func f y z =>
     simp only [qQ] at h
     replace h := qq h
     obtain ⟨hb, h⟩ := h
     refine go (.func f (DY y) (DY z)) x ?_ h _ rfl
     unfold qg5 at hb
     split at hb
     ·simp only [Bool.and_eq_true] at hb
      rw [Nat.eq_of_beq_eq_true hb.1.1, JN hb.1.2, JN hb.2]
      refine ⟨fun _ _ _ _ h => h, fun b' hb' => ?_⟩
      have hok1 : (y.all (fun p => Nat.blt p.1 n) && z.all (fun p => Nat.blt p.1 n)) = true := hok.1
      simp only [Bool.and_eq_true] at hok1
      simp only [AV.ids, List.mem_append] at hb'
      rcases hb' with hb' | hb'
      ·exact Gy n y hok1.1 b' hb'
      ·exact Gy n z hok1.2 b' hb'
     ·cases hb
   | agg m =>
     simp only [qQ] at h
     split at h
     ·rename_i cs
      replace h := qq h
      obtain ⟨hb, h⟩ := h
      have hm := Nat.eq_of_beq_eq_true hb
      obtain ⟨h1, h2⟩ := QX n ps (cs ++ vs) x h hok.2
      simp only [List.length_append] at h1
      have hl : qS (.agg m :: ps) x = .agg ((qS ps x).take m) :: (qS ps x).drop m := rfl
      rw [hl]
      have hpt : ∀ i (hi : i < cs.length) (hi' : i < ((qS ps x).take m).length), As n cs[i] ((qS ps x).take m)[i] := fun i hi hi' => by
       have := h2 i (by simp; omega) (by simp at hi'; omega)
       simpa [List.getElem_append_left hi] using this
      refine ⟨by simp; omega, fun i h h' => ?_⟩
      cases i with
      | zero =>
        refine ⟨fun D σ w y hy => ?_, fun b hb => ?_⟩
        ·obtain ⟨xs, g1, g2, g3, rfl⟩ := hy.agg_inv
         have gl : ((qS ps x).take m).length = xs.length := by simp; omega
         exact .agg _ xs gl g2 fun i q1 q2 => (hpt i (by omega) q1).1 _ _ _ _ (g3 i (by omega) q2)
        ·have hb2 : b ∈ AV.idss ((qS ps x).take m) := hb
         obtain ⟨j, hj, hb3⟩ := RB hb2
         exact (hpt j (by simp at hj; omega) hj).2 b hb3
      | succ i =>
        have q1 : i < vs.length := by simpa using h
        have q2 : i < ((qS ps x).drop m).length := by simpa using h'
        have := h2 (m + i) (by simp; omega) (by simp at q2; omega)
        show As n vs[i] ((qS ps x).drop m)[i]
        rw [List.getElem_drop]
        have e : (cs ++ vs)[m + i]'(by simp; omega) = vs[i] := by
         rw [List.getElem_append_right (by omega)]
         congr 1
         omega
        rw [e] at this
        exact this
     ·simp at h
   | csl b off m =>
     simp only [qQ] at h
     replace h := qq h
     obtain ⟨hb, h⟩ := h
     refine go (.csl b off m) x ?_ h _ rfl
     unfold isCsl at hb
     split at hb
     ·simp only [Bool.and_eq_true] at hb
      rw [Nat.eq_of_beq_eq_true hb.1, Nat.eq_of_beq_eq_true hb.2.1, Nat.eq_of_beq_eq_true hb.2.2]
      refine ⟨fun _ _ _ _ h => h, fun b' hb' => ?_⟩
      simp only [AV.ids, List.mem_singleton] at hb'
      subst hb'
      exact Nat.le_of_ble_eq_true hok.1
     ·cases hb
   | lit k m =>
     simp only [qQ] at h
     replace h := qq h
     obtain ⟨hb, h⟩ := h
     refine go (.int k m) x ?_ h _ rfl
     unfold isLit at hb
     split at hb
     ·simp only [Bool.and_eq_true, decide_eq_true_eq, ieq] at hb
      rw [hb.1, hb.2]
      exact ⟨fun _ _ _ _ h => h, by simp [AV.ids]⟩
     ·cases hb
   | slit t =>
     simp only [qQ] at h
     replace h := qq h
     obtain ⟨hb, h⟩ := h
     refine go (.str t) x ?_ h _ rfl
     unfold qg3 at hb
     split at hb
     ·simp only [seq, decide_eq_true_eq] at hb
      rw [hb]
      exact ⟨fun _ _ _ _ h => h, by simp [AV.ids]⟩
     ·cases hb
   | junk =>
     simp only [qQ] at h
     exact go .junk x ⟨fun _ _ _ x _ => .junk x, by simp [AV.ids]⟩ h _ rfl
noncomputable def AsB (n : Nat) (x y : Blk) : Prop := y = .dead ∨ (∃ cs ds, x = .cells cs ∧ y = .cells ds ∧ ds.length = cs.length ∧ ∀ i (h : i < cs.length) (h' : i < ds.length), As n cs[i] ds[i]) ∨ (y = x ∧ ((∃ e l, x = .vec e l) ∨ (∃ e l, x = .fvec e l) ∨ ∃ kk kv l, x = .map kk kv l))
noncomputable def okB (n : Nat) : BP → Bool
 | .cells ps => ps.all (okP n)
 | _ => true
theorem Yr (n : Nat) : ∀ (bs : List BP) (M : Mem) (x : BTs bs), zK bs M = some x → (bs.all (okB n)) = true → (zA bs x).length = bs.length ∧ bs.length ≤ M.length ∧ ∀ i (h : i < M.length) (h' : i < (zA bs x).length), AsB n M[i] (zA bs x)[i]
 | [], M, x, _, _ => ⟨rfl, by simp, fun i h h' => by simp [zA] at h'⟩
 | b :: bs, [], x, h, _ => by cases b <;> simp [zK] at h
 | b :: bs, m :: M, x, h, hok => by
   simp only [List.all_cons, Bool.and_eq_true] at hok
   have go : ∀ (u : Blk) (xr : BTs bs), AsB n m u → zK bs M = some xr → ∀ (l : List Blk), l = u :: zA bs xr → l.length = (b :: bs).length ∧ (b :: bs).length ≤ (m :: M).length ∧ ∀ i (h : i < (m :: M).length) (h' : i < l.length), AsB n (m :: M)[i] l[i] := by
    intro u xr hu hm l hl
    subst hl
    obtain ⟨h1, h2, h3⟩ := Yr n bs M xr hm hok.2
    refine ⟨by simp [h1], by simpa using h2, fun i h h' => ?_⟩
    cases i with
    | zero => exact hu
    | succ i => exact h3 i (by simpa using h) (by simpa using h')
   cases b with
   | dead =>
     cases m <;> exact go .dead x (.inl rfl) h _ rfl
   | cells ps =>
     cases m <;> simp only [zK, Option.bind_eq_some_iff, Option.some.injEq, reduceCtorEq] at h
     obtain ⟨y, hy, z, hz, rfl⟩ := h
     obtain ⟨h1, h2⟩ := QX n ps _ y hy hok.1
     exact go (.cells (qS ps y)) z (.inr (.inl ⟨_, _, rfl, rfl, h1, h2⟩)) hz _ rfl
   | vec e =>
     cases m <;> simp only [zK, reduceCtorEq] at h
     split at h
     ·rename_i he
      subst he
      simp only [Option.bind_eq_some_iff, Option.some.injEq] at h
      obtain ⟨z, hz, rfl⟩ := h
      exact go _ z (.inr (.inr ⟨rfl, .inl ⟨_, _, rfl⟩⟩)) hz _ rfl
     ·simp at h
   | fvec e =>
     cases m <;> simp only [zK, reduceCtorEq] at h
     split at h
     ·rename_i he
      subst he
      simp only [Option.bind_eq_some_iff, Option.some.injEq] at h
      obtain ⟨z, hz, rfl⟩ := h
      exact go _ z (.inr (.inr ⟨rfl, .inr (.inl ⟨_, _, rfl⟩)⟩)) hz _ rfl
     ·simp at h
   | map kk kv =>
     cases m <;> simp only [zK, reduceCtorEq] at h
     split at h
     ·rename_i he
      obtain ⟨rfl, rfl⟩ := he
      simp only [Option.bind_eq_some_iff, Option.some.injEq] at h
      obtain ⟨z, hz, rfl⟩ := h
      exact go _ z (.inr (.inr ⟨rfl, .inr (.inr ⟨_, _, _, rfl⟩)⟩)) hz _ rfl
     ·simp at h
theorem Yo : ∀ {l r : List Nat}, Kk l r = true → l = r
 | [], [], _ => rfl
 | a :: r, b :: s, h => by
   simp only [Kk, Bool.and_eq_true] at h
   rw [Nat.eq_of_beq_eq_true h.1, Yo h.2]
 | [], _ :: _, h => by simp [Kk] at h
 | _ :: _, [], h => by simp [Kk] at h
theorem DX {D : Nat → Prop} {σ : Nat → SB} {n : Nat} {T : List AV} {tmps : Array Value} (hT : ∀ t, VR D σ w ((T[t]?).getD .junk) (tmps.getD t undef)) (hn : ∀ b, b < n → True) : ∀ (ix : List Nat) (us : List AV) (T0 : List AV), us.length = (Q7 T ix).length →
  (∀ i (h : i < (Q7 T ix).length) (h' : i < us.length), As n (Q7 T ix)[i] us[i]) → (∀ t v, T0[t]? = some v → (∀ b ∈ v.ids, b < n) ∧ VR D σ w v (tmps.getD t undef)) →
  (putT T0 ix us).length = T0.length ∧ ∀ t v, (putT T0 ix us)[t]? = some v → (∀ b ∈ v.ids, b < n) ∧ VR D σ w v (tmps.getD t undef)
 | [], us, T0, _, _, h0 => by cases us <;> exact ⟨rfl, h0⟩
 | i :: ix, [], T0, hl, _, h0 => by simp [Q7] at hl
 | i :: ix, u :: us, T0, hl, h, h0 => by
   have h1 := h 0 (by simp [Q7]) (by simp)
   simp only [Q7, List.getElem_cons_zero] at h1
   have h2 := DX hT hn ix us (T0.set i u) (by simpa [Q7] using hl) (fun j hj hj' => by
    have := h (j + 1) (by simpa [Q7] using hj) (by simpa using hj')
    simpa [Q7] using this) (fun t v hv => by
    rw [List.getElem?_set] at hv
    by_cases e : i = t
    ·subst e
     rw [if_pos rfl] at hv
     split at hv
     ·cases hv
      exact ⟨h1.2, h1.1 _ _ _ _ (by rw [vF]; exact hT i)⟩
     ·cases hv
    ·rw [if_neg e] at hv
     exact h0 t v hv)
   rw [← z5] at h2
   exact ⟨h2.1.trans (by rw [z5]; simp), h2.2⟩
theorem B8 {p : SPat} {x : p.X} (hm : p.match0 s = some x) (hc : p.closed = true) (h : Rel E base w0 ok en G s a w) : ∃ G', Rel E base w0 ok en G' (p.build x) a w := by
 unfold SPat.match0 at hm
 replace hm := qq hm
 obtain ⟨hb, hm⟩ := hm
 simp only [Bool.and_eq_true] at hb
 obtain ⟨⟨⟨b1, b2⟩, b3⟩, b4⟩ := hb
 have e1 := Nat.eq_of_beq_eq_true b1
 have e2 := Yo b2
 have e3 := Nat.eq_of_beq_eq_true b3
 have e4 := Nat.le_of_ble_eq_true b4
 obtain ⟨xt, hxt, hm⟩ := Option.bind_eq_some_iff.1 hm
 obtain ⟨xm, hxm, hm⟩ := Option.bind_eq_some_iff.1 hm
 cases hm
 unfold SPat.closed at hc
 simp only [Bool.and_eq_true] at hc
 obtain ⟨c1, c2⟩ := hc
 have c2' : (p.mp.all (okB p.mp.length)) = true := by
  rw [List.all_eq_true] at c2 ⊢
  intro b hb
  have := c2 b hb
  cases b <;> first | rfl | exact this
 obtain ⟨t1, t2⟩ := QX p.mp.length p.tp _ xt hxt c1
 obtain ⟨m1, m2, m3⟩ := Yr p.mp.length p.mp s.M xm hxm c2'
 have hD : ∀ c, G.D c → G.D c ∧ w.heap[c]? = w.heap[c]? := fun c hc => ⟨hc, rfl⟩
 let σ' : Nat → SB := fun b => if b < p.mp.length then G.σ b else .none
 have hσ : ∀ b, b < p.mp.length → σ' b = G.σ b := fun b hb => by simp [σ', hb]
 have hval := DX (D := G.D) (σ := G.σ) (w := w) (n := p.mp.length) (T := s.T) (tmps := a.tmps) (fun t => by
  cases ht : s.T[t]? with
  | none => exact .junk _
  | some v => exact h.val t v ht) (fun _ _ => trivial) p.ix (qS p.tp xt) (Zp p.nt) t1 t2 (fun t v hv => by
  rw [gz, List.getElem?_replicate] at hv
  split at hv
  ·cases hv; exact ⟨by simp [AV.ids], .junk _⟩
  ·cases hv)
 have lower : ∀ {v : AV} {y : Value}, (∀ b ∈ v.ids, b < p.mp.length) → VR G.D G.σ w v y → VR G.D σ' w v y := fun hb hv => hv.mono hD fun b hb' _ => hσ b (hb b hb')
 have hblk : ∀ (b : Nat) (y : Blk), (zA p.mp xm)[b]? = some y → b < p.mp.length ∧ ∃ z, s.M[b]? = some z ∧ AsB p.mp.length z y := by
  intro b y hb
  obtain ⟨hlt, rfl⟩ := List.getElem?_eq_some_iff.1 hb
  have hlt' : b < p.mp.length := by omega
  exact ⟨hlt', s.M[b]'(by omega), List.getElem?_eq_getElem _, m3 b (by omega) hlt⟩
 have hmut : ∀ {z y : Blk} {sb : SB} {c : Nat}, AsB p.mp.length z y → mutC sb y = some c → mutC sb z = some c := by
  intro z y sb c hz hc
  rcases hz with rfl | ⟨cs, ds, rfl, rfl, _⟩ | ⟨rfl, _⟩
  ·rw [j6] at hc; cases hc
  ·cases sb <;> exact hc
  ·exact hc
 refine ⟨⟨σ', G.D⟩, h.defers, ?_, fun t v ht => lower (hval.2 t v ht).1 (hval.2 t v ht).2, ⟨fun b y hb => ?_, fun b y c hb hc => ?_, fun b b' y y' c hb hc hb' hc' => ?_, h.mem.dlt, h.mem.dok, fun b hb => ?_⟩, h.below, h.glob, h.base, h.grow, fun b hb hn => ?_, ?_, ?_⟩
 ·show a.tmps.size = (putT (Zp p.nt) p.ix (qS p.tp xt)).length
  rw [hval.1, h.size, e1, gz]; simp
 ·obtain ⟨hlt, z, hz, has⟩ := hblk b y hb
  show BR G.D σ' w (σ' b) y
  rw [hσ b hlt]
  have hbr := h.mem.blocks b z hz
  rcases has with rfl | ⟨cs, ds, rfl, rfl, hl, hh⟩ | ⟨rfl, hk⟩
  ·trivial
  ·obtain ⟨c, vs, t, q1, q2, q3, q4⟩ := hbr
   exact ⟨c, vs, t, q1, q2, by omega, fun i h1 h2 => ⟨(q4 i (by omega) h2).1, lower (hh i (by omega) h1).2 ((hh i (by omega) h1).1 _ _ _ _ (q4 i (by omega) h2).2)⟩⟩
  ·rcases hk with ⟨e, l, rfl⟩ | ⟨e, l, rfl⟩ | ⟨kk, kv, l, rfl⟩
   ·exact hbr
   ·exact hbr
   ·exact hbr
 ·obtain ⟨hlt, z, hz, has⟩ := hblk b y hb
  have hc2 : mutC (σ' b) y = some c := hc
  rw [hσ b hlt] at hc2
  exact h.mem.own b z c hz (hmut has hc2)
 ·obtain ⟨hlt, z, hz, has⟩ := hblk b y hb
  obtain ⟨hlt', z', hz', has'⟩ := hblk b' y' hb'
  have hc2 : mutC (σ' b) y = some c := hc
  have hc2' : mutC (σ' b') y' = some c := hc'
  rw [hσ b hlt] at hc2
  rw [hσ b' hlt'] at hc2'
  exact h.mem.apart b b' z z' c hz (hmut has hc2) hz' (hmut has' hc2')
 ·have hb' : (zA p.mp xm).length ≤ b := hb
  simp [σ', show ¬ b < p.mp.length by omega]
 ·have hb2 : b ∈ s.lock := by rw [e2]; exact hb
  obtain ⟨q1, q2⟩ := h.held b hb2 hn
  have : b < p.lo := by rw [← e3]; exact q2
  exact ⟨by rw [← q1]; exact hσ b (by omega), this⟩
 ·show p.lo ≤ (zA p.mp xm).length
  omega
 ·have := h.fr
  rw [e2, e3] at this
  exact this
theorem KQ : ∀ (l : List Nat) {s : St} {G : Gam}, Rel E base w0 ok en G s a w → ∃ G', Rel E base w0 ok en G' { s with M := QD l s.M } a w
 | [], s, G, h => ⟨G, h⟩
 | i :: r, s, G, h => by
   obtain ⟨G1, h1, _⟩ := h.freeze i
   obtain ⟨G2, h2⟩ := KQ r h1
   exact ⟨G2, h2⟩
theorem qce (h : MemOK base ok G w M) {v : AV} {x : Value} (hv : VR G.D G.σ w v x) : VR G.D G.σ w (toD M v) x := by
 unfold toD
 split
 ·rename_i b
  cases hd : ga M (.vec b) with
  | none => exact hv
  | some d => exact .data _ _ (kR h hv hd)
 ·rename_i b i j
  cases hd : ga M (.vsl b i j) with
  | none => exact hv
  | some d => exact .data _ _ (kR h hv hd)
 ·exact hv
theorem Rel.setT (h : Rel E base w0 ok en G s a w) {i : Nat} {v : AV} (hv : ∀ u, s.T[i]? = some u → VR G.D G.σ w v (a.tmps.getD i undef)) : Rel E base w0 ok en G { s with T := s.T.set i v } a w := by
 refine ⟨h.defers, by simp [h.size], fun t u ht => ?_, h.mem, h.below, h.glob, h.base, h.grow, h.held, h.lo, h.fr⟩
 have ht' : (s.T.set i v)[t]? = some u := ht
 rw [List.getElem?_set] at ht'
 split at ht'
 ·rename_i e
  subst e
  split at ht'
  ·rename_i hlt
   cases ht'
   exact hv _ (List.getElem?_eq_getElem hlt)
  ·cases ht'
 ·exact h.val t u ht'
theorem JF : ∀ (r : List BP) {s : St} {G : Gam}, Rel E base w0 ok en G s a w → ∃ G', Rel E base w0 ok en G' { s with M := s.M ++ kz r } a w ∧ (∀ i, i < s.M.length → G'.σ i = G.σ i) ∧ ∀ b e l, s.M.length ≤ b → (s.M ++ kz r)[b]? = some (.vec e l) → G'.σ b = .hdr none 0 0 e.size
 | [], s, G, h => ⟨G, by simpa [kz] using h, fun _ _ => rfl, fun b e l hb hv => by simp only [kz, List.append_nil] at hv; have := (List.getElem?_eq_some_iff.1 hv).1; omega⟩
 | p :: r, s, G, h => by
   have dead : kz (p :: r) = .dead :: kz r → ∃ G', Rel E base w0 ok en G' { s with M := s.M ++ kz (p :: r) } a w ∧ (∀ i, i < s.M.length → G'.σ i = G.σ i) ∧ ∀ b e l, s.M.length ≤ b → (s.M ++ kz (p :: r))[b]? = some (.vec e l) → G'.σ b = .hdr none 0 0 e.size := by
    intro e
    have h1 : Rel E base w0 ok en G { s with M := s.M ++ [.dead] } a w :=
     h.push (b := some .dead) ⟨Below.refl _ _, fun _ h => h, fun _ h => .inl h, fun _ _ => rfl, trivial, fun c hc => by rw [j6] at hc; cases hc⟩
    obtain ⟨G2, h2, h3, h4⟩ := JF r h1
    have e2 : (s.M ++ [Blk.dead]) ++ kz r = s.M ++ kz (p :: r) := by rw [e]; simp
    simp only [e2] at h2 h4
    refine ⟨G2, h2, fun i hi => h3 i (by simp; omega), fun b e' l hb hv => ?_⟩
    by_cases hbn : b = s.M.length
    ·subst hbn
     rw [e, List.getElem?_append_right (Nat.le_refl _)] at hv
     simp at hv
    ·exact h4 b e' l (by simp; omega) hv
   cases p with
   | vec e =>
     have h1 : Rel E base w0 ok en (G.up s.M.length (.hdr none 0 0 e.size)) { s with M := s.M ++ [.vec e []] } a w := h.push (b := some (.vec e [])) (Step.nilvec (h.mem.out _ (Nat.le_refl _)) e)
     obtain ⟨G2, h2, h3, h4⟩ := JF r h1
     have e2 : (s.M ++ [Blk.vec e []]) ++ kz r = s.M ++ kz (.vec e :: r) := by simp [kz]
     simp only [e2] at h2 h4
     refine ⟨G2, h2, fun i hi => (h3 i (by simp; omega)).trans (by simp [Gam.up, show i ≠ s.M.length by omega]), fun b e' l hb hv => ?_⟩
     by_cases hbn : b = s.M.length
     ·subst hbn
      rw [List.getElem?_append_right (Nat.le_refl _)] at hv
      simp only [kz, Nat.sub_self, List.getElem?_cons_zero, Option.some.injEq] at hv
      cases hv
      rw [h3 _ (by simp)]
      exact Gam.up_self ..
     ·exact h4 b e' l (by simp; omega) hv
   | _ => exact dead rfl
theorem QG (h : MemOK base ok G w M) {n0 : Nat} (hv : ∀ b e l, n0 ≤ b → M[b]? = some (.vec e l) → G.σ b = .hdr none 0 0 e.size) (p : Pt) {v : AV} {x : Value} (hx : VR G.D G.σ w v x) : VR G.D G.σ w (Vd n0 M p v) x := by
 unfold Vd
 split
 ·exact qce h hx
 ·rename_i b
  cases hc : (Nat.ble n0 b && BH M b) with
  | false => exact hx
  | true =>
    simp only [Bool.and_eq_true] at hc
    have hle := Nat.le_of_ble_eq_true hc.1
    have hb := hc.2
    unfold BH at hb
    split at hb
    ·rename_i e l hM
     have hσ := hv b e l hle hM
     rw [hx.nilsl_inv]
     exact .vec b none 0 0 e.size hσ
    ·cases hb
 ·exact hx
theorem QH (h : MemOK base ok G w M) {n0 : Nat} (hv : ∀ b e l, n0 ≤ b → M[b]? = some (.vec e l) → G.σ b = .hdr none 0 0 e.size) : ∀ (ps : List Pt) (vs : List AV), (QI n0 M ps vs).length = vs.length ∧ ∀ i (h1 : i < vs.length) (h2 : i < (QI n0 M ps vs).length) (x : Value), VR G.D G.σ w vs[i] x → VR G.D G.σ w (QI n0 M ps vs)[i] x
 | [], vs => by cases vs <;> exact ⟨rfl, fun _ _ _ _ h => h⟩
 | p :: ps, [] => ⟨rfl, fun i h => by simp at h⟩
 | p :: ps, v :: vs => by
   obtain ⟨h1, h2⟩ := QH h hv ps vs
   have e : QI n0 M (p :: ps) (v :: vs) = Vd n0 M p v :: QI n0 M ps vs := rfl
   refine ⟨by rw [e]; simp [h1], fun i a1 a2 x hx => ?_⟩
   cases i with
   | zero => exact QG h hv p hx
   | succ i => exact h2 i (by simpa using a1) (by rw [e] at a2; simpa using a2) x hx
theorem Na (h : MemOK base ok G w M) {n0 : Nat} (hv : ∀ b e l, n0 ≤ b → M[b]? = some (.vec e l) → G.σ b = .hdr none 0 0 e.size) (ps : List Pt) {v : AV} {x : Value} (hx : VR G.D G.σ w v x) : VR G.D G.σ w (qbr n0 M ps v) x := by
 unfold qbr
 split
 ·rename_i cs
  obtain ⟨xs, g1, g2, g3, rfl⟩ := hx.agg_inv
  obtain ⟨h1, h2⟩ := QH h hv ps cs
  exact .agg _ xs (by omega) g2 fun i a1 a2 => h2 i (by omega) a1 _ (g3 i (by omega) a2)
 ·exact hx
theorem kC {M : Mem} {n0 : Nat} : ∀ (ix : List Nat) (ps : List Pt) {s : St}, s.M = M → Rel E base w0 ok en G s a w → (∀ b e l, n0 ≤ b → M[b]? = some (.vec e l) → G.σ b = .hdr none 0 0 e.size) → Rel E base w0 ok en G { s with T := Z7 n0 M ix ps s.T } a w
 | [], ps, s, hM, h, hv => by cases ps <;> exact h
 | i :: ix, [], s, hM, h, hv => h
 | i :: ix, p :: ps, s, hM, h, hv => by
   have plain : Z7 n0 M (i :: ix) (p :: ps) s.T = Z7 n0 M ix ps s.T → Rel E base w0 ok en G { s with T := Z7 n0 M (i :: ix) (p :: ps) s.T } a w := fun e => by
    rw [e]; exact kC ix ps hM h hv
   have set : ∀ f : AV → AV, (∀ v x, VR G.D G.σ w v x → VR G.D G.σ w (f v) x) → Rel E base w0 ok en G { s with T := Js s.T i (f (Kh s.T i)) } a w := fun f hf => by
    rw [z5]
    refine h.setT fun u hu => ?_
    rw [vF, hu]
    exact hf u _ (h.val i u hu)
   have hm : MemOK base ok G w M := by rw [← hM]; exact h.mem
   cases p with
   | sl e => exact kC ix ps (s := { s with T := Js s.T i (Vd n0 M (.sl e) (Kh s.T i)) }) hM (set _ fun v x hx => QG hm hv _ hx) hv
   | vec b => exact kC ix ps (s := { s with T := Js s.T i (Vd n0 M (.vec b) (Kh s.T i)) }) hM (set _ fun v x hx => QG hm hv _ hx) hv
   | agg n => exact kC ix (ps.drop n) (s := { s with T := Js s.T i (qbr n0 M ps (Kh s.T i)) }) hM (set _ fun v x hx => Na hm hv _ hx) hv
   | _ => exact plain rfl
theorem Rel.recells (h : Rel E base w0 ok en G s a w) {N : Mem} (hl : N.length = s.M.length) (hN : ∀ (b : Nat) (y : Blk), N[b]? = some y → s.M[b]? = some y ∨ ∃ cs ds, s.M[b]? = some (.cells cs) ∧ y = .cells ds ∧ ds.length = cs.length ∧ ∀ i (h1 : i < cs.length) (h2 : i < ds.length) x, VR G.D G.σ w cs[i] x → VR G.D G.σ w ds[i] x) :
  Rel E base w0 ok en G { s with M := N } a w := by
 have hmutN : ∀ (b : Nat) (y : Blk) (c : Nat), N[b]? = some y → mutC (G.σ b) y = some c → ∃ z, s.M[b]? = some z ∧ mutC (G.σ b) z = some c := by
  intro b y c hb hc
  rcases hN b y hb with hs | ⟨cs, ds, hs, rfl, _⟩
  ·exact ⟨y, hs, hc⟩
  ·refine ⟨_, hs, ?_⟩
   generalize G.σ b = sb at hc ⊢
   cases sb <;> exact hc
 refine ⟨h.defers, h.size, h.val, ⟨fun b y hb => ?_, fun b y c hb hc => ?_, fun b b' y y' c hb hc hb' hc' => ?_, h.mem.dlt, h.mem.dok, fun b hb => h.mem.out b (by rw [← hl]; exact hb)⟩, h.below, h.glob, h.base, h.grow, h.held, ?_, h.fr⟩
 ·rcases hN b y hb with hs | ⟨cs, ds, hs, rfl, q1, q2⟩
  ·exact h.mem.blocks b y hs
  ·obtain ⟨c, vs, t, g1, g2, g3, g4⟩ := h.mem.blocks b _ hs
   exact ⟨c, vs, t, g1, g2, by omega, fun i h1 h2 => ⟨(g4 i (by omega) h2).1, q2 i (by omega) h1 _ (g4 i (by omega) h2).2⟩⟩
 ·obtain ⟨z, hz, hc'⟩ := hmutN b y c hb hc
  exact h.mem.own b z c hz hc'
 ·obtain ⟨z, hz, g1⟩ := hmutN b y c hb hc
  obtain ⟨z', hz', g2⟩ := hmutN b' y' c hb' hc'
  exact h.mem.apart b b' z z' c hz g1 hz' g2
 ·show s.lo ≤ N.length
  rw [hl]; exact h.lo
theorem YE (n0 : Nat) (M : Mem) : ∀ (bs : List BP) (N : Mem), (J6 n0 M bs N).length = N.length ∧ ∀ (b : Nat) (y : Blk), (J6 n0 M bs N)[b]? = some y → N[b]? = some y ∨ ∃ ps cs, N[b]? = some (.cells cs) ∧ y = .cells (QI n0 M ps cs)
 | [], N => by cases N <;> exact ⟨rfl, fun _ _ h => .inl h⟩
 | p :: bs, [] => by cases p <;> exact ⟨rfl, fun _ _ h => .inl h⟩
 | p :: bs, x :: r => by
   obtain ⟨h1, h2⟩ := YE n0 M bs r
   have step : ∀ z, (z = x ∨ ∃ ps cs, x = .cells cs ∧ z = .cells (QI n0 M ps cs)) → J6 n0 M (p :: bs) (x :: r) = z :: J6 n0 M bs r → (J6 n0 M (p :: bs) (x :: r)).length = (x :: r).length ∧ ∀ (b : Nat) (y : Blk), (J6 n0 M (p :: bs) (x :: r))[b]? = some y → (x :: r)[b]? = some y ∨ ∃ ps cs, (x :: r)[b]? = some (.cells cs) ∧ y = .cells (QI n0 M ps cs) := by
    intro z hz e
    rw [e]
    refine ⟨by simp [h1], fun b y hb => ?_⟩
    cases b with
    | zero =>
      simp only [List.getElem?_cons_zero, Option.some.injEq] at hb ⊢
      subst hb
      rcases hz with rfl | ⟨ps, cs, rfl, rfl⟩
      ·exact .inl rfl
      ·exact .inr ⟨ps, cs, rfl, rfl⟩
    | succ b => simpa using h2 b y (by simpa using hb)
   cases p with
   | cells ps => cases x with
     | cells cs => exact step _ (.inr ⟨ps, cs, rfl, rfl⟩) rfl
     | _ => exact step _ (.inl rfl) rfl
   | _ => exact step _ (.inl rfl) rfl
theorem vI {p : SPat} {x : p.X} (hm : p.match s = some x) (hc : p.closed = true) (h : Rel E base w0 ok en G s a w) : ∃ G', Rel E base w0 ok en G' (p.build x) a w := by
 obtain ⟨G1, h1⟩ := KQ (zm 0 p.mp) h
 obtain ⟨G2, h2, _, h3⟩ := JF (p.mp.drop (QD (zm 0 p.mp) s.M).length) h1
 have h4 := kC (n0 := (QD (zm 0 p.mp) s.M).length) p.ix p.tp rfl h2 h3
 obtain ⟨g1, g2⟩ := YE (QD (zm 0 p.mp) s.M).length (p.prepM s) p.mp (p.prepM s)
 have h5 := h4.recells (N := J6 (QD (zm 0 p.mp) s.M).length (p.prepM s) p.mp (p.prepM s)) g1 (fun b y hb => by
  rcases g2 b y hb with hs | ⟨ps, cs, hs, rfl⟩
  ·exact .inl hs
  ·obtain ⟨q1, q2⟩ := QH (n0 := (QD (zm 0 p.mp) s.M).length) (M := p.prepM s) h2.mem h3 ps cs
   exact .inr ⟨cs, _, hs, rfl, q1, fun i a1 a2 x hx => q2 i a1 a2 x hx⟩)
 exact B8 hm hc h5
end Go.Sx
namespace Go.Sx
open Go
open Go.RowKit (Below)
variable {P : Program} {E : Env} {base : Nat} {w0 : GW} {ok : Nat → Prop} {en : Ent} {G G' : Gam} {s : St} {a : Act} {w w' : GW} {R : Type} {M : Mem}
def MN : Ex → Exit
 | .normal => .normal
 | .exit i => .exit i
 | .goto l => .goto l
 | .ret => .ret
theorem exBeq {e e' : Ex} (h : Ex.beq e e' = true) : e = e' := by
 cases e <;> cases e' <;> simp only [Ex.beq, Bool.false_eq_true] at h
 ·rfl
 ·rw [Nat.eq_of_beq_eq_true h]
 ·rw [Nat.eq_of_beq_eq_true h]
 ·rfl
theorem Kw {k : Ex → St → Option R} {r : R} : ∀ (es : List (Ex × SPat)) (e : Ex) (s : St) (o : XS es), exK es e s = some o → exsK es o k = some r → (es.all fun p => p.2.closed) = true → Rel E base w0 ok en G s a w →
  ∃ s' G', k e s' = some r ∧ Rel E base w0 ok en G' s' a w
 | [], e, s, o, h, _, _, _ => by simp [exK] at h
 | [p], e, s, o, h, hk, hc, hrel => by
   simp only [exK] at h
   replace h := qq h
   obtain ⟨hb, h⟩ := h
   simp only [List.all_cons, List.all_nil, Bool.and_true] at hc
   obtain ⟨G', h1⟩ := vI h hc hrel
   refine ⟨_, G', ?_, h1⟩
   rw [← exBeq hb]
   exact hk
 | p :: q :: r', e, s, o, h, hk, hc, hrel => by
   simp only [exK] at h
   rw [List.all_cons, Bool.and_eq_true] at hc
   split at h
   ·rename_i x hx
    cases h
    replace hx := qq hx
    obtain ⟨hb, hx⟩ := hx
    obtain ⟨G', h1⟩ := vI hx hc.1 hrel
    refine ⟨_, G', ?_, h1⟩
    rw [← exBeq hb]
    exact hk
   ·obtain ⟨y, hy, h⟩ := Option.bind_eq_some_iff.1 h
    cases h
    exact Kw (q :: r') e s y hy hk hc.2 hrel
theorem Zh : ∀ (js : List Join) {s : St} {j : Join}, Ra js s = some j → (j.es.all fun p => p.2.closed) = true
 | [], s, j, h => by simp [Ra] at h
 | q :: r, s, j, h => by
   unfold Ra at h
   cases hb : ((q.sp.match s).isSome && q.es.all (fun p => p.2.closed)) with
   | true =>
     rw [hb] at h
     cases h
     rw [Bool.and_eq_true] at hb
     exact hb.2
   | false => rw [hb] at h; exact Zh r h
def ToldC (E : Env) (H : Hints) (f : Nat) : Code → Prop
 | .seq x y => ToldC E H f x ∧ ToldC E H f y
 | .cond _ x y => ToldC E H f x ∧ ToldC E H f y
 | .block _ c => ToldC E H f c
 | .scope c => ToldC E H f c
 | .loop c => (match (look H.al f).bind fun hs => (jR c).bind fun i => look hs i with
   | some alts => ∀ a ∈ alts, Alt.Round E H f c a
   | none => True) ∧ ToldC E H f c
 | _ => True
theorem qi {H : Hints} {f : Nat} (h : look H.al f = none) : ∀ (c : Code), ToldC E H f c := by
 intro c
 induction c with
 | seq x y hx hy => exact ⟨hx, hy⟩
 | cond c x y hx hy => exact ⟨hx, hy⟩
 | block i c hc => exact hc
 | scope c hc => exact hc
 | loop c hc => exact ⟨by rw [h]; trivial, hc⟩
 | _ => trivial
def resF (tmps : Array Value) : ResultVar → Sem Value
 | .tmp t => pure (tmps.getD t undef)
 | .cell c t => do loadVar t (← asAddr (tmps.getD c undef))
theorem NY (fn : Func) (tmps : Array Value) : results fn tmps = (do let vs ← fn.results.mapM (resF tmps); pure (if h : vs.size = 1 then vs[0] else .tuple vs)) := by
 unfold results
 congr 1
theorem Ma (hE : EnvOK P E) (h : Rel E base w0 ok en G s a w) {r : ResultVar} {v : AV} (hr : res1 E s r = some v) :
  ∃ x, (resF a.tmps r).run P w = .ok x w ∧ VR G.D G.σ w v x := by
 unfold res1 at hr
 split at hr
 ·rename_i t
  exact ⟨_, rfl, h.val t v hr⟩
 ·rename_i c t
  split at hr
  ·rename_i i b hi hT
   split at hr
   ·rename_i cs hb
    have hp := h.val c _ hT
    obtain ⟨q, hq, hx⟩ := hp.ptr_inv
    obtain ⟨x, h1, h2, _⟩ := gT VR.mkAgg (hE.ty t i hi) (At.of_blk h.mem hb hq) hr
    refine ⟨x, ?_, h2⟩
    simp only [resF, hx, Sem.run_bind]
    rw [show (asAddr (.pointer (some ((blkA q).add 0)))).run P w = .ok ((blkA q).add 0) w from rfl]
    exact h1
   ·simp at hr
  ·simp at hr
theorem Gq (hE : EnvOK P E) (h : Rel E base w0 ok en G s a w) : ∀ (rs : List ResultVar) (vs : List AV), resL E s rs = some vs →
  ∃ xs : List Value, (rs.mapM (resF a.tmps)).run P w = .ok xs w ∧ vs.length = xs.length ∧ ∀ i (h : i < vs.length) (h' : i < xs.length), VR G.D G.σ w vs[i] xs[i]
 | [], vs, hr => by simp [resL] at hr; subst hr; exact ⟨[], rfl, rfl, fun i h => by simp at h⟩
 | r :: rs, vs, hr => by
   simp only [resL, Option.bind_eq_some_iff, Option.some.injEq] at hr
   obtain ⟨v, hv, us, hus, rfl⟩ := hr
   obtain ⟨x, h1, h2⟩ := Ma hE h hv
   obtain ⟨xs, h3, h4, h5⟩ := Gq hE h rs us hus
   refine ⟨x :: xs, ?_, by simp [h4], fun i hi hi' => ?_⟩
   ·rw [List.mapM_cons]
    simp only [Sem.run_bind, h1, Result.andThen_ok, h3, Sem.run_pure]
   ·cases i with
    | zero => exact h2
    | succ i => exact h5 i (by simpa using hi) (by simpa using hi')
theorem Q3 (hE : EnvOK P E) (h : Rel E base w0 ok en G s a w) {fn : Func} {v : AV} (hr : gv E fn s = some v) : ∃ x, (results fn a.tmps).run P w = .ok x w ∧ VR G.D G.σ w v x := by
 unfold gv at hr
 obtain ⟨vs, hvs, hr⟩ := Option.bind_eq_some_iff.1 hr
 obtain ⟨xs, h1, h2, h3⟩ := Gq hE h _ _ hvs
 have hrun : (fn.results.mapM (resF a.tmps)).run P w = .ok xs.toArray w := by
  rw [Array.mapM_eq_mapM_toList]
  simp only [Sem.run_map, h1, Result.andThen_ok]
 have hres : (results fn a.tmps).run P w = .ok (if h : xs.toArray.size = 1 then xs.toArray[0] else .tuple xs.toArray) w := by
  rw [NY, Sem.run_bind, hrun]
  rfl
 refine ⟨_, hres, ?_⟩
 split at hr
 ·rename_i v'
  cases hr
  have hl : xs.length = 1 := by simpa using h2.symm
  rw [dif_pos (by simpa using hl)]
  have := h3 0 (by simp) (by omega)
  simpa using this
 ·rename_i hne
  cases hr
  have hl : ¬ xs.toArray.size = 1 := by
   intro e
   have e' : vs.length = 1 := by rw [h2]; simpa using e
   match vs, e', hne with
   | [v], _, hne => exact hne v rfl
  rw [dif_neg hl]
  exact .tup vs xs h2 h3
def Dl (P : Program) (E : Env) (H : Hints) (base : Nat) (w0 : GW) (ok : Nat → Prop) (n : Nat) : Prop :=
 ∀ (R : Type) (f : Nat) (c : Code) (s : St) (k : Ex → St → Option R) (r : R) (en : Ent) (G : Gam) (a : Act) (w : GW) (Q : Exit → Act → GW → Prop), ToldC E H f c → jS E H n f c s k = some r → Rel E base w0 ok en G s a w →
  (∀ e s' G' a' w', k e s' = some r → Rel E base w0 ok en G' s' a' w' → Q (MN e) a' w') → c.wp P Q a w
theorem JR {c : Code} {body : St → (Ex → St → Option R) → Option R} {k : Ex → St → Option R} {r : R} {Q : Exit → Act → GW → Prop}
  (hbody : ∀ (s : St) (k : Ex → St → Option R) (G : Gam) (a : Act) (w : GW) (Q : Exit → Act → GW → Prop), body s k = some r → Rel E base w0 ok en G s a w → (∀ e s' G' a' w', k e s' = some r → Rel E base w0 ok en G' s' a' w' → Q (MN e) a' w') → c.wp P Q a w)
  (hQ : ∀ e s' G' a' w', e ≠ .normal → k e s' = some r → Rel E base w0 ok en G' s' a' w' → Q (MN e) a' w') :
  ∀ (n : Nat) (s : St) (G : Gam) (a : Act) (w : GW), JS body k n s = some r → Rel E base w0 ok en G s a w → Code.rounds P c Q n a w
 | 0, s, G, a, w, h, _ => by simp [JS] at h
 | n + 1, s, G, a, w, h, hrel => by
   rw [rounds_succ]
   unfold JS at h
   refine hbody s _ G a w _ h hrel fun e s' G' a' w' hk h' => ?_
   cases e with
   | normal => exact JR hbody hQ n s' G' a' w' hk h'
   | exit i => exact hQ (.exit i) s' G' a' w' (by simp) hk h'
   | goto l => exact hQ (.goto l) s' G' a' w' (by simp) hk h'
   | ret => exact hQ .ret s' G' a' w' (by simp) hk h'
theorem VW {H : Hints} {f : Nat} {c : Code} {al : Alt} (hround : Alt.Round E H f c al) (hfu : Dl P E H base w0 ok al.fu) (htold : ToldC E H f c) (hclosed : al.sp.closed = true) (hes : (al.es.all fun p => p.2.closed) = true) {k : Ex → St → Option R} {r : R} {Q : Exit → Act → GW → Prop}
  (hQ : ∀ e s' G' a' w', e ≠ .normal → k e s' = some r → Rel E base w0 ok en G' s' a' w' → Q (MN e) a' w') {o : XS al.es} (ho : exsK al.es o k = some r) :
  ∀ (L : Nat) (x : al.sp.X) (G : Gam) (a : Act) (w : GW), qr al.T L x = some o → Rel E base w0 ok en G (al.sp.build x) a w → Code.rounds P c Q L a w
 | 0, x, G, a, w, h, _ => by simp [qr] at h
 | L + 1, x, G, a, w, h, hrel => by
   rw [rounds_succ]
   unfold qr at h
   rw [← hround (qr al.T L) x, gC] at h
   refine hfu _ f c _ _ _ en G a w _ htold h hrel fun e s' G' a' w' hk h' => ?_
   have fin : ∀ e, e ≠ Ex.normal → exK al.es e s' = some o → Q (MN e) a' w' := by
    intro e hne hk
    obtain ⟨s2, G2, h1, h2⟩ := Kw al.es e s' o hk ho hes h'
    exact hQ e s2 G2 a' w' hne h1 h2
   cases e with
   | normal =>
     obtain ⟨x', hx', hk⟩ := Option.bind_eq_some_iff.1 hk
     obtain ⟨G2, h2⟩ := vI hx' hclosed h'
     exact VW hround hfu htold hclosed hes hQ ho L x' G2 a' w' hk h2
   | exit i => exact fin (.exit i) (by simp) hk
   | goto l => exact fin (.goto l) (by simp) hk
   | ret => exact fin .ret (by simp) hk
theorem Uv {H : Hints} {f : Nat} {c : Code} {n L : Nat} (hn : ∀ m, m ≤ n → Dl P E H base w0 ok m) (htold : ToldC E H f c) {k : Ex → St → Option R} {r : R} {Q : Exit → Act → GW → Prop}
  (hQ : ∀ e s' G' a' w', k e s' = some r → Rel E base w0 ok en G' s' a' w' → Q (MN e) a' w') :
  ∀ (alts : List Alt) (s : St), (∀ a ∈ alts, Alt.Round E H f c a) → altK n L alts s k = some r → Rel E base w0 ok en G s a w → (Code.loop c).wp P Q a w
 | [], s, _, h, _ => by simp [altK] at h
 | al :: rest, s, hr, h, hrel => by
   unfold altK at h
   split at h
   ·rename_i x hx
    replace hx := qq hx
    obtain ⟨hb, hx⟩ := hx
    simp only [Bool.and_eq_true] at hb
    obtain ⟨o, ho, h⟩ := Option.bind_eq_some_iff.1 h
    obtain ⟨G2, h2⟩ := vI hx hb.1.2 hrel
    exact wp_loop_rounds L (VW (hr al (by simp)) (hn _ (Nat.le_of_ble_eq_true hb.1.1)) htold hb.1.2 hb.2 (fun e s' G' a' w' _ => hQ e s' G' a' w') h L x G2 a w ho h2)
   ·exact Uv hn htold hQ rest s (fun a ha => hr a (by simp [ha])) h hrel
theorem qcm (hE : EnvOK P E) {H : Hints} (hin : ∀ f fn c, look E.inl f = some fn → fn.body = some c → ToldC E H f c) {n : Nat} (hn : Dl P E H base w0 ok n) :
  ZE P E base w0 ok (fun (g : Nat) (fn : Func) (args : List AV) (s : St) (k : AV → St → Option R) => match fn.body with
   | some c => fS { T := args ++ Zp (fn.ntmps - args.length), M := s.M, lock := AV.idss s.T ++ s.lock, lo := s.M.length } fun s1 => jS E H n g c s1 fun e s' =>
     match e with
     | .ret => (gv E fn s').bind fun v => k v { s with M := s'.M }
     | .normal => (gv E fn s').bind fun v => k v { s with M := s'.M }
     | _ => none
   | none => none) := by
 intro g fn args s k r en G a w xs hfn hk h hl hv
 obtain ⟨i1, i2, i3⟩ := hE.inl g fn hfn
 dsimp only at hk
 split at hk
 ·rename_i c hc
  rw [gC, gz] at hk
  refine calls_of_wp i1 hc ?_
  let en' : Ent := (G, w, AV.idss s.T ++ s.lock, s.M.length)
  have hrel : Rel E base w0 ok en' G { T := args ++ List.replicate (fn.ntmps - args.length) .junk, M := s.M, lock := AV.idss s.T ++ s.lock, lo := s.M.length } { tmps := xs.toArray ++ Array.replicate (fn.ntmps - xs.toArray.size) undef, defers := [] } w := by
   refine ⟨rfl, by simp [hl], fun t v ht => ?_, h.mem, h.below, h.glob, h.base, fun c hc => ⟨hc, rfl⟩, fun b hb hne => ⟨rfl, ?_⟩, Nat.le_refl _, ⟨rfl, rfl⟩⟩
   ·have ht' : (args ++ List.replicate (fn.ntmps - args.length) AV.junk)[t]? = some v := ht
    rw [List.getElem?_append] at ht'
    split at ht'
    ·rename_i hlt
     rw [List.getElem?_eq_getElem hlt] at ht'
     cases ht'
     have := hv t hlt (by omega)
     have e : (xs.toArray ++ Array.replicate (fn.ntmps - xs.toArray.size) undef).getD t undef = xs[t]'(by omega) := by
      have hlt2 : t < xs.length := by omega
      simp [Array.getD_eq_getD_getElem?, Array.getElem?_append, hlt2]
     rw [e]
     exact this
    ·rw [List.getElem?_replicate] at ht'
     split at ht'
     ·cases ht'; exact .junk _
     ·cases ht'
   ·apply Classical.byContradiction
    intro hge
    exact hne (h.mem.out b (by simpa using hge))
  have fin : ∀ (s' : St) (G' : Gam) (a' : Act) (w' : GW), ((gv E fn s').bind fun v => k v { s with M := s'.M }) = some r → Rel E base w0 ok en' G' s' a' w' →
    a'.defers = [] ∧ ∃ v, (results fn a'.tmps).run P w' = .ok v w' ∧ ∃ v1 x G2 s2, Ending.returned v = .returned x ∧ k v1 s2 = some r ∧ Rel E base w0 ok en G2 s2 a w' ∧ VR G2.D G2.σ w' v1 x := by
   intro s' G' a' w' hk' h'
   obtain ⟨v, hv1, hk'⟩ := Option.bind_eq_some_iff.1 hk'
   obtain ⟨x, hx1, hx2⟩ := Q3 hE h' hv1
   have hD : ∀ c, G.D c → G'.D c ∧ w'.heap[c]? = w.heap[c]? := h'.grow
   have hlo : s'.lo = s.M.length := h'.fr.2
   have hlock : s'.lock = AV.idss s.T ++ s.lock := h'.fr.1
   have hheld : ∀ b ∈ AV.idss s.T ++ s.lock, G.σ b ≠ .none → G'.σ b = G.σ b := fun b hb hne => (h'.held b (by rw [hlock]; exact hb) hne).1
   refine ⟨h'.defers, x, hx1, v, x, G', { s with M := s'.M }, rfl, hk', ?_, hx2⟩
   refine ⟨h.defers, h.size, fun t u ht => (h.val t u ht).mono hD fun b hb hne => hheld b ?_ hne, h'.mem, h'.below, h'.glob, h'.base, fun c hc => ⟨(hD c (h.grow c hc).1).1, ?_⟩, fun b hb hne => ?_, ?_, h.fr⟩
   ·obtain ⟨hlt, rfl⟩ := List.getElem?_eq_some_iff.1 ht
    exact List.mem_append.2 (.inl (Zw hlt hb))
   ·rw [(hD c (h.grow c hc).1).2]; exact (h.grow c hc).2
   ·obtain ⟨e1, e2⟩ := h.held b hb hne
    exact ⟨by rw [hheld b (List.mem_append.2 (.inr hb)) (by rw [e1]; exact hne)]; exact e1, e2⟩
   ·have h1 := h.lo
    have h2 := h'.lo
    show s.lo ≤ s'.M.length
    omega
  refine hn _ g c _ _ r en' G _ w _ (hin g fn c hfn hc) hk hrel fun e s' G' a' w' hk' h' => ?_
  cases e with
  | normal => exact fin s' G' a' w' hk' h'
  | ret => exact fin s' G' a' w' hk' h'
  | exit i => cases hk'
  | goto l => cases hk'
 ·cases hk
theorem KY (hE : EnvOK P E) {H : Hints} (hin : ∀ f fn c, look E.inl f = some fn → fn.body = some c → ToldC E H f c) : ∀ n, Dl P E H base w0 ok n := by
 intro n
 induction n using Nat.strongRecOn with
 | _ n ih =>
   intro R f c s k r en G a w Q htold hk h hQ
   cases n with
   | zero => simp [jS] at hk
   | succ n =>
     have hn := ih n (by omega)
     have hrun := qcm (R := R) hE hin hn
     unfold jS at hk
     cases c with
     | skip => exact wp_skip (hQ _ _ _ _ _ hk h)
     | label l => exact wp_label (hQ _ _ _ _ _ hk h)
     | ret => exact wp_ret (hQ _ _ _ _ _ hk h)
     | exit i => exact wp_exit (hQ _ _ _ _ _ hk h)
     | goto l => exact wp_goto (hQ _ _ _ _ _ hk h)
     | region id ops draw =>
       cases draw with
       | true => exact RW hE hrun (fun s' G' a' w' hk' h' => hQ .normal s' G' a' w' hk' h') hk h id
       | false => exact wp_region_list (G3 hE hrun (fun s' G' a' w' hk' h' => hQ .normal s' G' a' w' hk' h') _ s G a w hk h)
     | seq x y =>
       have fin : ∀ (e : Ex) (s' : St) (G' : Gam) (a' : Act) (w' : GW), (match e with
         | .normal => jS E H n f y s' k
         | e => k e s') = some r → Rel E base w0 ok en G' s' a' w' → (match MN e with | .normal => y.wp P Q a' w' | e => Q e a' w') := by
        intro e s' G' a' w' hk' h'
        cases e with
        | normal => exact hn R f y s' k r en G' a' w' Q htold.2 hk' h' hQ
        | exit i => exact hQ (.exit i) _ _ _ _ hk' h'
        | goto l => exact hQ (.goto l) _ _ _ _ hk' h'
        | ret => exact hQ .ret _ _ _ _ hk' h'
       have plain : (jS E H n f x s fun e s => match e with
         | .normal => jS E H n f y s k
         | e => k e s) = some r → (Code.seq x y).wp P Q a w := by
        intro hk
        refine wp_seq (hn R f x s _ r en G a w _ htold.1 hk h fun e s' G' a' w' hk' h' => ?_)
        cases e with
        | normal => exact fin .normal s' G' a' w' hk' h'
        | exit i => exact fin (.exit i) s' G' a' w' hk' h'
        | goto l => exact fin (.goto l) s' G' a' w' hk' h'
        | ret => exact fin .ret s' G' a' w' hk' h'
       simp only at hk
       split at hk
       ·rename_i p hp
        unfold qat at hp
        split at hp
        ·cases hp
        ·split at hp
         ·rename_i i1 o1 i2 o2 d q
          replace hp := qq hp
          obtain ⟨_, hp⟩ := hp
          cases hp
          refine wp_seq (wp_region_list (gb hE _ s G a w hk h fun s1 G1 a1 w1 k1 h1 b1 l1 t1 => ?_))
          refine wp_seq (wp_seq (wp_region_list (gb hE _ s1 G1 a1 w1 k1 h1 fun s2 G2 a2 w2 k2 h2 b2 l2 t2 => ?_)))
          rw [gC] at k2
          have h3 := h.thaw h2 (b1.trans (b2.mono b1.size)) (l2.trans l1) (ds := (o1.toList ++ o2.toList).filterMap (·.dst)) fun t ht => by
           rw [List.filterMap_append, List.mem_append] at ht
           rw [t2 t fun hm => ht (.inr hm), t1 t fun hm => ht (.inl hm)]
          refine hn R f d _ _ r en G a2 w2 _ htold.2.1.2 k2 h3 fun e s' G' a' w' hk' h' => ?_
          cases e with
          | normal => exact hn R f q s' k r en G' a' w' Q htold.2.2 hk' h' hQ
          | exit i => exact hQ (.exit i) _ _ _ _ hk' h'
          | goto l => exact hQ (.goto l) _ _ _ _ hk' h'
          | ret => exact hQ .ret _ _ _ _ hk' h'
         ·cases hp
       split at hk
       ·split at hk
        ·rename_i j hj
         cases hon : j.on with
         | false => rw [hon] at hk; exact plain hk
         | true =>
         rw [hon] at hk
         obtain ⟨o, ho, hk⟩ := Option.bind_eq_some_iff.1 hk
         have hcl : (j.es.all fun p => p.2.closed) = true := Zh _ hj
         refine wp_seq (hn _ f x s _ o en G a w _ htold.1 ho h fun e s' G' a' w' hk' h' => ?_)
         obtain ⟨s2, G2, h1, h2⟩ := Kw j.es e s' o hk' hk hcl h'
         rw [gC] at h1
         have h3 := fin e s2 G2 a' w' h1 h2
         cases e with
         | normal => exact h3
         | exit i => exact h3
         | goto l => exact h3
         | ret => exact h3
        ·exact plain hk
       ·exact plain hk
     | cond c x y =>
       simp only at hk
       split at hk
       ·rename_i t hc
        have hv := qR (G := G) (w := w) (a := a) h.val c
        rw [hc] at hv
        cases t with
        | true => exact wp_cond_true hv.bool_inv (hn R f x s k r en G a w Q htold.1 hk h hQ)
        | false => exact wp_cond_false hv.bool_inv (hn R f y s k r en G a w Q htold.2 hk h hQ)
       ·simp at hk
     | block id c =>
       refine wp_block (hn R f c s _ r en G a w _ htold hk h fun e s' G' a' w' hk' h' => ?_)
       cases e with
       | normal => exact hQ .normal _ _ _ _ hk' h'
       | exit i =>
         show if i = id then Q .normal a' w' else Q (.exit i) a' w'
         by_cases hi : i = id
         ·subst hi
          rw [if_pos rfl]
          simp only [Nat.beq_refl, cond_true] at hk'
          exact hQ .normal _ _ _ _ hk' h'
         ·rw [if_neg hi]
          have : Nat.beq i id = false := Dg hi
          simp only [this, cond_false] at hk'
          exact hQ (.exit i) _ _ _ _ hk' h'
       | goto l => exact hQ (.goto l) _ _ _ _ hk' h'
       | ret => exact hQ .ret _ _ _ _ hk' h'
     | loop c =>
       simp only at hk
       split at hk
       ·rename_i alts halts
        have h1 := htold.1
        rw [halts] at h1
        exact Uv (fun m hm => ih m (by omega)) htold.2 (fun e s' G' a' w' hk' h' => hQ e s' G' a' w' (by rw [gC] at hk'; exact hk') h') alts s h1 hk h
       ·refine wp_loop_rounds 70 (JR (fun s k G a w Q hk h hQ => hn R f c s k r en G a w Q htold.2 hk h hQ) (fun e s' G' a' w' _ hk' h' => hQ e s' G' a' w' hk' h') 70 s G a w hk h)
     | scope c =>
       refine wp_scope_straight (hn R f c s _ r en G a w _ htold hk h fun e s' G' a' w' hk' h' => ?_)
       cases e with
       | normal => exact hQ .normal _ _ _ _ hk' h'
       | exit i => exact hQ (.exit i) _ _ _ _ hk' h'
       | goto l => cases hk'
       | ret => exact hQ .ret _ _ _ _ hk' h'
     | _ => simp at hk
end Go.Sx
namespace Go.Sx
open Go
open Go.RowKit (Below)
variable {P : Program} {E : Env} {base : Nat} {w0 : GW} {ok : Nat → Prop} {en : Ent} {G G' : Gam} {s : St} {a : Act} {w w' : GW} {R : Type} {M : Mem}
theorem Rel.frz1D (h : Rel E base w0 ok en G s a w) (v : AV) : ∃ G', Rel E base w0 ok en G' { s with M := Sx.frz1 s.M v } a w ∧ G'.σ = G.σ ∧ ∀ c, G.D c → G'.D c := by
 cases v with
 | vec b => exact h.freezeD b
 | vsl b i j => exact h.freezeD b
 | _ => exact ⟨G, h, rfl, fun _ h => h⟩
theorem Rel.frzsD : ∀ (vs : List AV) {s : St} {G : Gam}, Rel E base w0 ok en G s a w → ∃ G', Rel E base w0 ok en G' { s with M := Sx.frzs s.M vs } a w ∧ G'.σ = G.σ ∧ ∀ c, G.D c → G'.D c
 | [], s, G, h => ⟨G, h, rfl, fun _ h => h⟩
 | v :: r, s, G, h => by
   obtain ⟨G1, h1, e1, d1⟩ := h.frz1D v
   obtain ⟨G2, h2, e2, d2⟩ := Rel.frzsD r h1
   exact ⟨G2, h2, e2.trans e1, fun c hc => d2 c (d1 c hc)⟩
theorem Rel.frzD (h : Rel E base w0 ok en G s a w) (v : AV) : ∃ G', Rel E base w0 ok en G' { s with M := Sx.frz s.M v } a w ∧ G'.σ = G.σ ∧ ∀ c, G.D c → G'.D c := by
 unfold Sx.frz
 split
 ·exact Rel.frzsD _ h
 ·exact h.frz1D _
theorem Rel.frzArgsD : ∀ (vs : List AV) {s : St} {G : Gam}, Rel E base w0 ok en G s a w → ∃ G', Rel E base w0 ok en G' { s with M := Sx.frzArgs s.M vs } a w ∧ G'.σ = G.σ ∧ ∀ c, G.D c → G'.D c
 | [], s, G, h => ⟨G, h, rfl, fun _ h => h⟩
 | v :: r, s, G, h => by
   obtain ⟨G1, h1, e1, d1⟩ := h.frzD v
   obtain ⟨G2, h2, e2, d2⟩ := Rel.frzArgsD r h1
   exact ⟨G2, h2, e2.trans e1, fun c hc => d2 c (d1 c hc)⟩
theorem NZ {v v' : AV} {x : Value} (h : Rel E base w0 ok en G s a w) (hv : VR G.D G.σ w v x) (hd : q9.dataRes (q9.frzRes s.M v) v = some v') : ∃ G', Rel E base w0 ok en G' { s with M := q9.frzRes s.M v } a w ∧ DR G'.D w v' x := by
 unfold q9.dataRes at hd
 split at hd
 ·rename_i vs
  obtain ⟨G1, h1, e1, d1⟩ := h.frzArgsD vs
  obtain ⟨us, hus, hd⟩ := Option.bind_eq_some_iff.1 hd
  cases hd
  refine ⟨G1, h1, ?_⟩
  obtain ⟨l1, l2⟩ := jT h1.mem hus
  obtain ⟨xs, x1, x2, rfl⟩ := hv.tup_inv
  exact .tup us xs (by omega) fun i a1 a2 => l2 i (by omega) a1 _ ((x2 i (by omega) a2).grow (fun c hc => ⟨d1 c hc, rfl⟩) (fun _ _ => by rw [e1]))
 ·rename_i hne
  have e : q9.frzRes s.M v = Sx.frz s.M v := by
   unfold q9.frzRes
   cases v <;> first | rfl | exact absurd rfl (hne _)
  rw [e] at hd ⊢
  obtain ⟨G1, h1, e1, d1⟩ := h.frzD v
  exact ⟨G1, h1, zZ h1.mem (hv.grow (fun c hc => ⟨d1 c hc, rfl⟩) (fun _ _ => by rw [e1])) hd⟩
theorem KX (hE : EnvOK P E) {H : Hints} (hin : ∀ f fn c, look E.inl f = some fn → fn.body = some c → ToldC E H f c) {f : Nat} {fn : Func} (hf : P.funcs[f]? = some fn) (htold : ∀ c, fn.body = some c → ToldC E H f c) {args : List AV} {fin : AV → Option R} {r : R} (h : q9 E H f fn args fin = some r) :
  ∀ (ok : Nat → Prop) (w : GW) (xs : List Value), (∀ c, ok c → c < w.heap.size) → GOK E.glob w.heap.size ok w → DRs ok w args xs →
  Calls P f xs.toArray w fun e w' => ∃ v cv, fin v = some r ∧ e = .returned cv ∧ Below w.heap.size w w' ∧ DR (fun c => ok c ∨ (w.heap.size ≤ c ∧ c < w'.heap.size)) w' v cv := by
 intro ok w xs hok hgok hargs
 unfold q9 at h
 split at h
 ·rename_i c hc
  rw [gC, gz] at h
  refine calls_of_wp hf hc ?_
  let G0 : Gam := ⟨fun _ => .none, ok⟩
  let en : Ent := (G0, w, [], 0)
  have hrel : Rel E w.heap.size w ok en G0 { T := args ++ List.replicate (fn.ntmps - args.length) .junk, M := [], lock := [], lo := 0 } { tmps := xs.toArray ++ Array.replicate (fn.ntmps - xs.toArray.size) undef, defers := [] } w := by
   have hl := hargs.1
   refine ⟨rfl, by simp [hl], fun t v ht => ?_, ⟨fun b x hb => by simp at hb, fun b x c hb => by simp at hb, fun b b' x x' c hb => by simp at hb, hok, fun c hc => .inl hc, fun _ _ => rfl⟩, Below.refl _ _, hgok, Nat.le_refl _, fun c hc => ⟨hc, rfl⟩, fun b hb => by simp at hb, Nat.le_refl _, ⟨rfl, rfl⟩⟩
   have ht' : (args ++ List.replicate (fn.ntmps - args.length) AV.junk)[t]? = some v := ht
   rw [List.getElem?_append] at ht'
   split at ht'
   ·rename_i hlt
    rw [List.getElem?_eq_getElem hlt] at ht'
    cases ht'
    have hlt2 : t < xs.length := by omega
    have := hargs.2 t hlt hlt2
    have e : (xs.toArray ++ Array.replicate (fn.ntmps - xs.toArray.size) undef).getD t undef = xs[t]'hlt2 := by
     simp [Array.getD_eq_getD_getElem?, Array.getElem?_append, hlt2]
    rw [e]
    exact .data _ _ this
   ·rw [List.getElem?_replicate] at ht'
    split at ht'
    ·cases ht'; exact .junk _
    ·cases ht'
  have fin' : ∀ (s' : St) (G' : Gam) (a' : Act) (w' : GW), ((gv E fn s').bind fun v => (q9.dataRes (q9.frzRes s'.M v) v).bind fin) = some r → Rel E w.heap.size w ok en G' s' a' w' →
    a'.defers = [] ∧ ∃ v, (results fn a'.tmps).run P w' = .ok v w' ∧ ∃ v1 cv, fin v1 = some r ∧ Ending.returned v = .returned cv ∧ Below w.heap.size w w' ∧ DR (fun c => ok c ∨ (w.heap.size ≤ c ∧ c < w'.heap.size)) w' v1 cv := by
   intro s' G' a' w' hk h'
   obtain ⟨v, hv, hk⟩ := Option.bind_eq_some_iff.1 hk
   obtain ⟨v', hv', hk⟩ := Option.bind_eq_some_iff.1 hk
   obtain ⟨x, hx1, hx2⟩ := Q3 hE h' hv
   obtain ⟨G2, h2, hdr⟩ := NZ h' hx2 hv'
   refine ⟨h'.defers, x, hx1, v', x, hk, rfl, h2.below, hdr.mono fun c hc => ⟨?_, rfl⟩⟩
   rcases h2.mem.dok c hc with h3 | h3
   ·exact .inl h3
   ·exact .inr ⟨h3, h2.mem.dlt c hc⟩
  refine KY hE hin 400 R f c _ _ r en G0 _ w _ (htold c hc) h hrel fun e s' G' a' w' hk h' => ?_
  cases e with
  | normal => exact fin' s' G' a' w' hk h'
  | ret => exact fin' s' G' a' w' hk h'
  | exit i => cases hk
  | goto l => cases hk
 ·cases h
theorem RS (hE : EnvOK P E) {H : Hints} (hin : ∀ f fn c, look E.inl f = some fn → fn.body = some c → ToldC E H f c) {f : Nat} {fn : Func} (hf : P.funcs[f]? = some fn) (htold : ∀ c, fn.body = some c → ToldC E H f c) {args : List AV} {kd : Kd} {fin : List kd.T → Option R} {r : R} (h : RT E H f fn args kd fin = some r) :
  ∀ (ok : Nat → Prop) (w : GW) (xs : List Value), (∀ c, ok c → c < w.heap.size) → GOK E.glob w.heap.size ok w → DRs ok w args xs →
  Calls P f xs.toArray w fun e w' => ∃ l, fin l = some r ∧ ∃ (A : Option Nat) (cap : Nat), e = .returned (.slice (A.map blkA) l.length cap) ∧ Below w.heap.size w w' ∧ l.length ≤ cap ∧ (A = none → l = [] ∧ cap = 0) ∧
   ∀ c, A = some c → w.heap.size ≤ c ∧ c < w'.heap.size ∧ ∃ vs t, w'.heap[c]? = some (.cells vs t (0, 0)) ∧ vs.size = cap * kd.size ∧ (∀ v ∈ vs.toList, v.oneCell' = true) ∧
    ∀ i (h : i < l.length) j (hj : j < (kd.cells l[i]).length), DR (fun q => ok q ∨ (w.heap.size ≤ q ∧ q < w'.heap.size ∧ q ≠ c)) w' ((kd.cells l[i])[j]) (vs.getD (i * kd.size + j) undef) := by
 intro ok w xs hok hgok hargs
 unfold RT at h
 split at h
 ·rename_i c hc
  rw [gC, gz] at h
  refine calls_of_wp hf hc ?_
  let G0 : Gam := ⟨fun _ => .none, ok⟩
  let en : Ent := (G0, w, [], 0)
  have hrel : Rel E w.heap.size w ok en G0 { T := args ++ List.replicate (fn.ntmps - args.length) .junk, M := [], lock := [], lo := 0 } { tmps := xs.toArray ++ Array.replicate (fn.ntmps - xs.toArray.size) undef, defers := [] } w := by
   have hl := hargs.1
   refine ⟨rfl, by simp [hl], fun t v ht => ?_, ⟨fun b x hb => by simp at hb, fun b x c hb => by simp at hb, fun b b' x x' c hb => by simp at hb, hok, fun c hc => .inl hc, fun _ _ => rfl⟩, Below.refl _ _, hgok, Nat.le_refl _, fun c hc => ⟨hc, rfl⟩, fun b hb => by simp at hb, Nat.le_refl _, ⟨rfl, rfl⟩⟩
   have ht' : (args ++ List.replicate (fn.ntmps - args.length) AV.junk)[t]? = some v := ht
   rw [List.getElem?_append] at ht'
   split at ht'
   ·rename_i hlt
    rw [List.getElem?_eq_getElem hlt] at ht'
    cases ht'
    have hlt2 : t < xs.length := by omega
    have := hargs.2 t hlt hlt2
    have e : (xs.toArray ++ Array.replicate (fn.ntmps - xs.toArray.size) undef).getD t undef = xs[t]'hlt2 := by
     simp [Array.getD_eq_getD_getElem?, Array.getElem?_append, hlt2]
    rw [e]
    exact .data _ _ this
   ·rw [List.getElem?_replicate] at ht'
    split at ht'
    ·cases ht'; exact .junk _
    ·cases ht'
  have fin' : ∀ (s' : St) (G' : Gam) (a' : Act) (w' : GW), ((gv E fn s').bind fun v => B2 kd s'.M v fin) = some r → Rel E w.heap.size w ok en G' s' a' w' →
    a'.defers = [] ∧ ∃ v, (results fn a'.tmps).run P w' = .ok v w' ∧ ∃ l, fin l = some r ∧ ∃ (A : Option Nat) (cap : Nat), Ending.returned v = .returned (.slice (A.map blkA) l.length cap) ∧ Below w.heap.size w w' ∧ l.length ≤ cap ∧ (A = none → l = [] ∧ cap = 0) ∧
   ∀ c, A = some c → w.heap.size ≤ c ∧ c < w'.heap.size ∧ ∃ vs t, w'.heap[c]? = some (.cells vs t (0, 0)) ∧ vs.size = cap * kd.size ∧ (∀ v ∈ vs.toList, v.oneCell' = true) ∧
    ∀ i (h : i < l.length) j (hj : j < (kd.cells l[i]).length), DR (fun q => ok q ∨ (w.heap.size ≤ q ∧ q < w'.heap.size ∧ q ≠ c)) w' ((kd.cells l[i])[j]) (vs.getD (i * kd.size + j) undef) := by
   intro s' G' a' w' hk h'
   obtain ⟨v, hv, hk⟩ := Option.bind_eq_some_iff.1 hk
   obtain ⟨x, hx1, hx2⟩ := Q3 hE h' hv
   refine ⟨h'.defers, x, hx1, ?_⟩
   unfold B2 at hk
   split at hk
   ·rw [hx2.nilsl_inv]
    exact ⟨[], hk, none, 0, rfl, h'.below, Nat.le_refl _, fun _ => ⟨rfl, rfl⟩, fun c hc => by cases hc⟩
   ·rename_i b
    split at hk
    ·rename_i e l hb
     split at hk
     ·rename_i he
      subst he
      obtain ⟨A, len, cap, sz, hσ, rfl⟩ := hx2.vec_inv
      obtain ⟨A', cap', h1, h2, h3, h4⟩ := h'.mem.blocks b _ hb
      rw [hσ] at h1
      cases h1
      refine ⟨l, hk, A, cap, rfl, h'.below, h2, h3, fun c hc => ?_⟩
      obtain ⟨o1, o2, o3⟩ := h'.mem.own b _ c hb (by rw [hσ]; exact hc)
      obtain ⟨vs, t, g1, g2, g3, g4⟩ := h4 c hc
      refine ⟨o1, o2, vs, t, g1, g2, g3, fun i hi j hj => (g4 i hi j hj).mono fun q hq => ⟨?_, rfl⟩⟩
      rcases h'.mem.dok q hq with h5 | h5
      ·exact .inl h5
      ·exact .inr ⟨h5, h'.mem.dlt q hq, fun e => o3 (e ▸ hq)⟩
     ·cases hk
    ·cases hk
   ·cases hk
  refine KY hE hin 400 R f c _ _ r en G0 _ w _ (htold c hc) h hrel fun e s' G' a' w' hk h' => ?_
  cases e with
  | normal => exact fin' s' G' a' w' hk h'
  | ret => exact fin' s' G' a' w' hk h'
  | exit i => cases hk
  | goto l => cases hk
 ·cases h
end Go.Sx
namespace Go.Sx
open Go
open Go.RowKit (Below)
def SN.kds : SN → List Kd
 | .place => [.int .i64, .int .i64]
 | .seen => [.int .i64, .int .i64, .int .i64]
 | .exits => [.int .i64, .int .i64, .int .i64, .int .i64]
 | .desc => [.sl (.st .exits), .sl (.int .i64), .sl (.int .i64), .sl (.int .i64), .sl .bool, .int .i64, .int .i64, .int .i64]
 | .world => [.sl (.st .exits), .sl (.int .i64), .sl (.int .i64), .sl (.int .i64), .sl .bool, .int .i64, .int .i64, .int .i64, .sl (.int .i64), .sl (.int .i64), .sl (.st .place)]
 | .key => [.int .i64, .int .i64]
 | .write => [.int .i64, .int .i64, .int .i64, .int .i64, .int .i64]
 | .cmd => [.int .i64, .int .i64, .int .i64, .int .i64, .int .i64, .sl (.int .i64), .int .i64, .sl (.int .i64), .int .i64]
 | .reply => [.int .i64, .int .i64, .int .i64, .sl (.int .i64), .sl (.st .seen), .int .i64]
 | .sess => [.int .i64, .sl .str, .int .i64, .int .i64, .int .i64, .int .i64, .int .i64, .int .i64, .int .i64, .int .i64, .sl (.int .i64), .int .i64, .sl (.int .i64), .int .i64,
   .sl (.st .key), .int .i64, .sl (.st .write), .int .i64, .int .i64, .int .i64, .sl (.int .i64), .sl (.st .seen), .int .i64, .bool, .int .i64, .int .i64, .int .i64, .sl (.st .place), .sl (.int .i64), .int .i64]
 | .call => [.int .i64, .int .i64, .int .i64, .int .i64, .int .i64, .int .i64, .sl (.int .i64), .int .i64, .sl (.int .i64), .int .i64, .int .i64, .int .i64, .int .i64, .int .i64, .int .i64, .sl (.int .i64), .sl (.st .seen), .int .i64]
 | .script => [.int .i64, .sl .str]
def SN.bytes : SN → Nat
 | .place => 16 | .seen => 24 | .exits => 32 | .desc => 144 | .world => 216 | .key => 16 | .write => 40 | .cmd => 104 | .reply => 80 | .sess => 392 | .call => 208 | .script => 32
def Kd.bytes : Kd → Nat
 | .int k => k.bits / 8
 | .bool => 1
 | .str => 16
 | .sl _ => 24
 | .st s => s.bytes
@[reducible] def Lf : List Kd → Type
  | [] => Unit
  | k :: r => k.T × Lf r
def cellsL : (ks : List Kd) → Lf ks → List AV
 | [], _ => []
 | k :: r, x => k.of x.1 :: cellsL r x.2
def SN.mk : (s : SN) → Lf s.kds → s.T
 | .place, x => (⟨x.1, x.2.1⟩ : Place)
 | .seen, x => (⟨x.1, ⟨x.2.1, x.2.2.1⟩⟩ : Seen)
 | .exits, x => (⟨x.1, x.2.1, x.2.2.1, x.2.2.2.1⟩ : Exits)
 | .desc, x => (⟨x.1, x.2.1, x.2.2.1, x.2.2.2.1, x.2.2.2.2.1, x.2.2.2.2.2.1, x.2.2.2.2.2.2.1, x.2.2.2.2.2.2.2.1⟩ : Desc)
 | .world, (a, b, c, d, e, f, g, h, i, j, l, _) => (⟨⟨a, b, c, d, e, f, g, h⟩, i, j, l⟩ : Sx.World)
 | .key, x => (⟨x.1, x.2.1⟩ : Key)
 | .write, (a, b, c, d, e, _) => (⟨a, b, c, ⟨d, e⟩⟩ : Write)
 | .cmd, (a, b, c, d, e, f, g, h, i, _) => (⟨a, b, c, d, e, f, g, h, i⟩ : Cmd)
 | .reply, (a, b, c, d, e, f, _) => (⟨a, b, c, d, e, f⟩ : Reply)
 | .sess, (a, b, c, d, e, f1, f2, f3, f4, f5, f6, f7, f8, f9, g, h, i, r1, r2, r3, r4, r5, r6, j, l, m, n, o, p, q, _) => (⟨a, b, c, d, e, ⟨f1, f2, f3, f4, f5, f6, f7, f8, f9⟩, g, h, i, ⟨r1, r2, r3, r4, r5, r6⟩, j, l, m, n, o, p, q⟩ : Sess)
 | .call, (a, f1, f2, f3, f4, f5, f6, f7, f8, f9, g, h, r1, r2, r3, r4, r5, r6, _) => (⟨a, ⟨f1, f2, f3, f4, f5, f6, f7, f8, f9⟩, g, h, ⟨r1, r2, r3, r4, r5, r6⟩⟩ : Sx.Call)
 | .script, x => (⟨x.1, x.2.1⟩ : Script)
def SN.flds : (s : SN) → s.T → Lf s.kds
 | .place, (y : Place) => (y.kind, y.id, ())
 | .seen, (y : Seen) => (y.item, y.at_.kind, y.at_.id, ())
 | .exits, (y : Exits) => (y.e0, y.e1, y.e2, y.e3, ())
 | .desc, (y : Desc) => (y.exits, y.players, y.coins, y.items, y.boxes, y.room, y.player, y.box, ())
 | .world, (y : Sx.World) => (y.desc.exits, y.desc.players, y.desc.coins, y.desc.items, y.desc.boxes, y.desc.room, y.desc.player, y.desc.box, y.at_, y.coins, y.where_, ())
 | .key, (y : Key) => (y.kind, y.id, ())
 | .write, (y : Write) => (y.kind, y.id, y.num, y.place.kind, y.place.id, ())
 | .cmd, (y : Cmd) => (y.kind, y.dir, y.item, y.box, y.who, y.gives, y.pay, y.wants, y.fee, ())
 | .reply, (y : Reply) => (y.err, y.kind, y.room, y.players, y.items, y.coins, ())
 | .sess, (s : Sess) => (s.player, s.lines, s.next, s.phase, s.step, s.cmd.kind, s.cmd.dir, s.cmd.item, s.cmd.box, s.cmd.who, s.cmd.gives, s.cmd.pay, s.cmd.wants, s.cmd.fee, s.foot, s.has, s.plan,
   s.reply.err, s.reply.kind, s.reply.room, s.reply.players, s.reply.items, s.reply.coins, s.stale, s.tries, s.ver, s.room, s.copies, s.heads, s.purse, ())
 | .call, (c : Sx.Call) => (c.player, c.cmd.kind, c.cmd.dir, c.cmd.item, c.cmd.box, c.cmd.who, c.cmd.gives, c.cmd.pay, c.cmd.wants, c.cmd.fee, c.frm, c.to, c.reply.err, c.reply.kind, c.reply.room, c.reply.players, c.reply.items, c.reply.coins, ())
 | .script, (y : Script) => (y.player, y.lines, ())
theorem SN.cells_mk (s : SN) (x : Lf s.kds) : s.cells (s.mk x) = cellsL s.kds x := by cases s <;> rfl
theorem SN.flds_mk (s : SN) (x : Lf s.kds) : s.flds (s.mk x) = x := by cases s <;> rfl
def Kd.kdl : Kd → List Kd
 | .st s => s.kds
 | k => [k]
def Kd.mk : (k : Kd) → Lf k.kdl → k.T
 | .st s, x => s.mk x
 | .int _, x => x.1
 | .bool, x => x.1
 | .str, x => x.1
 | .sl _, x => x.1
def Kd.flds : (k : Kd) → k.T → Lf k.kdl
 | .st s, y => s.flds y
 | .int _, y => (y, ())
 | .bool, y => (y, ())
 | .str, y => (y, ())
 | .sl _, y => (y, ())
theorem Kd.cells_mk (k : Kd) (x : Lf k.kdl) : k.cells (k.mk x) = cellsL k.kdl x := by
 cases k with
 | st s => exact SN.cells_mk s x
 | _ => rfl
theorem Kd.flds_mk (k : Kd) (x : Lf k.kdl) : k.flds (k.mk x) = x := by
 cases k with
 | st s => exact SN.flds_mk s x
 | _ => rfl
def wfL (p : (k : Kd) → k.T → Prop) : (ks : List Kd) → Lf ks → Prop
 | [], _ => True
 | k :: r, x => p k x.1 ∧ wfL p r x.2
def wf : Nat → (k : Kd) → k.T → Prop
 | 0, _, _ => True
 | _ + 1, .int k, n => k.min ≤ n ∧ n ≤ k.max
 | _ + 1, .str, s => s.length ≤ reachBytes
 | n + 1, .sl e, l => l.length * e.bytes ≤ reachBytes ∧ ∀ y ∈ l, wfL (wf n) e.kdl (e.flds y)
 | _ + 1, _, _ => True
def lf (P : Program) : Nat → TypeId → List Kd → Option (List Kd)
 | 0, _, _ => none
 | n + 1, t, ks => match P.underlying t with
   | some (.struct fs) => match fs.toList.foldlM (fun (st : Nat × List Kd) f => bif Nat.beq f.offset st.1 then (lf P n f.type st.2).map (fun r => (st.1 + P.cellsOf f.type, r)) else none) (0, ks) with
     | some st => bif Nat.beq st.1 (P.cellsOf t) then some st.2 else none
     | none => none
   | some (.array m e) => bif Nat.beq (P.cellsOf t) (m * P.cellsOf e) then (List.range m).foldlM (fun r _ => lf P n e r) ks else none
   | some (.int k) => match ks with
     | .int k' :: r => bif decide (k' = k) then some r else none
     | _ => none
   | some .bool => match ks with
     | .bool :: r => some r
     | _ => none
   | some .string => match ks with
     | .str :: r => some r
     | _ => none
   | some (.slice et) => match ks with
     | .sl e :: r => bif Nat.beq (P.cellsOf et) e.size && Nat.beq (P.bytesOf et) e.bytes && (match lf P n et e.kdl with | some [] => true | _ => false) then some r else none
     | _ => none
   | _ => none
variable {P : Program} {H : Type} {enc : TypeId × Value → H} {w : GW} {spare : Nat → Bool} {held : Bool}
def Lf.app : (ks : List Kd) → {ls : List Kd} → Lf ks → Lf ls → Lf (ks ++ ls)
 | [], _, _, y => y
 | _ :: r, _, x, y => (x.1, Lf.app r x.2 y)
theorem JK : ∀ (ks : List Kd) {ls : List Kd} (x : Lf ks) (y : Lf ls), cellsL (ks ++ ls) (Lf.app ks x y) = cellsL ks x ++ cellsL ls y
 | [], _, _, _ => rfl
 | k :: r, ls, x, y => by
   show k.of x.1 :: cellsL (r ++ ls) (Lf.app r x.2 y) = _
   rw [JK r x.2 y]; rfl
theorem YW {p : (k : Kd) → k.T → Prop} : ∀ (ks : List Kd) {ls : List Kd} (x : Lf ks) (y : Lf ls), wfL p ks x → wfL p ls y → wfL p (ks ++ ls) (Lf.app ks x y)
 | [], _, _, _, _, h => h
 | _ :: r, _, x, y, h1, h2 => ⟨h1.1, YW r x.2 y h1.2 h2⟩
def There (w : GW) : Nat → Prop := fun c => c < w.heap.size
theorem LR.nil {R : AV → Value → Prop} : LR R [] [] := ⟨rfl, fun i h => by simp at h⟩
theorem LR.one {R : AV → Value → Prop} {v : AV} {x : Value} (h : R v x) (ho : x.oneCell' = true) : LR R [v] [x] :=
 ⟨rfl, fun i h1 h2 => by have : i = 0 := by simp at h1; exact h1
                         subst this; exact ⟨ho, h⟩⟩
end Go.Sx
