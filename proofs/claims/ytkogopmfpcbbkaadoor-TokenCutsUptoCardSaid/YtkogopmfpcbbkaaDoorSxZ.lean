/-
  SX, part Z: all operations that write.
-/
import Derived.Test.YtkogopmfpcbbkaaDoorSxY
set_option linter.unusedVariables false
set_option linter.unusedSimpArgs false
namespace Go.Sx
open Go
open Go.RowKit (Below)
variable {P : Program} {E : Env} {base : Nat} {w0 : GW} {ok : Nat → Prop} {en : Ent} {G G' : Gam} {s : St} {a : Act} {w w' : GW} {R : Type} {M : Mem}

theorem fit2 {α β : Type} {l : List α} {l2 : List β} {b : Nat} {c : Int} (h : ilt (imul (iadd (ilen l) (ilen l2)) b) c = true) : ((l.length : Int) + (l2.length : Int)) * (b : Int) < c := by
  have h1 : (ilen l + ilen l2) * (b : Int) < c := of_decide_eq_true h
  rw [ilen_eq, ilen_eq] at h1
  exact h1
theorem fit1 {β : Type} {l2 : List β} {b : Nat} {c : Int} (h : ilt (imul (ilen l2) b) c = true) : (l2.length : Int) * (b : Int) < c := by
  have h1 : ilen l2 * (b : Int) < c := of_decide_eq_true h
  rw [ilen_eq] at h1
  exact h1
theorem fit0 {β : Type} {l2 : List β} (h : ilt 0 (ilen l2) = true) : 0 < l2.length := by
  have h1 : (0 : Int) < ilen l2 := of_decide_eq_true h
  rw [ilen_eq] at h1
  omega
theorem run_copy {t u ty e : TypeId} {i : TypeInfo} (ht : P.underlying t = some (.slice e)) (hi : P.info? e = some i) {c len cap n m : Nat} {x : Value} {cs : List Value} (hlen : (Builtin.lenOf x).run P w = .ok n w) (hm : Nat.min n len = m) (hfirst : (Builtin.firstCells i.size m x).run P w = .ok cs.toArray w)
    {vs : Array Value} {bt : TypeId} (hb : w.heap[c]? = some (.cells vs bt (0, 0))) (hfit : cs.length ≤ vs.size) (h1 : ∀ v ∈ cs, v.oneCell' = true) :
    (Builtin.copy_ #[t, u] ty #[.slice (some (blkA c)) len cap, x]).run P w = .ok (goInt m) (w.setRow c (cs ++ vs.toList.drop cs.length).toArray) := by
  have hst := run_storeCells_at P c 0 bt cs 0 vs w hb (by simpa using hfit) h1
  simp only [Nat.zero_add, List.take_zero, List.nil_append] at hst
  simp [Builtin.copy_, run_underlying ht, sizeOf, typeInfo, hi, hlen, hm, hfirst, blkA, hst]
theorem run_copy_none {t u ty e : TypeId} {i : TypeInfo} (ht : P.underlying t = some (.slice e)) (hi : P.info? e = some i) {len cap n m : Nat} {x : Value} {cs : List Value} (hlen : (Builtin.lenOf x).run P w = .ok n w) (hm : Nat.min n len = m) (hfirst : (Builtin.firstCells i.size m x).run P w = .ok cs.toArray w) :
    (Builtin.copy_ #[t, u] ty #[.slice none len cap, x]).run P w = .ok (goInt m) w := by
  simp [Builtin.copy_, run_underlying ht, sizeOf, typeInfo, hi, hlen, hm, hfirst]

theorem copy_sound (hE : EnvOK P E) (h : Rel E base w0 ok en G s a w) {t u ty : TypeId} {it ei : TyI} {et : TypeId} (ht : E.t t = some it) (hsh : it.sh = .sl et) (hei : E.t et = some ei) {kd : Kd} (hkd : ei.kd = some kd)
    {b : Nat} {l l2 : List kd.T} {v x : Value} {y : AV} (hv : VR G.D G.σ w (.vec b) v) (hb : s.M[b]? = some (.vec kd l)) (hx : VR G.D G.σ w y x) (hl2 : listOf s.M kd y = some l2) :
    ∃ w', (Builtin.copy_ #[t, u] ty #[v, x]).run P w = .ok (.int .i64 (imin (ilen l2) (ilen l))) w' ∧ Rel E base w0 ok en G { s with M := s.M.set b (.vec kd (lapp (ltake l2 (ilen l)) (ldrop l (ilen l2)))) } a w' := by
  obtain ⟨d, hd, hs, _⟩ := (hE.ty t it ht).und
  rw [hsh] at hs
  rw [shOK_sl hs] at hd
  obtain ⟨n, z, hn1, hn2, hn3, hn4, _, _, h5⟩ := (hE.ty et ei hei).info
  have hks := (h5 kd hkd).1
  have hnk : n.size = kd.size := by omega
  obtain ⟨news, hsrc⟩ := listOf_src (P := P) h.mem hx hl2
  obtain ⟨A, len, cap, sz, hσ, rfl⟩ := hv.vec_inv
  obtain ⟨A', cap', e1, e2, e3, e4⟩ := h.mem.blocks b _ hb
  rw [hσ] at e1
  cases e1
  have hmin : goInt (Nat.min l2.length l.length) = .int .i64 (imin (ilen l2) (ilen l)) := by
    simp only [ilen_eq]; unfold goInt imin
    congr 1
    have : Nat.min l2.length l.length = if l.length < l2.length then l.length else l2.length := by
      show min l2.length l.length = _
      split <;> omega
    rw [this]
    split
    · rename_i h; rw [if_pos (by omega)]
    · rename_i h; rw [if_neg (by omega)]
  have hle : Nat.min l2.length l.length ≤ l2.length := Nat.min_le_left _ _
  have hle' : Nat.min l2.length l.length ≤ l.length := Nat.min_le_right _ _
  have hmm : Nat.min l2.length l.length = l2.length ∨ Nat.min l2.length l.length = l.length := by
    show min l2.length l.length = l2.length ∨ min l2.length l.length = l.length
    omega
  have hfirst := hsrc.first _ hle w rfl
  rw [← hnk] at hfirst
  cases A with
  | none =>
    obtain ⟨rfl, rfl⟩ := e3 rfl
    refine ⟨w, ?_, ?_⟩
    · have := run_copy_none (u := u) (ty := ty) hd hn1 (len := 0) (cap := 0) (hsrc.len w) rfl hfirst
      exact this.trans (by rw [← hmin]; rfl)
    · have e : s.M.set b (.vec kd (lapp (ltake l2 (ilen ([] : List kd.T))) (ldrop ([] : List kd.T) (ilen l2)))) = s.M := by
        apply List.ext_getElem?
        intro q
        rw [List.getElem?_set]
        by_cases hq : b = q
        · subst hq
          have := (List.getElem?_eq_some_iff.1 hb).1
          have e0 : lapp (ltake l2 (ilen ([] : List kd.T))) (ldrop ([] : List kd.T) (ilen l2)) = [] := by simp [lapp, ltake, ldrop, ilen_eq]
          rw [e0, if_pos rfl, if_pos this, hb]
        · simp [hq]
      rw [e]; exact h
  | some c =>
    obtain ⟨vs, bt, e5, e6, e7, e8⟩ := e4 c rfl
    generalize hm : Nat.min l2.length l.length = m at hmin hle hle' hmm hfirst
    have hcl : (news.take (m * n.size)).length = m * kd.size := by
      have h1 : m * kd.size ≤ l2.length * kd.size := Nat.mul_le_mul_right _ hle
      rw [List.length_take, hsrc.size, hnk, Nat.min_eq_left h1]
    have hfit : (news.take (m * n.size)).length ≤ vs.size := by
      rw [hcl, e6]; exact Nat.mul_le_mul_right _ (by omega)
    have hone : ∀ v ∈ news.take (m * n.size), v.oneCell' = true := fun v hv => hsrc.one v (List.mem_of_mem_take hv)
    have hrun := run_copy (u := u) (ty := ty) (len := l.length) (cap := cap) hd hn1 (hsrc.len w) hm hfirst e5 hfit hone
    rw [hmin] at hrun
    refine ⟨_, hrun, ?_⟩
    · rw [hcl]
      generalize hrow : (news.take (m * n.size) ++ vs.toList.drop (m * kd.size)).toArray = row
      obtain ⟨g1, g2, g3⟩ := setRow_frame w c row
      have hmut : mutC (G.σ b) (.vec kd l) = some c := by rw [hσ]; rfl
      have hD : ∀ k, G.D k → G.D k ∧ (w.setRow c row).heap[k]? = w.heap[k]? := fun k hk => ⟨hk, g1 k fun e => (h.mem.own b _ c hb hmut).2.2 (e ▸ hk)⟩
      have hlist : lapp (ltake l2 (ilen l)) (ldrop l (ilen l2)) = l2.take m ++ l.drop m := by
        simp only [ilen_eq]; unfold lapp ltake ldrop
        simp only [Int.toNat_natCast]
        rcases hmm with e | e
        · rw [e, List.take_of_length_le (by omega), List.take_of_length_le (by omega)]
        · rw [e, List.drop_of_length_le (by omega), List.drop_of_length_le (by omega)]
      rw [hlist]
      have hll : (l2.take m ++ l.drop m).length = l.length := by simp; omega
      refine h.write hb hmut g1 g2 g3 ⟨some c, cap, by rw [hll]; exact hσ, by rw [hll]; exact e2, by simp, fun c' hc' => ?_⟩ (by intro c' h'; rw [hσ] at h'; cases h'; rfl)
      cases hc'
      refine ⟨row, bt, setRow_heap w c vs _ bt _ e5, ?_, ?_, fun i hi j hj => ?_⟩
      · rw [← hrow]
        simp only [List.size_toArray, List.length_append, List.length_drop, Array.length_toList, hcl, e6]
        have : m * kd.size ≤ cap * kd.size := Nat.mul_le_mul_right _ (by omega)
        omega
      · intro v hv
        rw [← hrow] at hv
        simp only [List.mem_append] at hv
        rcases hv with hv | hv
        · exact hone v hv
        · exact e7 v (List.mem_of_mem_drop hv)
      · refine DR.mono hD ?_
        have hj' : j < kd.size := cells_get hi hj
        have e0 : row.getD (i * kd.size + j) undef = (news.take (m * n.size) ++ vs.toList.drop (m * kd.size)).getD (i * kd.size + j) undef := by rw [← hrow]; simp
        rw [e0, app_getD, hcl]
        by_cases him : i < m
        · have hlt : i * kd.size + j < m * kd.size := by
            have : (i + 1) * kd.size ≤ m * kd.size := Nat.mul_le_mul_right _ (by omega)
            rw [Nat.add_mul] at this; omega
          rw [if_pos hlt]
          have e : (l2.take m ++ l.drop m)[i] = l2[i]'(by omega) := by
            rw [List.getElem_append_left (by simp; omega), List.getElem_take]
          have := hsrc.get i (by omega) j (by rw [Kd.cells_length]; exact hj')
          simp only [e]
          rw [List.getD_eq_getElem?_getD, List.getElem?_take, hnk, if_pos hlt, ← List.getD_eq_getElem?_getD]
          exact this
        · have hge : m * kd.size ≤ i * kd.size := Nat.mul_le_mul_right _ (by omega)
          rw [if_neg (by omega)]
          have hi' : i < l.length := by rw [hll] at hi; exact hi
          have e : (l2.take m ++ l.drop m)[i] = l[i] := by
            rw [List.getElem_append_right (by simp; omega), List.getElem_drop]
            congr 1
            simp
            omega
          have := e8 i hi' j (by rw [Kd.cells_length]; exact hj')
          simp only [e]
          rw [List.getD_eq_getElem?_getD, List.getElem?_drop, show m * kd.size + (i * kd.size + j - m * kd.size) = i * kd.size + j by omega]
          simpa using this

/-- What an operation that writes comes to. -/
def Wild (P : Program) (E : Env) (base : Nat) (w0 : GW) (ok : Nat → Prop) (en : Ent) (o : Oper) (a : Act) (k : St → Option R) (r : R) (res : Result Next) : Prop :=
  ∃ nx w' x G' s', res = .ok nx w' ∧ ((nx = .skip ∧ x = undef) ∨ nx = .value x) ∧ k s' = some r ∧ Rel E base w0 ok en G' s' (a.put o.dst x) w'

theorem wild_u {o : Oper} {k : St → Option R} {r : R} {m : Sem Unit} {s' : St} (hrun : m.run P w = .ok () w') (hk : k (s'.put o.dst .junk) = some r) (h : Rel E base w0 ok en G' s' a w') : Wild P E base w0 ok en o a k r ((do m; pure Next.skip : Sem Next).run P w) :=
  ⟨.skip, w', undef, G', _, by simp only [Sem.run_bind, hrun, Result.andThen_ok, Sem.run_pure], .inl ⟨rfl, rfl⟩, hk, h.put (.junk _) _⟩
theorem wild_v {o : Oper} {k : St → Option R} {r : R} {m : Sem Value} {x : Value} {v : AV} {s' : St} (hrun : m.run P w = .ok x w') (hk : k (s'.put o.dst v) = some r) (h : Rel E base w0 ok en G' s' a w') (hv : VR G'.D G'.σ w' v x) : Wild P E base w0 ok en o a k r ((do pure (.value (← m)) : Sem Next).run P w) :=
  ⟨.value x, w', x, G', _, by simp only [Sem.run_bind, hrun, Result.andThen_ok, Sem.run_pure], .inr rfl, hk, h.put hv _⟩

theorem mapU_sound (hE : EnvOK P E) (h : Rel E base w0 ok en G s a w) {o : Oper} {k : St → Option R} {r : R} {t : TypeId} {m x v : Operand}
    (hk : (match E.t t with
    | none => none
    | some i => match i.sh with
      | .map kt _ => match (E.t kt).map TyI.sh, evO s.T m, evO s.T x with
        | some (.int kk), .mref b, .int kk' n => bif decide (kk' = kk) then (match (frz s.M (evO s.T v))[b]? with
          | some (.map (.int kk1) kv l) => bif decide (kk1 = kk) then ((dataArg (frz s.M (evO s.T v)) (evO s.T v)).bind fun z => (z.as kv).bind fun z => k (({ s with M := (frz s.M (evO s.T v)).set b (.map (.int kk1) kv (mins l n z)) } : St).put o.dst .junk)) else none
          | some (.amap ks vs) => bif ks.all (newKey kk n) && oneA (evO s.T v) then k (({ s with M := (frz s.M (evO s.T v)).set b (.amap (ks ++ [.int kk n]) (vs ++ [evO s.T v])) } : St).put o.dst .junk) else none
          | _ => none) else none
        | _, _, _ => none
      | _ => none) = some r) : Wild P E base w0 ok en o a k r ((do Instr.mapUpdate t (a.eval m) (a.eval x) (a.eval v); pure Next.skip : Sem Next).run P w) := by
  split at hk
  · simp at hk
  · rename_i i hi
    obtain ⟨d, hd, hs, _⟩ := (hE.ty t i hi).und
    split at hk
    · rename_i kt et hsh
      rw [hsh] at hs
      rw [shOK_map hs] at hd
      split at hk
      · rename_i kk b kk' n hkt hm hx
        obtain ⟨ki, hki, hks⟩ := Option.map_eq_some_iff.1 hkt
        obtain ⟨d2, hd2, hs2, _⟩ := (hE.ty kt ki hki).und
        rw [hks] at hs2
        rw [shOK_int hs2] at hd2
        replace hk := bif_none hk
        obtain ⟨hc, hk⟩ := hk
        have hkk : kk' = kk := by simpa using hc
        subst hkk
        obtain ⟨G1, h1, hσ1⟩ := h.frz (evO s.T v)
        have hev := evO_sound (G := G1) (w := w) (a := a) h1.val
        have hmm := hev m
        have hxx := hev x
        have hvv := hev v
        simp only at hmm hxx hvv
        rw [hm] at hmm
        rw [hx] at hxx
        rw [hxx.int_inv]
        split at hk
        · rename_i kk1 kv l hb
          replace hk := bif_none hk
          obtain ⟨hc, hk⟩ := hk
          have hkk : kk1 = kk' := by simpa using hc
          subst hkk
          obtain ⟨z, hz, hk⟩ := Option.bind_eq_some_iff.1 hk
          obtain ⟨z', hz', hk⟩ := Option.bind_eq_some_iff.1 hk
          obtain ⟨w', g1, g2⟩ := map_typed hE h1 hd hd2 hmm hb (n := n) (AV.as_as hz' _ _ _ (dataArg_sound h1.mem hvv hz))
          exact wild_u g1 hk g2
        · rename_i ks vs hb
          replace hk := bif_none hk
          obtain ⟨hc, hk⟩ := hk
          simp only [Bool.and_eq_true] at hc
          obtain ⟨w', g1, g2⟩ := map_any hE h1 hd hd2 hmm hb (n := n) hvv hc.1
          exact wild_u g1 hk g2
        · simp at hk
      · simp at hk
    · simp at hk

theorem wildK_sound (hE : EnvOK P E) (h : Rel E base w0 ok en G s a w) {o : Oper} {k : St → Option R} {r : R} (hk : wildK E o s k = some r) : Wild P E base w0 ok en o a k r ((execOp a.eval o).run P w) := by
  have hev := evO_sound (G := G) (w := w) (a := a) h.val
  unfold wildK at hk
  split at hk
  · rename_i t ad x ho
    rw [show execOp a.eval o = (do Instr.storeAt t (a.eval ad) (a.eval x); pure .skip) by unfold execOp; rw [ho]]
    split at hk
    · simp at hk
    · rename_i i hi
      replace hk := bif_none hk
      obtain ⟨hf, hk⟩ := hk
      split at hk
      · rename_i b off had
        have hu := hev ad
        rw [had] at hu
        split at hk
        · rename_i cs hb
          obtain ⟨cs', hs, hk⟩ := Option.bind_eq_some_iff.1 hk
          obtain ⟨w', g1, g2⟩ := store_ptr hE h hi hu (hev x) hf hb hs
          exact wild_u g1 hk g2
        · simp at hk
      · rename_i b j off had
        obtain ⟨G1, h1, hσ1⟩ := h.frz (evO s.T x)
        have hev1 := evO_sound (G := G1) (w := w) (a := a) h1.val
        have hu := hev1 ad
        simp only at hu
        rw [had] at hu
        split at hk
        · rename_i e l hb
          obtain ⟨y, hy, hk⟩ := Option.bind_eq_some_iff.1 hk
          obtain ⟨v, hv, hk⟩ := Option.bind_eq_some_iff.1 hk
          obtain ⟨cs, hcs, hk⟩ := Option.bind_eq_some_iff.1 hk
          obtain ⟨y', hy', hk⟩ := Option.bind_eq_some_iff.1 hk
          obtain ⟨w', g1, g2⟩ := store_vref hE h1 hi hu (hev1 x) hf hb hy hv hcs hy'
          exact wild_u g1 hk g2
        · simp at hk
      · rename_i b off n j had
        have hu := hev ad
        rw [had] at hu
        split at hk
        · rename_i cs kk v hb hx
          replace hk := bif_none hk
          obtain ⟨hle, hk⟩ := hk
          obtain ⟨l, hl, hk⟩ := Option.bind_eq_some_iff.1 hk
          have hxx := hev x
          rw [hx] at hxx hf
          obtain ⟨w', g1, g2⟩ := store_pidx hE h hi hu hxx hf hb (Nat.le_of_ble_eq_true hle) hl
          exact wild_u g1 hk g2
        · simp at hk
      · simp at hk
  · rename_i t m x v ho
    rw [show execOp a.eval o = (do Instr.mapUpdate t (a.eval m) (a.eval x) (a.eval v); pure .skip) by unfold execOp; rw [ho]]
    exact mapU_sound hE h hk
  · rename_i t m x v ho
    rw [show execOp a.eval o = (do Instr.mapUpdate t (a.eval m) (a.eval x) (a.eval v); pure .skip) by unfold execOp; rw [ho]]
    exact mapU_sound hE h hk
  · rename_i c ho
    have hex : ∀ {b : Builtin} {f : Sem Value}, c.callee = .builtin b → (builtin b c.argTypes o.type (c.args.map fun | .const _ => true | _ => false) (c.args.map a.eval) = (do pure (.value (← f)))) → execOp a.eval o = (do pure (.value (← f))) := by
      intro b f hc hs
      unfold execOp
      rw [ho]
      simp only [resolve, hc, pure_bind, invoke]
      exact hs
    split at hk
    · rename_i hc
      split at hk
      · rename_i x y t u hxy htu
        have eA : c.args.map a.eval = #[a.eval x, a.eval y] := by apply Array.ext'; rw [Array.toList_map, hxy]; rfl
        have eT : c.argTypes = #[t, u] := by apply Array.ext'; rw [htu]
        rw [hex (f := Builtin.append_ #[t, u] o.type #[a.eval x, a.eval y]) hc (by rw [eA, eT]; rfl)]
        split at hk
        · rename_i et us ht hu
          obtain ⟨it, hit, hsh⟩ := Option.map_eq_some_iff.1 ht
          obtain ⟨iu, hiu, hsu⟩ := Option.map_eq_some_iff.1 hu
          split at hk
          · rename_i ei hei
            split at hk
            · rename_i kd hkd
              replace hk := bif_none hk
              obtain ⟨hc2, hk⟩ := hk
              simp only [Bool.and_eq_true] at hc2
              have hby : 0 < ei.bytes := Nat.le_of_ble_eq_true hc2.2
              have hsrc : srcSh iu.sh = true := by rw [hsu]; exact hc2.1
              split at hk
              · rename_i b hx
                have hxx := hev x
                rw [hx] at hxx
                split at hk
                · rename_i e' l hb
                  split at hk
                  · rename_i he
                    subst he
                    obtain ⟨l2, hl2, hk⟩ := Option.bind_eq_some_iff.1 hk
                    replace hk := cnd_none' hk
                    obtain ⟨hlk, hk⟩ := hk
                    replace hk := cnd_none hk
                    obtain ⟨hfit, hk⟩ := hk
                    obtain ⟨rr, w', sb, g1, g2, g3⟩ := append_vec (ty := o.type) hE h hit hsh hiu hsrc hei hkd hby hxx hb (hev y) hl2 hlk (fit2 hfit)
                    exact wild_v g1 hk g2 g3
                  · simp at hk
                · simp at hk
              · rename_i e' l hx
                have hxx := hev x
                rw [hx] at hxx
                split at hk
                · rename_i he
                  subst he
                  obtain ⟨l2, hl2, hk⟩ := Option.bind_eq_some_iff.1 hk
                  replace hk := cnd_none hk
                  obtain ⟨hpos, hk⟩ := hk
                  replace hk := cnd_none hk
                  obtain ⟨hfit, hk⟩ := hk
                  obtain ⟨A, hA⟩ := hxx.slc_inv.slc_inv
                  rw [hA] at hxx ⊢
                  have hpos' : 0 < l2.length := fit0 hpos
                  obtain ⟨rr, w', G', g1, g2, g3⟩ := append_fresh (ty := o.type) (yb := .slc _ l) hE h hit hsh hiu hsrc hei hkd hby hxx (by simp [listOf, AV.asSl, castL]) (hev y) hl2 hpos' (fit2 hfit)
                  exact wild_v g1 hk g2 g3
                · simp at hk
              · rename_i b lo hi hx
                have hxx := hev x
                rw [hx] at hxx
                split at hk
                · rename_i e' l e2 l2 hb hy
                  have hyy := hev y
                  rw [hy] at hyy
                  split at hk
                  · rename_i he
                    obtain ⟨rfl, rfl⟩ := he
                    replace hk := cnd_none' hk
                    obtain ⟨hlk, hk⟩ := hk
                    replace hk := cnd_none hk
                    obtain ⟨hlo, hk⟩ := hk
                    obtain rfl : lo = 0 := by simpa [ieq] using hlo
                    replace hk := cnd_none hk
                    obtain ⟨hfit, hk⟩ := hk
                    obtain ⟨rr, w', G', g1, g2, g3⟩ := append_vsl (ty := o.type) hE h hit hsh hiu hsrc hei hkd hby hxx hb hyy hlk (fit2 hfit)
                    exact wild_v g1 hk g2 g3
                  · simp at hk
                · simp at hk
              · rename_i hx
                have hxx := hev x
                rw [hx] at hxx
                obtain ⟨l2, hl2, hk⟩ := Option.bind_eq_some_iff.1 hk
                replace hk := cnd_none hk
                obtain ⟨hfit, hk⟩ := hk
                rw [hxx.nilsl_inv]
                obtain ⟨rr, w', G', g1, g2, g3⟩ := append_nil (ty := o.type) hE h hit hsh hiu hsrc hei hkd hby (hev y) hl2 (fit1 hfit)
                exact wild_v g1 hk g2 g3
              · simp at hk
            · simp at hk
          · simp at hk
        · simp at hk
      · simp at hk
    · rename_i hc
      split at hk
      · rename_i x y t u hxy htu
        have eA : c.args.map a.eval = #[a.eval x, a.eval y] := by apply Array.ext'; rw [Array.toList_map, hxy]; rfl
        have eT : c.argTypes = #[t, u] := by apply Array.ext'; rw [htu]
        rw [hex (f := Builtin.copy_ #[t, u] o.type #[a.eval x, a.eval y]) hc (by rw [eA, eT]; rfl)]
        split at hk
        · rename_i et ht
          obtain ⟨it, hit, hsh⟩ := Option.map_eq_some_iff.1 ht
          split at hk
          · rename_i ei hei
            split at hk
            · rename_i kd b hkd hx
              have hxx := hev x
              rw [hx] at hxx
              split at hk
              · rename_i e' l hb
                split at hk
                · rename_i he
                  subst he
                  obtain ⟨l2, hl2, hk⟩ := Option.bind_eq_some_iff.1 hk
                  obtain ⟨w', g1, g2⟩ := copy_sound (u := u) (ty := o.type) hE h hit hsh hei hkd hxx hb (hev y) hl2
                  exact wild_v g1 hk g2 (.data _ _ (.int _ _))
                · simp at hk
              · simp at hk
            · simp at hk
          · simp at hk
        · simp at hk
      · simp at hk
    · simp at hk
  · simp at hk
end Go.Sx
