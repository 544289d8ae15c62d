/-
  SX, part Q: all operations that write nothing.
-/
import Derived.Test.YtkogopmfpcbbkaaDoorSxO
set_option linter.unusedVariables false
set_option linter.unusedSimpArgs false
namespace Go.Sx
open Go
open Go.RowKit (Below)
variable {P : Program} {E : Env} {base : Nat} {ok : Nat → Prop} {G : Gam} {w : GW} {M : Mem} {R : Type} {slot : Nat}

theorem exec_v {s : Sem Value} {y : Value} {v : AV} (h : s.run P w = .ok y w) (hv : VR G.D G.σ w v y) : Calm P G w slot none v ((do pure (.value (← s)) : Sem Next).run P w) := by
  simp only [Sem.run_bind, h, Result.andThen_ok, Sem.run_pure]
  exact Calm.same hv

theorem map_get {ρ : Operand → Value} {ev : Operand → AV} (hev : ∀ x, VR G.D G.σ w (ev x) (ρ x)) (l : List Operand) : ∀ i (h : i < (l.map ev).length) (h' : i < (l.map ρ).length), VR G.D G.σ w (l.map ev)[i] (l.map ρ)[i] := by
  intro i h h'
  simp only [List.getElem_map]
  exact hev _
theorem app_get {a b : List AV} {c d : List Value} (hl : a.length = c.length) (h1 : ∀ i (h : i < a.length) (h' : i < c.length), VR G.D G.σ w a[i] c[i]) (h2 : ∀ i (h : i < b.length) (h' : i < d.length), VR G.D G.σ w b[i] d[i]) :
    ∀ i (h : i < (a ++ b).length) (h' : i < (c ++ d).length), VR G.D G.σ w (a ++ b)[i] (c ++ d)[i] := by
  intro i h h'
  by_cases hi : i < a.length
  · rw [List.getElem_append_left hi, List.getElem_append_left (by omega)]
    exact h1 i hi (by omega)
  · rw [List.getElem_append_right (by omega), List.getElem_append_right (by omega)]
    have := h2 (i - a.length) (by simp at h; omega) (by simp at h'; omega)
    simp only [hl] at this ⊢
    exact this
theorem opt_sound {ρ : Operand → Value} {ev : Operand → AV} (hev : ∀ x, VR G.D G.σ w (ev x) (ρ x)) (o : Option Operand) : (∀ v, mapOps o ev = some v → ∃ y, o.map ρ = some y ∧ VR G.D G.σ w v y) ∧ (mapOps o ev = none → o.map ρ = none) := by
  cases o with
  | none => exact ⟨fun v h => by simp [mapOps] at h, fun _ => rfl⟩
  | some x => exact ⟨fun v h => by simp [mapOps] at h; subst h; exact ⟨_, rfl, hev x⟩, fun h => by simp [mapOps] at h⟩

/-- A call of a function's value. -/
theorem call_value {ρ : Operand → Value} {ev : Operand → AV} (hev : ∀ x, VR G.D G.σ w (ev x) (ρ x)) {o : Oper} {c : Go.Call} {f : Operand} (ho : o.op = .call c) (hc : c.callee = .value f) {p : Nat × List AV} (hp : callFn (ev f) (c.args.toList.map ev) = some p) :
    ∃ xs : List Value, execOp ρ o = callFunc p.1 xs.toArray ∧ p.2.length = xs.length ∧ ∀ i (h : i < p.2.length) (h' : i < xs.length), VR G.D G.σ w p.2[i] xs[i] := by
  unfold callFn at hp
  split at hp
  · rename_i g first cap args hg
    cases hp
    have hf := hev f
    rw [hg] at hf
    obtain ⟨u, v, h1, h2, h3, h4, hx⟩ := hf.func_inv
    refine ⟨u ++ c.args.toList.map ρ ++ v, ?_, by simp [h1, h2], ?_⟩
    · unfold execOp
      rw [ho]
      simp only [resolve, hc, hx, Deferred.ofValue, pure_bind, invoke]
      congr 1
      apply Array.ext'
      simp
    · exact app_get (by simp [h1]) (app_get h1 h3 (map_get hev _)) h4
  · simp at hp

theorem bytes_get {s : Str} {j : Nat} {c : UInt8} (h : s[j]? = some c) : (⟨s.toArray⟩ : ByteArray)[j]? = some c := by
  obtain ⟨hlt, rfl⟩ := List.getElem?_eq_some_iff.1 h
  have h2 : j < (⟨s.toArray⟩ : ByteArray).size := by simpa [ByteArray.size] using hlt
  exact (getElem?_pos (⟨s.toArray⟩ : ByteArray) j h2).trans rfl
theorem two_args {ρ : Operand → Value} {ev : Operand → AV} (hev : ∀ x, VR G.D G.σ w (ev x) (ρ x)) {l : List Operand} {kx ky : IntKind} {x y : Int} (h : l.map ev = [.int kx x, .int ky y]) : ∃ a b, l = [a, b] ∧ ρ a = .int kx x ∧ ρ b = .int ky y := by
  match l, h with
  | [a, b], h =>
    simp only [List.map_cons, List.map_nil, List.cons.injEq, and_true] at h
    have h1 := hev a
    have h2 := hev b
    rw [h.1] at h1
    rw [h.2] at h2
    exact ⟨a, b, rfl, h1.int_inv, h2.int_inv⟩
  | [], h => simp at h
  | [_], h => simp at h
  | _ :: _ :: _ :: _, h => simp at h
theorem field_sound (hE : EnvOK P E) {t : TypeId} {d : TypeDesc} {s : Sh} {f : Nat} {p : Nat × TypeId} {fi : TyI} {cs : List AV} {v : AV} {x : Value} (hv : VR G.D G.σ w (.agg cs) x) (hd : P.underlying t = some d) (hs : shOK P d s = true) (hp : fieldOf s f = some p) (hfi : E.t p.2 = some fi) (h : partA fi cs p.1 = some v) :
    ∃ y, (Instr.field t x f).run P w = .ok y w ∧ VR G.D G.σ w v y := by
  unfold fieldOf at hp
  split at hp
  · rename_i fs
    obtain ⟨gs, rfl, hf⟩ := shOK_st hs
    obtain ⟨hl, hh⟩ := fsOK_spec hf
    obtain ⟨hlt, rfl⟩ := List.getElem?_eq_some_iff.1 hp
    obtain ⟨e1, e2, _⟩ := hh f (by omega) hlt
    have hlt' : f < gs.size := by have := hl; simp at this; omega
    have e1' : gs[f].offset = fs[f].1 := by simpa using e1
    have e2' : gs[f].type = fs[f].2 := by simpa using e2
    obtain ⟨vs, h1, h2, h3, rfl⟩ := hv.agg_inv
    unfold partA at h
    have ht := hE.ty _ fi hfi
    cases ha : fi.agg with
    | true =>
      rw [ha] at h
      simp only [cond_true] at h
      replace h := bif_none h
      obtain ⟨hb, h⟩ := h
      cases h
      have hle : fs[f].1 + fi.size ≤ cs.length := Nat.le_of_ble_eq_true hb
      refine ⟨.agg ((vs.drop fs[f].1).take fi.size).toArray, ?_, ?_⟩
      · unfold Instr.field
        simp only [Sem.run_bind, run_underlying hd w, Result.andThen_ok, Array.getElem?_eq_getElem hlt', e1', e2', asAgg, Sem.run_pure, part, run_isAgg ht w, ha, if_true, run_sizeOf' ht w]
        simp
      · refine .agg _ _ (by simp; omega) (fun v hv => h2 v (List.mem_of_mem_drop (List.mem_of_mem_take hv))) (fun i h4 h5 => ?_)
        simp only [List.getElem_take, List.getElem_drop]
        exact h3 _ (by simp at h4; omega) (by simp at h5; omega)
    | false =>
      rw [ha] at h
      simp only [cond_false] at h
      obtain ⟨hlt2, rfl⟩ := List.getElem?_eq_some_iff.1 h
      refine ⟨vs[fs[f].1]'(by omega), ?_, h3 _ hlt2 (by omega)⟩
      unfold Instr.field
      simp only [Sem.run_bind, run_underlying hd w, Result.andThen_ok, Array.getElem?_eq_getElem hlt', e1', e2', asAgg, Sem.run_pure, part, run_isAgg ht w, ha]
      have : fs[f].1 < vs.length := by omega
      simp [this]
  · simp at hp

theorem calm_sound (hE : EnvOK P E) (hm : MemOK base ok G w M) (hg : GOK E.glob base G.D w) (hbase : base ≤ w.heap.size) (hslot : G.σ slot = .none) {ev : Operand → AV} {ρ : Operand → Value} (hev : ∀ x, VR G.D G.σ w (ev x) (ρ x)) {o : Oper} {k : AV → Option Blk → Option R} {r : R} (h : calmK E ev M slot o k = some r) :
    ∃ v b, k v b = some r ∧ Calm P G w slot b v ((execOp ρ o).run P w) := by
  unfold calmK at h
  split at h
  · -- move
    rename_i x ho
    refine ⟨_, _, h, ?_⟩
    rw [show execOp ρ o = pure (.value (ρ x)) by unfold execOp; rw [ho], Sem.run_pure]
    exact Calm.same (hev x)
  · -- assign
    rename_i x ho
    rw [show execOp ρ o = pure (.value (ρ x)) by unfold execOp; rw [ho], Sem.run_pure]
    split at h
    · rename_i hx
      have hxx := hev x
      rw [hx] at hxx
      split at h
      · rename_i kd _
        refine ⟨_, _, h, ?_⟩
        rw [hxx.nilsl_inv]
        refine ⟨_, Step.nilvec hslot kd, ?_⟩
        exact VR.vec (σ := (G.up slot (.hdr none 0 0 kd.size)).σ) slot none 0 0 kd.size (Gam.up_self ..)
      · exact ⟨_, _, h, Calm.same hxx⟩
    · exact ⟨_, _, h, Calm.same (hev x)⟩
  · -- pick
    rename_i c a b ho
    split at h
    · rename_i t hc
      have hcc := hev c
      rw [hc] at hcc
      have hrun : (execOp ρ o).run P w = .ok (.value (if t then ρ a else ρ b)) w := by
        rw [show execOp ρ o = (do pure (.value (if ← asBool (ρ c) then ρ a else ρ b))) by unfold execOp; rw [ho], hcc.bool_inv]
        simp [asBool]
      rw [hrun]
      cases t with
      | true => exact ⟨_, _, h, Calm.same (hev a)⟩
      | false => exact ⟨_, _, h, Calm.same (hev b)⟩
    · simp at h
  · -- alloc
    rename_i t ho
    split at h
    · rename_i i hi
      refine ⟨_, _, h, ?_⟩
      rw [show execOp ρ o = (do pure (.value (← Instr.alloc t true (.tuple #[])))) by unfold execOp; rw [ho]]
      exact alloc_sound hE hslot hm.dlt hi
    · simp at h
  · -- box
    rename_i t x ho
    rw [show execOp ρ o = (do pure (.value (← Instr.box t (ρ x)))) by unfold execOp; rw [ho]]
    split at h
    · rename_i i hi
      have hx := hev x
      split at h
      · rename_i cs hcs
        rw [hcs] at hx
        replace h := bif_none h
        obtain ⟨_, h⟩ := h
        obtain ⟨vs, h1, h2, h3, h4⟩ := hx.agg_inv
        refine ⟨_, _, h, ?_⟩
        rw [h4]
        exact box_sound hslot hm.dlt (x := .agg vs.toArray) (cellsR_of h1 h2 h3)
      · simp at h
      · simp at h
      · simp at h
      · rename_i h1 h2 h3 h4
        replace h := bif_none h
        obtain ⟨_, h⟩ := h
        refine ⟨_, _, h, ?_⟩
        have ho := hx.one h1 h2 h3 h4
        refine box_sound hslot hm.dlt ?_
        rw [cells_one ho]
        exact cellsR_one hx ho
    · simp at h
  · -- build
    rename_i t parts ho
    rw [show execOp ρ o = (do pure (.value (← Instr.build t (parts.map fun (i, x) => (i, ρ x))))) by unfold execOp; rw [ho]]
    split at h
    · rename_i i hi
      split at h
      · rename_i fs hsh
        obtain ⟨cs, h1, h⟩ := Option.bind_eq_some_iff.1 h
        obtain ⟨y, h2, h3⟩ := build_struct_sound hE hev hi hsh h1
        exact ⟨_, _, h, exec_v h2 h3⟩
      · rename_i n e hsh
        split at h
        · rename_i ei hei
          obtain ⟨cs, h1, h⟩ := Option.bind_eq_some_iff.1 h
          obtain ⟨y, h2, h3⟩ := build_arr_sound hE hev hi hsh hei h1
          exact ⟨_, _, h, exec_v h2 h3⟩
        · simp at h
      · simp at h
    · simp at h
  · -- buildSlice
    rename_i t len parts ho
    rw [show execOp ρ o = (do pure (.value (← Instr.buildSlice t len (parts.map fun (i, x) => (i, ρ x))))) by unfold execOp; rw [ho]]
    split at h
    · rename_i i hi
      split at h
      · rename_i et hsh
        split at h
        · rename_i ei hei
          replace h := bif_none h
          obtain ⟨hc, h⟩ := h
          simp only [Bool.and_eq_true] at hc
          obtain ⟨⟨⟨⟨c1, c2⟩, c3⟩, c4⟩, c5⟩ := hc
          have hs := buildSlice_sound hE hm hslot hev hi hsh hei c1 (Nat.eq_of_beq_eq_true c2) (Nat.le_of_ble_eq_true c3) (Nat.le_of_ble_eq_true c4) c5
          split at h
          · rename_i kd hkd
            obtain ⟨vs, h1, h⟩ := Option.bind_eq_some_iff.1 h
            obtain ⟨l, h2, h⟩ := Option.bind_eq_some_iff.1 h
            exact ⟨_, _, h, hs.1 kd vs l hkd h1 h2⟩
          · exact ⟨_, _, h, hs.2⟩
        · simp at h
      · simp at h
    · simp at h
  · -- load
    rename_i t a ho
    rw [show execOp ρ o = (do pure (.value (← Instr.loadAt t (ρ a)))) by unfold execOp; rw [ho]]
    obtain ⟨v, y, h1, h2, h3⟩ := loadK_sound hE hm hg (hev a) h
    exact ⟨_, _, h1, exec_v h2 h3⟩
  · -- nilCheck
    rename_i x ho
    have hx := hev x
    split at h <;> try (simp at h; done)
    · rename_i b off hh
      rw [hh] at hx
      refine ⟨_, _, h, ?_⟩
      obtain ⟨c, _, e⟩ := hx.ptr_inv
      rw [show execOp ρ o = pure (.value (ρ x)) by unfold execOp; rw [ho]; simp only [e], Sem.run_pure]
      exact Calm.same hx
    · rename_i b off hh
      rw [hh] at hx
      refine ⟨_, _, h, ?_⟩
      obtain ⟨c, _, _, e⟩ := hx.dref_inv
      rw [show execOp ρ o = pure (.value (ρ x)) by unfold execOp; rw [ho]; simp only [e], Sem.run_pure]
      exact Calm.same hx
    · rename_i b j off hh
      rw [hh] at hx
      refine ⟨_, _, h, ?_⟩
      obtain ⟨c, _, _, _, _, _, _, e⟩ := hx.vref_inv
      rw [show execOp ρ o = pure (.value (ρ x)) by unfold execOp; rw [ho]; simp only [e], Sem.run_pure]
      exact Calm.same hx
    · rename_i g off hh
      rw [hh] at hx
      refine ⟨_, _, h, ?_⟩
      have e := hx.gp_inv
      rw [show execOp ρ o = pure (.value (ρ x)) by unfold execOp; rw [ho]; simp only [e], Sem.run_pure]
      exact Calm.same hx
    · rename_i f a c hh
      rw [hh] at hx
      refine ⟨_, _, h, ?_⟩
      obtain ⟨u, v, _, _, _, _, e⟩ := hx.func_inv
      rw [show execOp ρ o = pure (.value (ρ x)) by unfold execOp; rw [ho]; simp only [e], Sem.run_pure]
      exact Calm.same hx
  · -- binOp
    rename_i op t x y _ ho
    rw [show execOp ρ o = (do pure (.value (← (do eqGuard op t x y (ρ x) (ρ y); binOp op t (ρ x) (ρ y))))) by unfold execOp; rw [ho]]
    obtain ⟨v, z, h1, h2, h3⟩ := binK_sound hE (hev x) (hev y) h
    exact ⟨_, _, h1, exec_v h2 h3⟩
  · -- unOp
    rename_i op _ x ho
    rw [show execOp ρ o = (do pure (.value (← Op.unary op (ρ x)))) by unfold execOp; rw [ho]]
    have hx := hev x
    split at h
    · rename_i b hh
      rw [hh] at hx
      refine ⟨_, _, h, exec_v (y := .bool !b) (by rw [hx.bool_inv]; rfl) (.data _ _ (.bool _))⟩
    · rename_i kk n hh
      rw [hh] at hx
      refine ⟨_, _, h, exec_v (y := .int kk (kk.wrap (0 - n))) (by rw [hx.int_inv]; rfl) (.data _ _ (.int _ _))⟩
    · simp at h
  · -- convert
    rename_i src dst x ho
    rw [show execOp ρ o = (do pure (.value (← convert src dst (ρ x)))) by unfold execOp; rw [ho]]
    obtain ⟨v, z, h1, h2, h3⟩ := convK_sound hE hm (hev x) h
    exact ⟨_, _, h1, exec_v h2 h3⟩
  · -- makeFunc
    rename_i f first cap ho
    rw [show execOp ρ o = (do pure (.value (← Instr.makeFunc (.func f) (first.map ρ) (cap.map ρ)))) by unfold execOp; rw [ho]]
    refine ⟨_, _, h, exec_v (y := .func (.func f) (first.toList.map ρ).toArray (cap.toList.map ρ).toArray) ?_ ?_⟩
    · have e : ∀ a : Array Operand, a.map ρ = (a.toList.map ρ).toArray := fun a => by apply Array.ext'; simp
      rw [e, e]
      rfl
    · exact .func f _ _ _ _ (by simp) (by simp) (map_get hev _) (map_get hev _)
  · -- makeMap
    rename_i t ho
    rw [show execOp ρ o = (do pure (.value (← Instr.makeMap t none))) by unfold execOp; rw [ho]; rfl]
    have hrun : (Instr.makeMap t none).run P w = .ok (.map (some w.heap.size)) (w.alloc (.map #[] 0)) := by
      simp [Instr.makeMap, newObj, Sem.run]
    split at h
    · split at h
      · split at h
        · have fin : ∀ x, (BR G.D (G.up slot (.blk w.heap.size)).σ (w.alloc (.map #[] 0)) (.blk w.heap.size) x) → (∀ c, mutC (.blk w.heap.size) x = some c → c = w.heap.size) →
              Calm P G w slot (some x) (.mref slot) ((do pure (.value (← Instr.makeMap t none)) : Sem Next).run P w) := by
            intro x hbr hmu
            simp only [Sem.run_bind, hrun, Result.andThen_ok, Sem.run_pure]
            exact ⟨_, Step.lay hslot hm.dlt hbr hmu, VR.mref (σ := (G.up slot (.blk w.heap.size)).σ) slot w.heap.size (Gam.up_self ..)⟩
          split at h
          · exact ⟨_, _, h, fin _ ⟨w.heap.size, #[], 0, rfl, heap_alloc_self _ _, rfl, fun i h => by simp at h⟩ (fun c hc => by simp [mutC] at hc; exact hc.symm)⟩
          · exact ⟨_, _, h, fin _ ⟨w.heap.size, #[], 0, rfl, heap_alloc_self _ _, rfl, rfl, fun i h => by simp at h, fun i h => by simp at h⟩ (fun c hc => by simp [mutC] at hc; exact hc.symm)⟩
        · simp at h
      · simp at h
    · simp at h
  · -- makeSlice
    rename_i t l c ho
    rw [show execOp ρ o = (do pure (.value (← Instr.makeSlice t (ρ l) (ρ c)))) by unfold execOp; rw [ho]]
    split at h
    · rename_i i hi
      split at h
      · rename_i et hsh
        split at h
        · rename_i ei hei
          split at h
          · rename_i kd n m hkd hl hc
            have hll := hev l
            have hcc := hev c
            rw [hl] at hll
            rw [hc] at hcc
            replace h := bif_none h
            obtain ⟨c0, h⟩ := h
            replace h := cnd_none h
            obtain ⟨c1, h⟩ := h
            replace h := cnd_none h
            obtain ⟨c2, h⟩ := h
            replace h := cnd_none h
            obtain ⟨c3, h⟩ := h
            refine ⟨_, _, h, ?_⟩
            rw [hll.int_inv, hcc.int_inv]
            exact makeSlice_sound hE hm hslot hi hsh hei hkd (of_decide_eq_true c1) (of_decide_eq_true c2) (of_decide_eq_true c3) (Nat.le_of_ble_eq_true c0)
          · simp at h
        · simp at h
      · simp at h
    · simp at h
  · -- slice
    rename_i t x lo hi mx ho
    rw [show execOp ρ o = (do pure (.value (← Instr.sliceAt t (ρ x) (lo.map ρ) (hi.map ρ) (mx.map ρ)))) by unfold execOp; rw [ho]]
    obtain ⟨v, z, h1, h2, h3⟩ := sliceK_sound hE hm hg (hev x) (opt_sound hev lo) (opt_sound hev hi) (opt_sound hev mx) h
    exact ⟨_, _, h1, exec_v h2 h3⟩
  · -- fieldAddr
    rename_i t x f ho
    rw [show execOp ρ o = (do pure (.value (← Instr.fieldAt t (ρ x) f))) by unfold execOp; rw [ho]]
    obtain ⟨v, z, h1, h2, h3⟩ := fieldAddrK_sound hE (hev x) h
    exact ⟨_, _, h1, exec_v h2 h3⟩
  · -- field
    rename_i t x f ho
    rw [show execOp ρ o = (do pure (.value (← Instr.field t (ρ x) f))) by unfold execOp; rw [ho]]
    split at h
    · rename_i i hi
      obtain ⟨d, hd, hs, _⟩ := (hE.ty t i hi).und
      split at h
      · rename_i p cs hp hx
        split at h
        · rename_i fi hfi
          obtain ⟨v, h1, h⟩ := Option.bind_eq_some_iff.1 h
          have hxx := hev x
          rw [hx] at hxx
          obtain ⟨y, h2, h3⟩ := field_sound hE hxx hd hs hp hfi h1
          exact ⟨_, _, h, exec_v h2 h3⟩
        · simp at h
      · simp at h
    · simp at h
  · -- indexAddr
    rename_i t x ix ho
    rw [show execOp ρ o = (do pure (.value (← Instr.indexAt t (ρ x) (ρ ix)))) by unfold execOp; rw [ho]]
    obtain ⟨v, z, h1, h2, h3⟩ := idxK_sound hE hm (hev x) (hev ix) h
    exact ⟨_, _, h1, exec_v h2 h3⟩
  · -- index
    rename_i t x ix ho
    rw [show execOp ρ o = (do pure (.value (← Instr.index t (ρ x) (ρ ix)))) by unfold execOp; rw [ho]]
    split at h
    · rename_i i hi
      obtain ⟨d, hd, hs, _⟩ := (hE.ty t i hi).und
      split at h
      · rename_i s kj j hsh hx hix
        rw [hsh] at hs
        rw [shOK_str hs] at hd
        obtain ⟨c, h1, h⟩ := Option.bind_eq_some_iff.1 h
        have hxx := hev x
        have hii := hev ix
        rw [hx] at hxx
        rw [hix] at hii
        refine ⟨_, _, h, exec_v (y := .int .u8 (c.toNat : Int)) ?_ (.data _ _ (.int _ _))⟩
        rw [hxx.str_inv, hii.int_inv]
        unfold lget at h1
        split at h1
        · rename_i h0
          have h2 : (⟨s.toArray⟩ : ByteArray)[j.toNat]? = some c := by
            exact bytes_get h1
          simp [Instr.index, asIntOf, run_underlying hd, h0, h2]
        · simp at h1
      · simp at h
    · simp at h
  · -- lookup
    rename_i t m x okf ho
    rw [show execOp ρ o = (do pure (.value (← Instr.lookup t (ρ m) (ρ x) okf))) by unfold execOp; rw [ho]]
    obtain ⟨v, z, h1, h2, h3⟩ := lookupK_sound hE hm (hev m) (hev x) h
    exact ⟨_, _, h1, exec_v h2 h3⟩
  · -- extract
    rename_i t ix ho
    rw [show execOp ρ o = (do pure (.value (← Instr.extract (ρ t) ix))) by unfold execOp; rw [ho]]
    split at h
    · rename_i vs hvs
      split at h
      · rename_i v hv
        have ht := hev t
        rw [hvs] at ht
        obtain ⟨xs, h1, h2, h3⟩ := ht.tup_inv
        obtain ⟨hlt, rfl⟩ := List.getElem?_eq_some_iff.1 hv
        refine ⟨_, _, h, exec_v (y := xs[ix]'(by omega)) ?_ (h2 ix hlt (by omega))⟩
        rw [h3]
        simp [Instr.extract, show ix < xs.length by omega]
      · simp at h
    · simp at h
  · -- call
    rename_i c ho
    split at h
    · rename_i b hc
      have hex : ∀ {s : Sem Value}, (builtin b c.argTypes o.type (c.args.map fun | .const _ => true | _ => false) (c.args.map ρ) = (do pure (.value (← s)))) → execOp ρ o = (do pure (.value (← s))) := by
        intro s hs
        unfold execOp
        rw [ho]
        simp only [resolve, hc, pure_bind, invoke]
        exact hs
      split at h
      · split at h
        · rename_i x xs t ts hx ht
          have a0 : c.args[0]? = some x := by rw [← Array.getElem?_toList, hx]; rfl
          have a1 : c.argTypes[0]? = some t := by rw [← Array.getElem?_toList, ht]; rfl
          obtain ⟨v, z, h1, h2, h3⟩ := lenK_sound hE hm (ty := o.type) (hev x) a1 (args := c.args.map ρ) (by simp [a0]) h
          refine ⟨_, _, h1, ?_⟩
          rw [hex (s := Builtin.len_ c.argTypes o.type (c.args.map ρ)) rfl]
          exact exec_v h2 h3
        · simp at h
      · split at h
        · rename_i kx x ky y hxy
          obtain ⟨a0, a1, e0, e1, e2⟩ := two_args hev hxy
          refine ⟨_, _, h, ?_⟩
          rw [hex (s := Builtin.min_ c.argTypes o.type (c.args.map ρ)) rfl]
          refine exec_v (y := .int kx (if y < x then y else x)) ?_ (.data _ _ (.int _ _))
          unfold Builtin.min_
          rw [Array.toList_map, e0]
          simp [e1, e2, Builtin.min2]
        · simp at h
      · split at h
        · rename_i kx x ky y hxy
          obtain ⟨a0, a1, e0, e1, e2⟩ := two_args hev hxy
          refine ⟨_, _, h, ?_⟩
          rw [hex (s := Builtin.max_ c.argTypes o.type (c.args.map ρ)) rfl]
          refine exec_v (y := .int kx (if y > x then y else x)) ?_ (.data _ _ (.int _ _))
          unfold Builtin.max_
          rw [Array.toList_map, e0]
          simp [e1, e2, Builtin.max2]
        · simp at h
      · split at h
        · rename_i x xs t ts hx ht
          have a0 : c.args[0]? = some x := by rw [← Array.getElem?_toList, hx]; rfl
          have a1 : c.argTypes[0]? = some t := by rw [← Array.getElem?_toList, ht]; rfl
          obtain ⟨v, z, h1, h2, h3⟩ := capK_sound hE (ty := o.type) (hev x) a1 (args := c.args.map ρ) (by simp [a0]) h
          refine ⟨_, _, h1, ?_⟩
          rw [hex (s := Builtin.cap_ c.argTypes o.type (c.args.map ρ)) rfl]
          exact exec_v h2 h3
        · simp at h
      · simp at h
    · rename_i f hc
      split at h
      · rename_i p hp
        split at h
        · rename_i ct hct
          obtain ⟨vs, hvs, h⟩ := Option.bind_eq_some_iff.1 h
          obtain ⟨xs, e1, e2, e3⟩ := call_value hev ho hc hp
          obtain ⟨v, hk, hcalm⟩ := contract_sound hE hm hg hbase hct hvs e2 e3 h
          refine ⟨v, none, hk, ?_⟩
          rw [e1]
          exact hcalm
        · simp at h
      · simp at h
    · simp at h
  · simp at h
end Go.Sx
