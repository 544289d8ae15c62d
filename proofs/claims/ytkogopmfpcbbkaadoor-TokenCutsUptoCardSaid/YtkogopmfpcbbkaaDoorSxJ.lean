/-
  SX, part J: lengths, conversions, maps, literals, new memory.
-/
import Derived.Test.YtkogopmfpcbbkaaDoorSxI
import Derived.Laws.BytesString
set_option linter.unusedVariables false
set_option linter.unusedSimpArgs false
namespace Go.Sx
open Go
open Go.RowKit (Below)
variable {P : Program} {E : Env} {base : Nat} {ok : Nat → Prop} {G : Gam} {w : GW} {M : Mem} {R : Type}

theorem capK_sound (hE : EnvOK P E) {t ty : TypeId} {av : AV} {x : Value} (hv : VR G.D G.σ w av x) {ats : Array TypeId} (h0 : ats[0]? = some t) {args : Array Value} (h1 : args[0]? = some x) {k : AV → Option R} {r : R} (h : capK E t av k = some r) :
    ∃ v y, k v = some r ∧ (Builtin.cap_ ats ty args).run P w = .ok y w ∧ VR G.D G.σ w v y := by
  unfold capK at h
  split at h
  · simp at h
  · rename_i i hi
    obtain ⟨d, hd, hs, _⟩ := (hE.ty t i hi).und
    generalize hsh : i.sh = s at h hs
    split at h
    · rw [shOK_sl hs] at hd
      have := hv.nilsl_inv
      subst this
      exact ⟨_, _, h, by simp [Builtin.cap_, h0, h1, run_underlying hd w, goInt], .data _ _ (.int _ 0)⟩
    · simp at h
theorem lenK_sound (hE : EnvOK P E) (hm : MemOK base ok G w M) {t ty : TypeId} {av : AV} {x : Value} (hv : VR G.D G.σ w av x) {ats : Array TypeId} (h0 : ats[0]? = some t) {args : Array Value} (h1 : args[0]? = some x) {k : AV → Option R} {r : R} (h : lenK E M t av k = some r) :
    ∃ v y, k v = some r ∧ (Builtin.len_ ats ty args).run P w = .ok y w ∧ VR G.D G.σ w v y := by
  unfold lenK at h
  split at h
  · simp at h
  · rename_i i hi
    obtain ⟨d, hd, hs, _⟩ := (hE.ty t i hi).und
    generalize hsh : i.sh = s at h hs
    have sl : ∀ {et : TypeId} {A : Option Addr} {n c : Nat}, s = .sl et → x = .slice A n c → (Builtin.len_ ats ty args).run P w = .ok (.int .i64 n) w := by
      intro et A n c hs' hx
      rw [hs'] at hs
      rw [shOK_sl hs] at hd
      simp [Builtin.len_, h0, h1, run_underlying hd w, hx, goInt]
    split at h
    · rename_i p
      rw [shOK_str hs] at hd
      rw [hv.str_inv] at h1
      rw [ilen_eq] at h
      exact ⟨_, _, h, by simp [Builtin.len_, h0, h1, run_underlying hd w, goInt, size_mk], .data _ _ (.int _ _)⟩
    · obtain ⟨A, cap, _, rfl⟩ := hv.sl_inv.sl_inv
      rw [ilen_eq] at h
      exact ⟨_, _, h, sl rfl rfl, .data _ _ (.int _ _)⟩
    · obtain ⟨A, rfl⟩ := hv.slc_inv.slc_inv
      rw [ilen_eq] at h
      exact ⟨_, _, h, sl rfl rfl, .data _ _ (.int _ _)⟩
    · have := hv.nilsl_inv
      subst this
      exact ⟨_, _, h, sl rfl rfl, .data _ _ (.int _ _)⟩
    · obtain ⟨c, cap, _, _, rfl⟩ := hv.csl_inv
      exact ⟨_, _, h, sl rfl rfl, .data _ _ (.int _ _)⟩
    · obtain ⟨A, len, cap, sz, hc, rfl⟩ := hv.vec_inv
      split at h
      · rename_i hb
        obtain ⟨rfl, _⟩ := vec_len hm (.inl hb) hc
        rw [ilen_eq] at h
        exact ⟨_, _, h, sl rfl rfl, .data _ _ (.int _ _)⟩
      · rename_i hb
        obtain ⟨rfl, _⟩ := vec_len hm (.inr hb) hc
        rw [ilen_eq] at h
        exact ⟨_, _, h, sl rfl rfl, .data _ _ (.int _ _)⟩
      · simp at h
    · rename_i b lo hi'
      obtain ⟨A, len, cap, sz, B, cap', hc, hl0, hlh, hhl, hB, hcc, rfl⟩ := hv.vsl_inv
      have e : ∀ {α : Type} (l : List α), len = l.length → ilen (ldrop (ltake l hi') lo) = ((hi' - lo).toNat : Int) := by
        intro α l hl
        simp only [ilen_eq, ldrop, ltake, List.length_drop, List.length_take]
        omega
      split at h
      · rename_i hb
        obtain ⟨h2, _⟩ := vec_len hm (.inl hb) hc
        rw [e _ h2] at h
        exact ⟨_, _, h, sl rfl rfl, .data _ _ (.int _ _)⟩
      · rename_i hb
        obtain ⟨h2, _⟩ := vec_len hm (.inr hb) hc
        rw [e _ h2] at h
        exact ⟨_, _, h, sl rfl rfl, .data _ _ (.int _ _)⟩
      · simp at h
    · rename_i b
      obtain ⟨c, hc, rfl⟩ := hv.mref_inv
      rw [shOK_map hs] at hd
      split at h
      · rename_i hb
        obtain ⟨c', es, clock, e1, e2, e3, _⟩ := hm.blocks b _ hb
        rw [hc] at e1; cases e1
        rw [ilen_eq] at h
        refine ⟨_, _, h, ?_, .data _ _ (.int _ _)⟩
        simp [Builtin.len_, h0, h1, run_underlying hd w, goInt, getObj, Sem.run, e2, e3]
      · simp at h
    · simp at h

theorem foldl_push (ns : List Int) : ∀ s : ByteArray, ns.foldl (fun r n => r.push (UInt8.ofNat n.toNat)) s = s ++ ⟨(ofU8s ns).toArray⟩ := by
  induction ns with
  | nil => intro s; apply ByteArray.ext; simp [ofU8s]
  | cons n r ih =>
    intro s
    rw [List.foldl_cons, ih]
    apply ByteArray.ext
    simp [ofU8s]

theorem convK_sound (hE : EnvOK P E) (hm : MemOK base ok G w M) {src dst : TypeId} {av : AV} {x : Value} (hv : VR G.D G.σ w av x) {k : AV → Option R} {r : R} (h : convK E M src dst av k = some r) :
    ∃ v y, k v = some r ∧ (convert src dst x).run P w = .ok y w ∧ VR G.D G.σ w v y := by
  unfold convK at h
  split at h
  · rename_i j i hj hi
    obtain ⟨d, hd, hs, _⟩ := (hE.ty dst i hi).und
    obtain ⟨d', hd', hs', _⟩ := (hE.ty src j hj).und
    generalize hsh : i.sh = s at h hs
    split at h
    · rw [hv.int_inv]
      rw [shOK_int hs] at hd
      exact ⟨_, _, h, by simp [convert, run_underlying hd w, run_underlying hd' w, Conv.intToInt], .data _ _ (.int _ _)⟩
    · rw [hv.str_inv]
      rw [shOK_str hs] at hd
      exact ⟨_, _, h, by simp [convert, run_underlying hd w, run_underlying hd' w], .data _ _ (.str _)⟩
    · rename_i b
      obtain ⟨A, len, cap, sz, hc, rfl⟩ := hv.vec_inv
      rw [shOK_str hs] at hd
      generalize hsh' : j.sh = s' at h hs'
      split at h
      · rename_i e
        rw [shOK_sl hs'] at hd'
        have go : ∀ {l : List Int}, E.t e = E.t e → (∃ q, E.t e = some q ∧ q.sh = .int .u8) → (M[b]? = some (Blk.vec (.int .u8) l) ∨ M[b]? = some (Blk.fvec (.int .u8) l)) → cnd (allU8 l) (k (.str (ofU8s l))) none = some r →
            ∃ v y, k v = some r ∧ (convert src dst (.slice (A.map blkA) len cap)).run P w = .ok y w ∧ VR G.D G.σ w v y := by
          intro l _ he hb h
          obtain ⟨q, hq, hq'⟩ := he
          obtain ⟨de, hde, hse, _⟩ := (hE.ty e q hq).und
          rw [hq'] at hse
          rw [shOK_int hse] at hde
          replace h := cnd_none h
          obtain ⟨_, h⟩ := h
          obtain ⟨hlen, hsz, _⟩ := vec_len hm hb hc
          refine ⟨_, .string ⟨(ofU8s l).toArray⟩, h, ?_, .data _ _ (.str _)⟩
          rw [run_convert_bytes_string w src dst e _ _ _ hd' hde hd]
          cases A with
          | none =>
            have hl : l = [] := by
              rcases hb with hb | hb
              · obtain ⟨A, cap'', e1, _, e3, _⟩ := hm.blocks b _ hb; rw [hc] at e1; cases e1; exact (e3 rfl).1
              · obtain ⟨A, cap'', e1, e2⟩ := hm.blocks b _ hb; rw [hc] at e1; cases e1
                cases l with
                | nil => rfl
                | cons q qs =>
                  generalize hx : Value.slice (Option.map blkA none) (q :: qs).length cap = xx at e2
                  cases e2 with
                  | sl _ _ A'' _ cv hcap hA hone hr =>
                    obtain ⟨a, ha', _⟩ := hA 0 (by simp)
                    subst ha'
                    injection hx with hx1
                    simp at hx1
            subst hl
            simp [Conv.bytesToString, ofU8s]
            rfl
          | some c =>
            obtain ⟨_, _, h3⟩ := At.of_vec hm hb hc
            have hcells : (loadCells (blkA c) len).run P w = .ok (l.map (Value.int .u8)).toArray w := by
              have := run_loadCells_list (P := P) w (blkA c) (l.map (Value.int .u8)) (fun q v hv => by
                rw [List.getElem?_map] at hv
                cases hq : l[q]? with
                | none => simp [hq] at hv
                | some n =>
                  obtain ⟨hlt, hn⟩ := List.getElem?_eq_some_iff.1 hq
                  simp [hq] at hv
                  obtain ⟨x, hx, _, hr⟩ := h3 q hlt 0 (by simp [Kd.cells])
                  rw [add_zero] at hx
                  simp only [Kd.cells, List.getElem_cons_zero] at hr
                  cases hr
                  rw [← hv, ← hn]
                  simpa [Kd.size] using hx)
              rw [hlen]
              simpa using this
            rw [Option.map_some, run_bytesToString w _ _ _ l hcells, foldl_push]
            congr 2
        revert h
        generalize hsho : (E.t e).map TyI.sh = o
        generalize hbo : M[b]? = o'
        intro h
        have he : ∀ {kk : IntKind}, o = some (Sh.int kk) → ∃ q, E.t e = some q ∧ q.sh = .int kk := by
          intro kk ho
          rw [ho] at hsho
          cases hq : E.t e with
          | none => simp [hq] at hsho
          | some q => simp [hq] at hsho; exact ⟨q, rfl, hsho⟩
        split at h
        · exact go rfl (he rfl) (.inl hbo) h
        · exact go rfl (he rfl) (.inr hbo) h
        · simp at h
      · simp at h
    · simp at h
  · simp at h
end Go.Sx
