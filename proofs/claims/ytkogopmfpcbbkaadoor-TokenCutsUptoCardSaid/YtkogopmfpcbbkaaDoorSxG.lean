/-
  SX, part G: what reading memory and making addresses come to.
-/
import Derived.Test.YtkogopmfpcbbkaaDoorSxF
set_option linter.unusedVariables false
set_option linter.unusedSimpArgs false
namespace Go.Sx
open Go
open Go.RowKit (Below)

theorem bif_some {α : Type} {b : Bool} {x y : Option α} {r : α} (h : (bif b then x else y) = some r) : (b = true ∧ x = some r) ∨ (b = false ∧ y = some r) := by
  cases b
  · exact .inr ⟨rfl, h⟩
  · exact .inl ⟨rfl, h⟩
theorem cnd_some {α : Type} {b : Bool} {x y : Option α} {r : α} (h : cnd b x y = some r) : (b = true ∧ x = some r) ∨ (b = false ∧ y = some r) := bif_some h
theorem bif_none {α : Type} {b : Bool} {x : Option α} {r : α} (h : (bif b then x else none) = some r) : b = true ∧ x = some r := by
  cases b
  · simp at h
  · exact ⟨rfl, h⟩
theorem cnd_none {α : Type} {b : Bool} {x : Option α} {r : α} (h : cnd b x none = some r) : b = true ∧ x = some r := bif_none h
theorem cnd_none' {α : Type} {b : Bool} {x : Option α} {r : α} (h : cnd b none x = some r) : b = false ∧ x = some r := by
  cases b
  · exact ⟨rfl, h⟩
  · simp [cnd] at h

variable {P : Program} {E : Env} {base : Nat} {ok : Nat → Prop} {G : Gam} {w : GW} {M : Mem} {R : Type}

theorem selInt_spec {k : IntKind} : ∀ {cs : List AV} {l : List Int}, selInt k cs = some l → cs.length = l.length ∧ ∀ i (h : i < cs.length) (h' : i < l.length), cs[i] = .int k l[i]
  | [], l, h => by simp [selInt] at h; subst h; exact ⟨rfl, fun i h => by simp at h⟩
  | v :: r, l, h => by
    simp only [selInt, Option.bind_eq_some_iff, Option.some.injEq] at h
    obtain ⟨n, hn, m, hm, rfl⟩ := h
    obtain ⟨hl, hr⟩ := selInt_spec hm
    refine ⟨by simp [hl], fun i h1 h2 => ?_⟩
    cases i with
    | zero =>
      unfold AV.asInt at hn
      split at hn
      · split at hn
        · rename_i hk; subst hk; cases hn; rfl
        · simp at hn
      · simp at hn
    | succ i => exact hr i (by simpa using h1) (by simpa using h2)

theorem intOfSh_spec {s : Sh} {k : IntKind} (h : intOfSh s = some k) : s = .int k := by cases s <;> simp [intOfSh] at h; exact congrArg _ h
theorem agg_int {t : TypeId} {i : TyI} {k : IntKind} (ht : TyFacts P t i) (h : i.sh = .int k) : i.agg = false := by
  obtain ⟨d, _, hs, ha⟩ := ht.und
  rw [h] at hs
  rw [← ha, shOK_int hs]; rfl

/-- One number out of a row of numbers, at an index that may be any. -/
theorem load_int {t : TypeId} {i : TyI} (ht : TyFacts P t i) {kk : IntKind} (hk : intOfSh i.sh = some kk) {a : Addr} {cs : List AV} (hat : At (VR G.D G.σ w) w a cs) {off n : Nat} {j : Int} (h0 : 0 ≤ j) (h1 : j < n) (hle : Nat.ble (off + n) cs.length = true)
    {l : List Int} (hl : selInt kk ((cs.drop off).take n) = some l) : (loadVar t (a.add (off + j.toNat))).run P w = .ok (.int kk (igetD l j)) w := by
  have hle := Nat.le_of_ble_eq_true hle
  obtain ⟨hlen, hget⟩ := selInt_spec hl
  have hlen' : l.length = n := by rw [← hlen]; simp; omega
  have hj : j.toNat < n := by omega
  obtain ⟨x, hx, _, hr⟩ := hat (off + j.toNat) (by omega)
  have hc : cs[off + j.toNat]'(by omega) = .int kk (igetD l j) := by
    have := hget j.toNat (by simp; omega) (by omega)
    simp only [List.getElem_take, List.getElem_drop] at this
    rw [this, igetD, List.getD_eq_getElem?_getD, List.getElem?_eq_getElem (by omega)]
    rfl
  rw [hc] at hr
  rw [hr.int_inv] at hx
  unfold loadVar
  rw [Sem.run_bind, run_isAgg ht w, agg_int ht (intOfSh_spec hk), Result.andThen_ok]
  simp [hx]

theorem sureAddr_some (a : Addr) : (Instr.sureAddr (.pointer (some a))).run P w = .ok a w := rfl

theorem loadK_sound (hE : EnvOK P E) (hm : MemOK base ok G w M) (hg : GOK E.glob base G.D w) {t : TypeId} {av : AV} {x : Value} (hv : VR G.D G.σ w av x) {k : AV → Option R} {r : R} (h : loadK E M t av k = some r) :
    ∃ v y, k v = some r ∧ (Instr.loadAt t x).run P w = .ok y w ∧ VR G.D G.σ w v y := by
  unfold loadK at h
  split at h
  · simp at h
  · rename_i i hi
    have ht := hE.ty t i hi
    have fin : ∀ {a : Addr} {cs : List AV} {off : Nat} {v : AV}, At (VR G.D G.σ w) w a cs → partA i cs off = some v → ∃ y, (Instr.loadAt t (.pointer (some (a.add off)))).run P w = .ok y w ∧ VR G.D G.σ w v y := by
      intro a cs off v hat hp
      obtain ⟨y, h1, h2, _⟩ := part_sound (P := P) VR.mkAgg ht hat hp
      exact ⟨y, by simp only [Instr.loadAt, Sem.run_bind, sureAddr_some, Result.andThen_ok, h1], h2⟩
    split at h
    · rename_i b off
      obtain ⟨c, hc, rfl⟩ := hv.ptr_inv
      split at h
      · rename_i cs hb
        obtain ⟨v, hp, hk⟩ := Option.bind_eq_some_iff.1 h
        obtain ⟨y, h1, h2⟩ := fin (At.of_blk hm hb hc) hp
        exact ⟨v, y, hk, h1, h2⟩
      · simp at h
    · obtain ⟨a, hD, hat, rfl⟩ := hv.dref_inv
      obtain ⟨v, hp, hk⟩ := Option.bind_eq_some_iff.1 h
      obtain ⟨y, h1, h2⟩ := fin (At.of_dr hat) hp
      exact ⟨v, y, hk, h1, h2⟩
    · rename_i b j off
      obtain ⟨c, len, cap, sz, hc, h0, hlen, rfl⟩ := hv.vref_inv
      have go : ∀ {e : Kd} {l : List e.T}, (M[b]? = some (.vec e l) ∨ M[b]? = some (.fvec e l)) → (obind (lget l j) fun x => (partA i (e.cells x) off).bind k) = some r →
          ∃ v y, k v = some r ∧ (Instr.loadAt t (.pointer (some ((blkA c).add (j.toNat * sz + off))))).run P w = .ok y w ∧ VR G.D G.σ w v y := by
        intro e l hb h
        obtain ⟨y, hy, h⟩ := Option.bind_eq_some_iff.1 h
        obtain ⟨v, hp, hk⟩ := Option.bind_eq_some_iff.1 h
        obtain ⟨h2, rfl, h3⟩ := At.of_vec hm hb hc
        simp only [lget, h0, if_true] at hy
        obtain ⟨hlt, rfl⟩ := List.getElem?_eq_some_iff.1 hy
        obtain ⟨z, h4, h5⟩ := fin (At.of_dr (h3 j.toNat hlt)) hp
        rw [add_add] at h4
        exact ⟨v, z, hk, h4, h5⟩
      split at h
      · rename_i e l hb; exact go (.inl hb) h
      · rename_i e l hb; exact go (.inr hb) h
      · simp at h
    · rename_i cs off n j
      obtain ⟨a, hD, hat, h0, h1, rfl⟩ := hv.didx_inv
      split at h
      · rename_i kk hk
        obtain ⟨hle, h⟩ := bif_none h
        obtain ⟨l, hl, hk'⟩ := Option.bind_eq_some_iff.1 h
        exact ⟨_, _, hk', by simp only [Instr.loadAt, Sem.run_bind, sureAddr_some, Result.andThen_ok, load_int ht hk (At.of_dr hat) h0 h1 hle hl], .data _ _ (.int _ _)⟩
      · simp at h
    · rename_i b off n j
      obtain ⟨c, hc, h0, h1, rfl⟩ := hv.pidx_inv
      split at h
      · rename_i kk cs hk hb
        obtain ⟨hle, h⟩ := bif_none h
        obtain ⟨l, hl, hk'⟩ := Option.bind_eq_some_iff.1 h
        exact ⟨_, _, hk', by simp only [Instr.loadAt, Sem.run_bind, sureAddr_some, Result.andThen_ok, load_int ht hk (At.of_blk hm hb hc) h0 h1 hle hl], .data _ _ (.int _ _)⟩
      · simp at h
    · rename_i g off
      rw [hv.gp_inv]
      obtain ⟨cs, hcs, h⟩ := Option.bind_eq_some_iff.1 h
      obtain ⟨v, hp, hk⟩ := Option.bind_eq_some_iff.1 h
      obtain ⟨_, _, hat, _⟩ := hg g cs hcs
      obtain ⟨y, h1, h2⟩ := fin (At.of_dr (σ := G.σ) (fun j hj => hat j hj)) hp
      exact ⟨v, y, hk, h1, h2⟩
    · simp at h

theorem esz_spec (hE : EnvOK P E) {e : TypeId} {k : Kd} (h : esz E e k = true) (w : GW) : (sizeOf e).run P w = .ok k.size w := by
  unfold esz at h
  split at h
  · rename_i i hi
    rw [run_sizeOf' (hE.ty e i hi) w, Nat.eq_of_beq_eq_true h]
  · simp at h

theorem run_fieldPlace {fs : List Field} {gs : List (Nat × TypeId)} (hf : fsOK P fs gs = true) {f : Nat} {p : Nat × TypeId} (hp : gs[f]? = some p) (a : Addr) (w : GW) : ∃ fld, fs[f]? = some fld ∧ fld.offset = p.1 ∧ fld.type = p.2 ∧ (fieldPlace a fld).run P w = .ok (a.add p.1) w := by
  obtain ⟨hl, hh⟩ := fsOK_spec hf
  obtain ⟨hlt, rfl⟩ := List.getElem?_eq_some_iff.1 hp
  obtain ⟨h1, h2, n, hn, hne⟩ := hh f (by omega) hlt
  refine ⟨fs[f]'(by omega), List.getElem?_eq_getElem _, h1, h2, ?_⟩
  unfold fieldPlace
  simp [sizeOf, typeInfo, hn, hne, h1]

theorem fieldOf_spec {s : Sh} {f : Nat} {p : Nat × TypeId} (h : fieldOf s f = some p) : ∃ gs, s = .st gs ∧ gs[f]? = some p := by
  cases s <;> simp [fieldOf] at h
  exact ⟨_, rfl, h⟩

theorem fieldAddrK_sound (hE : EnvOK P E) {t : TypeId} {f : Nat} {av : AV} {x : Value} (hv : VR G.D G.σ w av x) {k : AV → Option R} {r : R} (h : fieldAddrK E t av f k = some r) :
    ∃ v y, k v = some r ∧ (Instr.fieldAt t x f).run P w = .ok y w ∧ VR G.D G.σ w v y := by
  unfold fieldAddrK at h
  split at h
  · simp at h
  · rename_i i hi
    split at h
    · simp at h
    · rename_i p hp
      obtain ⟨gs, hgs, hp⟩ := fieldOf_spec hp
      obtain ⟨d, hd, hs, _⟩ := (hE.ty t i hi).und
      rw [hgs] at hs
      obtain ⟨fs, rfl, hf⟩ := shOK_st hs
      have fin : ∀ a : Addr, (Instr.fieldAt t (.pointer (some a)) f).run P w = .ok (.pointer (some (a.add p.1))) w := by
        intro a
        obtain ⟨fld, h1, _, _, h2⟩ := run_fieldPlace hf hp a w
        have h1' : fs[f]? = some fld := by simpa using h1
        simp only [Instr.fieldAt, Sem.run_bind, run_underlying hd w, Result.andThen_ok, h1', sureAddr_some, h2, Sem.run_pure]
      split at h
      · rename_i b off
        obtain ⟨c, hc, rfl⟩ := hv.ptr_inv
        exact ⟨_, _, h, fin _, by rw [add_add]; exact .ptr _ _ c hc⟩
      · obtain ⟨a, hD, hat, rfl⟩ := hv.dref_inv
        refine ⟨_, _, h, fin _, ?_⟩
        rw [add_add]
        exact .dref _ _ a (fun j => (w.cell? (a.add j)).getD undef) hD fun j hj => by obtain ⟨y, h1, h2, h3⟩ := hat j hj; simp [h1, h2, h3]
      · rename_i b j off
        obtain ⟨c, len, cap, sz, hc, h0, hlen, rfl⟩ := hv.vref_inv
        exact ⟨_, _, h, fin _, by rw [add_add, Nat.add_assoc]; exact .vref _ _ _ c len cap sz hc h0 hlen⟩
      · rw [hv.gp_inv]
        exact ⟨_, _, h, fin _, by rw [add_add]; exact .gp _ _⟩
      · simp at h

theorem run_asIntOf (k : IntKind) (n : Int) : (asIntOf (.int k n)).run P w = .ok (k, n) w := rfl

/-- An element of a slice whose element i lies where it should. -/
theorem run_indexAt_slice {t et : TypeId} {sz : Nat} (hd : P.underlying t = some (.slice et)) (hsz : ∀ w : GW, (sizeOf et).run P w = .ok sz w) {a : Addr} {len cap : Nat} {kx : IntKind} {j : Int} (h0 : 0 ≤ j) (h1 : j < len) :
    (Instr.indexAt t (.slice (some a) len cap) (.int kx j)).run P w = .ok (.pointer (some (a.add (j.toNat * sz)))) w := by
  have hj : 0 ≤ j ∧ j < (len : Int) := ⟨h0, h1⟩
  simp [Instr.indexAt, run_asIntOf, run_underlying hd w, hsz, hj]

theorem At.mkDref {a : Addr} {cs : List AV} (hD : G.D a.block) (h : At (DR G.D w) w a cs) (off : Nat) : VR G.D G.σ w (.dref cs off) (.pointer (some (a.add off))) :=
  .dref _ _ a (fun j => (w.cell? (a.add j)).getD undef) hD fun j hj => by obtain ⟨y, h1, h2, h3⟩ := h j hj; simp [h1, h2, h3]

theorem idxK_sound (hE : EnvOK P E) (hm : MemOK base ok G w M) {t : TypeId} {av ix : AV} {x y : Value} (hv : VR G.D G.σ w av x) (hy : VR G.D G.σ w ix y) {k : AV → Option R} {r : R} (h : idxK E M t av ix k = some r) :
    ∃ v z, k v = some r ∧ (Instr.indexAt t x y).run P w = .ok z w ∧ VR G.D G.σ w v z := by
  unfold idxK at h
  split at h
  · rename_i i kx j hi
    rw [hy.int_inv]
    obtain ⟨d, hd, hs, ha⟩ := (hE.ty t i hi).und
    -- slices of data
    have data : ∀ {et : TypeId} {e : Kd} {l : List e.T}, i.sh = .sl et → esz E et e = true → DR G.D w (.sl e l) x → (obind (lget l j) fun y => k (.dref (e.cells y) 0)) = some r →
        ∃ v z, k v = some r ∧ (Instr.indexAt t x (.int kx j)).run P w = .ok z w ∧ VR G.D G.σ w v z := by
      intro et e l hsh hez hdr h
      obtain ⟨y', hy', h⟩ := Option.bind_eq_some_iff.1 h
      rw [hsh] at hs
      rw [shOK_sl hs] at hd
      unfold lget at hy'
      split at hy'
      · rename_i h0
        obtain ⟨hlt, rfl⟩ := List.getElem?_eq_some_iff.1 hy'
        cases hdr with
        | sl _ _ A cap cv hcap hA hone hr =>
          obtain ⟨a, rfl, hD, hc⟩ := hA j.toNat hlt
          refine ⟨_, _, h, run_indexAt_slice hd (esz_spec hE hez) h0 (by omega), ?_⟩
          have hb : (a.add (j.toNat * e.size)).block = a.block := add_block _ _
          rw [show (a.add (j.toNat * e.size)) = (a.add (j.toNat * e.size)).add 0 from (add_zero _).symm]
          exact At.mkDref (by rw [hb]; exact hD) (fun q hq => ⟨cv j.toNat q, by rw [add_add]; exact hc q (cells_get hlt hq), hone _ _ hlt (cells_get hlt hq), hr _ hlt q hq⟩) 0
      · simp at hy'
    -- slices of the call's own
    have own : ∀ {et b : Nat} {e : Kd} {l : List e.T} {A : Option Nat} {len cap sz : Nat} {B : Option Addr} {cap' : Nat} {lo hi : Int}, i.sh = .sl et → esz E et e = true → (M[b]? = some (.vec e l) ∨ M[b]? = some (.fvec e l)) → G.σ b = .hdr A len cap sz →
        0 ≤ lo → lo ≤ hi → hi ≤ len → (lo < hi → B = A.map fun c => (blkA c).add (lo.toNat * sz)) → 0 ≤ j → j < hi - lo →
        ∃ z, (Instr.indexAt t (.slice B (hi - lo).toNat cap') (.int kx j)).run P w = .ok z w ∧ VR G.D G.σ w (.vref b (lo + j) 0) z := by
      intro et b e l A len cap sz B cap' lo hi hsh hez hb hc hl0 hlh hhl hB h0 h1
      rw [hsh] at hs
      rw [shOK_sl hs] at hd
      cases A with
      | none =>
        exfalso
        rcases hb with hb | hb
        · obtain ⟨A, cap'', e1, _, e3, _⟩ := hm.blocks b _ hb
          rw [hc] at e1
          cases e1
          have := (e3 rfl).1; subst this
          simp at hhl
          omega
        · obtain ⟨A, cap'', e1, e2⟩ := hm.blocks b _ hb
          rw [hc] at e1
          cases e1
          cases hl : l with
          | nil => subst hl; simp at hhl; omega
          | cons q qs =>
            subst hl
            generalize hx : Value.slice (Option.map blkA none) (q :: qs).length cap = xx at e2
            cases e2 with
            | sl _ _ A'' _ cv hcap hA hone hr =>
              obtain ⟨a, ha', _⟩ := hA 0 (by simp)
              subst ha'
              injection hx with hx1
              simp at hx1
      | some c =>
        obtain ⟨h2, rfl, h3⟩ := At.of_vec hm hb hc
        rw [hB (by omega)]
        refine ⟨_, run_indexAt_slice hd (esz_spec hE hez) h0 (by omega), ?_⟩
        rw [add_add, show lo.toNat * e.size + j.toNat * e.size = (lo + j).toNat * e.size + 0 by rw [← Nat.add_mul, Nat.add_zero, show lo.toNat + j.toNat = (lo + j).toNat by omega]]
        exact .vref b (lo + j) 0 c len cap e.size hc (by omega) (by omega)
    split at h
    · rename_i et e l hsh
      obtain ⟨hez, h⟩ := bif_none h
      exact data hsh hez hv.sl_inv h
    · rename_i et e l hsh
      obtain ⟨hez, h⟩ := bif_none h
      exact data hsh hez hv.slc_inv.slc_sl h
    · rename_i et b hsh
      obtain ⟨A, len, cap, sz, hc, rfl⟩ := hv.vec_inv
      have go : ∀ {e : Kd} {l : List e.T}, (M[b]? = some (.vec e l) ∨ M[b]? = some (.fvec e l)) → (bif esz E et e then cnd (ile 0 j) (cnd (ilt j (ilen l)) (k (.vref b j 0)) none) none else none) = some r →
          ∃ v z, k v = some r ∧ (Instr.indexAt t (.slice (A.map blkA) len cap) (.int kx j)).run P w = .ok z w ∧ VR G.D G.σ w v z := by
        intro e l hb h
        obtain ⟨hez, h⟩ := bif_none h
        obtain ⟨h0, h⟩ := cnd_none h
        obtain ⟨h1, h⟩ := cnd_none h
        have h0 : 0 ≤ j := by simpa [ile] using h0
        have h1 : j < l.length := by simpa [ilt, ilen_eq] using h1
        have hll : len = l.length := by
          rcases hb with hb | hb
          · obtain ⟨A, cap'', e1, _⟩ := hm.blocks b _ hb; rw [hc] at e1; cases e1; rfl
          · obtain ⟨A, cap'', e1, _⟩ := hm.blocks b _ hb; rw [hc] at e1; cases e1; rfl
        obtain ⟨z, hz, hz'⟩ := own (B := A.map blkA) (cap' := cap) (lo := 0) (hi := (len : Int)) hsh hez hb hc (by omega) (by omega) (by omega) (fun _ => by simp [add_zero]) h0 (by omega)
        simp only [Int.sub_zero, Int.toNat_natCast, Int.zero_add] at hz hz'
        exact ⟨_, z, h, hz, hz'⟩
      split at h
      · rename_i e l hb; exact go (.inl hb) h
      · rename_i e l hb; exact go (.inr hb) h
      · simp at h
    · rename_i et b lo hi' hsh
      obtain ⟨A, len, cap, sz, B, cap', hc, hl0, hlh, hhl, hB, hcc, rfl⟩ := hv.vsl_inv
      have go : ∀ {e : Kd} {l : List e.T}, (M[b]? = some (.vec e l) ∨ M[b]? = some (.fvec e l)) → (bif esz E et e then cnd (ile 0 j) (cnd (ilt j (ilen (ldrop (ltake l hi') lo))) (k (.vref b (iadd lo j) 0)) none) none else none) = some r →
          ∃ v z, k v = some r ∧ (Instr.indexAt t (.slice B (hi' - lo).toNat cap') (.int kx j)).run P w = .ok z w ∧ VR G.D G.σ w v z := by
        intro e l hb h
        obtain ⟨hez, h⟩ := bif_none h
        obtain ⟨h0, h⟩ := cnd_none h
        obtain ⟨h1, h⟩ := cnd_none h
        have h0 : 0 ≤ j := by simpa [ile] using h0
        have hll : len = l.length := by
          rcases hb with hb | hb
          · obtain ⟨A, cap'', e1, _⟩ := hm.blocks b _ hb; rw [hc] at e1; cases e1; rfl
          · obtain ⟨A, cap'', e1, _⟩ := hm.blocks b _ hb; rw [hc] at e1; cases e1; rfl
        have h1 : j < hi' - lo := by
          have := h1
          simp only [ilt, ilen_eq, ldrop, ltake, decide_eq_true_eq, List.length_drop, List.length_take] at this
          omega
        obtain ⟨z, hz, hz'⟩ := own (B := B) (cap' := cap') hsh hez hb hc hl0 hlh hhl hB h0 h1
        exact ⟨_, z, h, hz, hz'⟩
      split at h
      · rename_i e l hb; exact go (.inl hb) h
      · rename_i e l hb; exact go (.inr hb) h
      · simp at h
    · rename_i et b off len hsh
      obtain ⟨c, cap, hc, hcap, rfl⟩ := hv.csl_inv
      rw [hsh] at hs
      rw [shOK_sl hs] at hd
      split at h
      · rename_i ei hei
        split at h
        · rename_i n
          obtain ⟨hlt, h⟩ := bif_none h
          have hlt : n < len := by simp [Nat.blt] at hlt; omega
          refine ⟨_, _, h, run_indexAt_slice hd (fun w => run_sizeOf' (hE.ty _ _ hei) w) (by simp) (by simpa using hlt), ?_⟩
          rw [add_add]
          exact .ptr _ _ c hc
        · simp at h
      · simp at h
    · rename_i n et b off hsh
      obtain ⟨c, hc, rfl⟩ := hv.ptr_inv
      rw [hsh] at hs
      rw [shOK_arr hs] at hd
      split at h
      · rename_i ei hei
        obtain ⟨h1', h⟩ := bif_none h
        obtain ⟨h0, h⟩ := cnd_none h
        obtain ⟨h1, h⟩ := cnd_none h
        have h0 : 0 ≤ j := by simpa [ile] using h0
        have h1 : j < n := by simpa [ilt] using h1
        have hsz : (sizeOf et).run P w = .ok 1 w := by rw [run_sizeOf' (hE.ty _ _ hei) w, Nat.eq_of_beq_eq_true h1']
        refine ⟨_, _, h, ?_, .pidx b off n j c hc h0 h1⟩
        have hj : 0 ≤ j ∧ j < (n : Int) := ⟨h0, h1⟩
        simp [Instr.indexAt, run_asIntOf, run_underlying hd w, hsz, hj, sureAddr_some, add_add]
      · simp at h
    · rename_i n et cs off hsh
      obtain ⟨a, hD, hat, rfl⟩ := hv.dref_inv
      rw [hsh] at hs
      rw [shOK_arr hs] at hd
      split at h
      · rename_i ei hei
        obtain ⟨h1', h⟩ := bif_none h
        obtain ⟨h0, h⟩ := cnd_none h
        obtain ⟨h1, h⟩ := cnd_none h
        have h0 : 0 ≤ j := by simpa [ile] using h0
        have h1 : j < n := by simpa [ilt] using h1
        have hsz : (sizeOf et).run P w = .ok 1 w := by rw [run_sizeOf' (hE.ty _ _ hei) w, Nat.eq_of_beq_eq_true h1']
        refine ⟨_, _, h, ?_, .didx cs off n j a (fun q => (w.cell? (a.add q)).getD undef) hD h0 h1 fun q hq => by obtain ⟨y, e1, e2, e3⟩ := hat q hq; simp [e1, e2, e3]⟩
        have hj : 0 ≤ j ∧ j < (n : Int) := ⟨h0, h1⟩
        simp [Instr.indexAt, run_asIntOf, run_underlying hd w, hsz, hj, sureAddr_some, add_add]
      · simp at h
    · simp at h
  · simp at h
end Go.Sx
