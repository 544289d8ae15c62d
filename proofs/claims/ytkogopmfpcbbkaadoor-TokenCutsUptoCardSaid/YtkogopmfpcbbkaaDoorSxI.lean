/-
  SX, part I: pieces of slices, lengths, conversions, maps, literals.
-/
import Derived.Test.YtkogopmfpcbbkaaDoorSxH
set_option linter.unusedVariables false
set_option linter.unusedSimpArgs false
namespace Go.Sx
open Go
open Go.RowKit (Below)
variable {P : Program} {E : Env} {base : Nat} {ok : Nat → Prop} {G : Gam} {w : GW} {M : Mem} {R : Type}

theorem sliceL_spec {α : Type} {l : List α} {lo hi : Option Int} {k : List α → Option R} {r : R} (h : sliceL l lo hi k = some r) :
    ∃ l', k l' = some r ∧ ∃ a b : Nat, a ≤ b ∧ b ≤ l.length ∧ l' = (l.take b).drop a ∧ (lo = none → a = 0) ∧ (∀ n, lo = some n → n = a) ∧ (hi = none → b = l.length) ∧ (∀ n, hi = some n → n = b) := by
  unfold sliceL at h
  split at h
  · exact ⟨_, h, 0, l.length, by omega, by omega, by simp, by simp, by simp, by simp, by simp⟩
  · rename_i a
    replace h := cnd_none h
    obtain ⟨h0, h⟩ := h
    replace h := cnd_none h
    obtain ⟨h1, h⟩ := h
    simp [ile, ilen_eq] at h0 h1
    exact ⟨_, h, a.toNat, l.length, by omega, by omega, by simp, by simp, by simp; omega, by simp, by simp⟩
  · rename_i b
    replace h := cnd_none h
    obtain ⟨h0, h⟩ := h
    replace h := cnd_none h
    obtain ⟨h1, h⟩ := h
    simp [ile, ilen_eq] at h0 h1
    exact ⟨_, h, 0, b.toNat, by omega, by omega, by simp, by simp, by simp, by simp, by simp; omega⟩
  · rename_i a b
    replace h := cnd_none h
    obtain ⟨h0, h⟩ := h
    replace h := cnd_none h
    obtain ⟨h1, h⟩ := h
    replace h := cnd_none h
    obtain ⟨h2, h⟩ := h
    simp [ile, ilen_eq] at h0 h1 h2
    exact ⟨_, h, a.toNat, b.toNat, by omega, by omega, rfl, by simp, by simp; omega, by simp, by simp; omega⟩

/-- An optional bound. -/
theorem optNat_spec {o : Option AV} {n : Option Int} (h : optNat o = some n) {x : Option Value} (hx : ∀ v, o = some v → ∃ y, x = some y ∧ VR G.D G.σ w v y) (hn : o = none → x = none) :
    (n = none ∧ x = none) ∨ ∃ k m, n = some m ∧ x = some (.int k m) := by
  cases o with
  | none => simp [optNat] at h; exact .inl ⟨h.symm, hn rfl⟩
  | some v =>
    simp only [optNat, Option.bind_eq_some_iff, Option.some.injEq] at h
    obtain ⟨m, hm, rfl⟩ := h
    obtain ⟨y, rfl, hy⟩ := hx v rfl
    unfold natOf at hm
    split at hm
    · cases hm; rw [hy.int_inv]; exact .inr ⟨_, _, rfl, rfl⟩
    · simp at hm

theorem run_sliceBound {k : IntKind} {n : Nat} {y : Nat} {c : BoundsCode} (h : n ≤ y) (w : GW) : (Instr.sliceBound (.int k (n : Int)) y c).run P w = .ok n w := by
  have : (0 : Int) ≤ (n : Int) ∧ (n : Int) ≤ (y : Int) := ⟨by omega, by omega⟩
  simp [Instr.sliceBound, run_asIntOf, this]
theorem run_sliceBounds {isS : Bool} {len cap : Nat} {lo hi : Option Value} {a b : Nat} (hlo : (a = 0 ∧ lo = none) ∨ ∃ k, lo = some (.int k (a : Int))) (hhi : (b = len ∧ hi = none) ∨ ∃ k, hi = some (.int k (b : Int))) (h1 : a ≤ b) (h2 : b ≤ cap) (w : GW) :
    (Instr.sliceBounds isS len cap lo hi none).run P w = .ok (a, b, cap) w := by
  unfold Instr.sliceBounds
  rcases hlo with ⟨rfl, rfl⟩ | ⟨k, rfl⟩ <;> rcases hhi with ⟨rfl, rfl⟩ | ⟨k', rfl⟩
  · simp
  · simp [run_sliceBound (P := P) h2]
  · simp [run_sliceBound (P := P) h1]
  · simp [run_sliceBound (P := P) h2, run_sliceBound (P := P) h1]
theorem run_sliceBounds3 {len cap : Nat} {lo hi : Option Value} {a b : Nat} {mx : Value} (hlo : (a = 0 ∧ lo = none) ∨ ∃ k, lo = some (.int k (a : Int))) (hhi : ∃ k, hi = some (.int k (b : Int))) (hm : ∃ k, mx = .int k (b : Int)) (h1 : a ≤ b) (h2 : b ≤ cap) (w : GW) :
    (Instr.sliceBounds true len cap lo hi (some mx)).run P w = .ok (a, b, b) w := by
  unfold Instr.sliceBounds
  obtain ⟨k, rfl⟩ := hm
  obtain ⟨k', rfl⟩ := hhi
  rcases hlo with ⟨rfl, rfl⟩ | ⟨k, rfl⟩
  · simp [run_sliceBound (P := P) h2, run_sliceBound (P := P) (Nat.le_refl b)]
  · simp [run_sliceBound (P := P) h2, run_sliceBound (P := P) (Nat.le_refl b), run_sliceBound (P := P) h1]

theorem run_slice_slice {t et : TypeId} {sz : Nat} (hd : P.underlying t = some (.slice et)) (hsz : ∀ w : GW, (sizeOf et).run P w = .ok sz w) {A : Option Addr} {len cap : Nat} {lo hi mx : Option Value} {a b m : Nat}
    (hb : ∀ w : GW, (Instr.sliceBounds true len cap lo hi mx).run P w = .ok (a, b, m) w) (w : GW) :
    (Instr.sliceAt t (.slice A len cap) lo hi mx).run P w = .ok (.slice (if m = a then A else A.map (·.add (a * sz))) (b - a) (m - a)) w := by
  unfold Instr.sliceAt
  simp only [Sem.run_bind, run_underlying hd w, Result.andThen_ok]
  unfold Instr.slice
  simp only [Sem.run_bind, run_underlying hd w, Result.andThen_ok, hb, hsz, Sem.run_pure]

theorem mk_extract (s : Str) (a b : Nat) (h : b ≤ s.length) : (⟨s.toArray⟩ : ByteArray).extract a b = ⟨((s.take b).drop a).toArray⟩ := by
  apply ByteArray.ext
  simp [ByteArray.data_extract, List.drop_take]

theorem vec_len (hm : MemOK base ok G w M) {b len cap sz : Nat} {A : Option Nat} {e : Kd} {l : List e.T} (hb : M[b]? = some (.vec e l) ∨ M[b]? = some (.fvec e l)) (hc : G.σ b = .hdr A len cap sz) : len = l.length ∧ sz = e.size ∧ len ≤ cap := by
  rcases hb with hb | hb
  · obtain ⟨A', cap'', e1, e2, _⟩ := hm.blocks b _ hb; rw [hc] at e1; cases e1; exact ⟨rfl, rfl, e2⟩
  · obtain ⟨A', cap'', e1, e2⟩ := hm.blocks b _ hb; rw [hc] at e1; cases e1
    obtain ⟨_, _, h1, h2⟩ := e2.sl_inv
    injection h2 with _ _ h3
    exact ⟨rfl, rfl, by omega⟩

theorem strsOf_spec : ∀ {cs : List AV} {l : List Str}, strsOf cs = some l → cs.length = l.length ∧ ∀ i (h : i < cs.length) (h' : i < l.length), cs[i] = .str l[i]
  | [], l, h => by simp [strsOf] at h; subst h; exact ⟨rfl, fun i h => by simp at h⟩
  | v :: r, l, h => by
    simp only [strsOf, Option.bind_eq_some_iff, Option.some.injEq] at h
    obtain ⟨n, hn, m, hm, rfl⟩ := h
    obtain ⟨hl, hr⟩ := strsOf_spec hm
    refine ⟨by simp [hl], fun i h1 h2 => ?_⟩
    cases i with
    | zero =>
      unfold AV.asStr at hn
      split at hn
      · cases hn; rfl
      · simp at hn
    | succ i => exact hr i (by simpa using h1) (by simpa using h2)

theorem sliceK_sound (hE : EnvOK P E) (hm : MemOK base ok G w M) (hg : GOK E.glob base G.D w) {t : TypeId} {av : AV} {x : Value} (hv : VR G.D G.σ w av x) {lo hi mx : Option AV} {lo' hi' mx' : Option Value}
    (hlo : (∀ v, lo = some v → ∃ y, lo' = some y ∧ VR G.D G.σ w v y) ∧ (lo = none → lo' = none)) (hhi : (∀ v, hi = some v → ∃ y, hi' = some y ∧ VR G.D G.σ w v y) ∧ (hi = none → hi' = none))
    (hmx : (∀ v, mx = some v → ∃ y, mx' = some y ∧ VR G.D G.σ w v y) ∧ (mx = none → mx' = none)) {k : AV → Option R} {r : R} (h : sliceK E M t av lo hi mx k = some r) :
    ∃ v y, k v = some r ∧ (Instr.sliceAt t x lo' hi' mx').run P w = .ok y w ∧ VR G.D G.σ w v y := by
  unfold sliceK at h
  split at h
  · simp at h
  · rename_i i hi0
    obtain ⟨d, hd, hs, _⟩ := (hE.ty t i hi0).und
    have h2 := Option.bind_eq_some_iff.1 h
    clear h
    obtain ⟨n1, hn1, h3⟩ := h2
    have h2 := Option.bind_eq_some_iff.1 h3
    clear h3
    obtain ⟨n2, hn2, h⟩ := h2
    have e1 := optNat_spec hn1 hlo.1 hlo.2
    have e2 := optNat_spec hn2 hhi.1 hhi.2
    have c1 : ∀ {a : Nat}, (n1 = none → a = 0) → (∀ n, n1 = some n → n = a) → (a = 0 ∧ lo' = none) ∨ ∃ k, lo' = some (.int k (a : Int)) := by
      intro a ha hb
      rcases e1 with ⟨p, q⟩ | ⟨k, m, p, q⟩
      · exact .inl ⟨ha p, q⟩
      · exact .inr ⟨k, by rw [q, hb m p]⟩
    have c2 : ∀ {b len : Nat}, (n2 = none → b = len) → (∀ n, n2 = some n → n = b) → (b = len ∧ hi' = none) ∨ ∃ k, hi' = some (.int k (b : Int)) := by
      intro b len ha hb
      rcases e2 with ⟨p, q⟩ | ⟨k, m, p, q⟩
      · exact .inl ⟨ha p, q⟩
      · exact .inr ⟨k, by rw [q, hb m p]⟩
    generalize hsh : i.sh = s at h hs
    have data : ∀ {et : TypeId} {e : Kd} {l : List e.T}, s = .sl et → esz E et e = true → DR G.D w (.sl e l) x → (sliceL l n1 n2 fun l => k (.sl e l)) = some r → mx' = none →
        ∃ v y, k v = some r ∧ (Instr.sliceAt t x lo' hi' mx').run P w = .ok y w ∧ VR G.D G.σ w v y := by
      intro et e l hs' hez hdr hk0 hmn
      rw [hs'] at hs
      rw [hmn]
      rw [shOK_sl hs] at hd
      obtain ⟨A, cap, hcap, rfl⟩ := hdr.sl_inv
      obtain ⟨l', hk, a, b, hab, hb, rfl, f1, f2, f3, f4⟩ := sliceL_spec hk0
      refine ⟨_, _, hk, run_slice_slice hd (esz_spec hE hez) (fun w => run_sliceBounds (c1 f1 f2) (c2 f3 f4) hab (by omega) w) w, .data _ _ ?_⟩
      refine hdr.sub a b hab hb _ _ (fun hlt => ?_) (by omega)
      rw [if_neg (by omega)]
    split at h
    · -- a string
      rename_i p
      rw [hv.str_inv, hmx.2 rfl]
      rw [shOK_str hs] at hd
      obtain ⟨l', hk, a, b, hab, hb, rfl, f1, f2, f3, f4⟩ := sliceL_spec h
      refine ⟨_, _, hk, ?_, .data _ _ (.str _)⟩
      unfold Instr.sliceAt
      simp only [Sem.run_bind, run_underlying hd w, Result.andThen_ok]
      unfold Instr.slice
      simp only [Sem.run_bind, run_underlying hd w, Result.andThen_ok, Option.isSome_none, Bool.false_eq_true, if_false, Sem.run_pure]
      rw [run_sliceBounds (P := P) (len := (⟨p.toArray⟩ : ByteArray).size) (c1 f1 f2) (c2 (fun e => by rw [size_mk]; exact f3 e) f4) hab (by rw [size_mk]; exact hb) w]
      simp only [Result.andThen_ok, mk_extract p a b hb]
    · replace h := bif_none h
      obtain ⟨hez, h⟩ := h
      exact data rfl hez hv.sl_inv h (hmx.2 rfl)
    · replace h := bif_none h
      obtain ⟨hez, h⟩ := h
      exact data rfl hez hv.slc_inv.slc_sl h (hmx.2 rfl)
    · -- with a capacity
      rename_i et e l m
      replace h := bif_none h
      obtain ⟨hez, h⟩ := h
      split at h
      · rename_i hh mm hmm
        replace h := cnd_none h
        obtain ⟨heq, h⟩ := h
        have heq : mm = hh := by simpa [ieq] using heq
        subst heq
        rw [shOK_sl hs] at hd
        have hdr := hv.sl_inv
        obtain ⟨A, cap, hcap, rfl⟩ := hdr.sl_inv
        obtain ⟨l', hk, a, b, hab, hb, rfl, f1, f2, f3, f4⟩ := sliceL_spec h
        obtain ⟨y, hy, hvy⟩ := hmx.1 m rfl
        have hbb := f4 mm rfl
        subst hbb
        have hmx2 : ∃ k, y = .int k (b : Int) := by
          unfold natOf at hmm
          split at hmm
          · cases hmm; exact ⟨_, hvy.int_inv⟩
          · simp at hmm
        have hhi2 : ∃ k, hi' = some (.int k (b : Int)) := by
          rcases e2 with ⟨p, q⟩ | ⟨k, m', p, q⟩
          · simp at p
          · cases p; exact ⟨k, q⟩
        rw [hy]
        refine ⟨_, _, hk, run_slice_slice hd (esz_spec hE hez) (fun w => run_sliceBounds3 (c1 f1 f2) hhi2 hmx2 hab (by omega) w) w, .data _ _ ?_⟩
        have hsub := hdr.sub a b hab hb (if b = a then A else A.map (·.add (a * e.size))) (b - a) (fun hlt => by rw [if_neg (by omega)]) (by omega)
        have hlen : ((l.take b).drop a).length = b - a := by simp; omega
        generalize hx : Value.slice (if b = a then A else A.map (·.add (a * e.size))) (b - a) (b - a) = xx at hsub
        cases hsub with
        | sl _ _ A' cap' cv hcap' hA hone hr =>
          injection hx with x1 x2 x3
          have hc' : cap' = ((l.take b).drop a).length := by omega
          rw [hc']
          exact .slc _ _ _ cv hA hone hr
      · simp at h
    · -- a slice of the call's own
      rename_i et b
      obtain ⟨A, len, cap, sz, hc, rfl⟩ := hv.vec_inv
      rw [hmx.2 rfl]
      rw [shOK_sl hs] at hd
      revert h
      have go : ∀ {e : Kd} {l : List e.T}, (M[b]? = some (.vec e l) ∨ M[b]? = some (.fvec e l)) → (bif esz E et e then sliceV b (ilen l) n1 n2 k else none) = some r →
          ∃ v y, k v = some r ∧ (Instr.sliceAt t (.slice (A.map blkA) len cap) lo' hi' none).run P w = .ok y w ∧ VR G.D G.σ w v y := by
        intro e l hb h
        replace h := bif_none h
        obtain ⟨hez, h⟩ := h
        obtain ⟨rfl, rfl, hcap⟩ := vec_len hm hb hc
        have piece : ∀ (a c : Nat) (ai ci : Int), ai = a → ci = c → a ≤ c → c ≤ l.length → ((a = 0 ∧ lo' = none) ∨ ∃ k, lo' = some (.int k (a : Int))) → ((c = l.length ∧ hi' = none) ∨ ∃ k, hi' = some (.int k (c : Int))) →
            ∃ y, (Instr.sliceAt t (.slice (A.map blkA) l.length cap) lo' hi' none).run P w = .ok y w ∧ VR G.D G.σ w (.vsl b ai ci) y := by
          intro a c ai ci hai hci hac hcl q1 q2
          refine ⟨_, run_slice_slice hd (esz_spec hE hez) (fun w => run_sliceBounds q1 q2 hac (by omega) w) w, ?_⟩
          have hs2 : (ci - ai).toNat = c - a := by omega
          rw [← hs2]
          refine .vsl b ai ci A l.length cap e.size hc (by omega) (by omega) (by omega) _ _ (fun hlt => ?_) (by omega) (fun hz => ?_)
          · rw [if_neg (by omega), show ai.toNat = a by omega]
            cases A <;> rfl
          · obtain rfl : a = 0 := by omega
            refine ⟨?_, by omega⟩
            split
            · rfl
            · cases A <;> simp [add_zero]
        unfold sliceV at h
        split at h
        · refine ⟨_, _, h, run_slice_slice hd (esz_spec hE hez) (fun w => run_sliceBounds (a := 0) (b := l.length) (c1 (by simp) (by simp)) (c2 (by simp) (by simp)) (by omega) (by omega) w) w, ?_⟩
          simp only [Nat.zero_mul, Nat.sub_zero]
          have : (if cap = 0 then A.map blkA else (A.map blkA).map (·.add 0)) = A.map blkA := by
            split
            · rfl
            · cases A <;> simp [add_zero]
          rw [this]
          exact .vec b A _ cap _ hc
        · rename_i a
          replace h := cnd_none h
          obtain ⟨h0, h⟩ := h
          replace h := cnd_none h
          obtain ⟨h1, h⟩ := h
          simp [ile, ilen_eq] at h0 h1
          obtain ⟨y, q1, q2⟩ := piece a.toNat l.length a (ilen l) (by omega) (ilen_eq l) (by omega) (by omega) (c1 (by simp) (by simp; omega)) (c2 (by simp) (by simp))
          exact ⟨_, y, h, q1, q2⟩
        · rename_i c
          replace h := cnd_none h
          obtain ⟨h0, h⟩ := h
          replace h := cnd_none h
          obtain ⟨h1, h⟩ := h
          simp [ile, ilen_eq] at h0 h1
          obtain ⟨y, q1, q2⟩ := piece 0 c.toNat 0 c (by omega) (by omega) (by omega) (by omega) (c1 (by simp) (by simp)) (c2 (by simp) (by simp; omega))
          exact ⟨_, y, h, q1, q2⟩
        · rename_i a c
          replace h := cnd_none h
          obtain ⟨h0, h⟩ := h
          replace h := cnd_none h
          obtain ⟨h1, h⟩ := h
          replace h := cnd_none h
          obtain ⟨h2, h⟩ := h
          simp [ile, ilen_eq] at h0 h1 h2
          obtain ⟨y, q1, q2⟩ := piece a.toNat c.toNat a c (by omega) (by omega) (by omega) (by omega) (c1 (by simp) (by simp; omega)) (c2 (by simp) (by simp; omega))
          exact ⟨_, y, h, q1, q2⟩
      intro h
      split at h
      · rename_i e l hb; exact go (.inl hb) h
      · rename_i e l hb; exact go (.inr hb) h
      · simp at h
    · -- nil
      rename_i et
      rw [hv.nilsl_inv, hmx.2 rfl]
      rw [shOK_sl hs] at hd
      split at h
      · rename_i ei hei
        refine ⟨_, .slice none 0 0, h, ?_, .data _ _ .nilsl⟩
        have := run_slice_slice hd (fun w => run_sliceBounds (len := 0) (cap := 0) (a := 0) (b := 0) (c1 (by simp) (by simp)) (c2 (by simp) (by simp)) (by omega) (by omega) w) (hsz := fun w => run_sizeOf' (hE.ty _ _ hei) w) (A := none) w
        simpa using this
      · rename_i n ei hei
        replace h := cnd_none h
        obtain ⟨hn0, h⟩ := h
        obtain rfl : n = 0 := by simpa [ieq] using hn0
        refine ⟨_, .slice none 0 0, h, ?_, .data _ _ .nilsl⟩
        have := run_slice_slice hd (fun w => run_sliceBounds (len := 0) (cap := 0) (a := 0) (b := 0) (c1 (by simp) (by simp)) (c2 (by simp) (fun m hm => by cases hm; rfl)) (by omega) (by omega) w) (hsz := fun w => run_sizeOf' (hE.ty _ _ hei) w) (A := none) w
        simpa using this
      · simp at h
    · -- an array of the call's own
      rename_i n et b off
      obtain ⟨c, hc, rfl⟩ := hv.ptr_inv
      rw [hmx.2 rfl]
      rw [shOK_arr hs] at hd
      split at h
      · rename_i ei hei
        have hb := run_sliceBounds (P := P) (isS := false) (len := n) (cap := n) (a := 0) (b := n) (c1 (by simp) (by simp)) (c2 (by simp) (by simp)) (by omega) (by omega) w
        refine ⟨_, .slice (some ((blkA c).add off)) n n, h, ?_, .csl b off n c hc n (Nat.le_refl _)⟩
        unfold Instr.sliceAt
        simp only [Sem.run_bind, run_underlying hd w, Result.andThen_ok, sureAddr_some, hb, run_sizeOf' (hE.ty _ _ hei) w, Sem.run_pure, Nat.zero_mul, add_zero, ite_self, Nat.sub_zero]
      · simp at h
    · -- an array that is a variable of the program
      rename_i n et g off
      rw [hv.gp_inv, hmx.2 rfl]
      rw [shOK_arr hs] at hd
      split at h
      · rename_i ei hei
        split at h
        · rename_i cs hkd hcs
          replace h := bif_none h
          obtain ⟨hoff, h⟩ := h
          simp only [Bool.and_eq_true] at hoff
          have h0 := Nat.eq_of_beq_eq_true hoff.1.1
          have h1 := Nat.eq_of_beq_eq_true hoff.1.2
          have h2 := Nat.eq_of_beq_eq_true hoff.2
          subst h0
          replace h := Option.bind_eq_some_iff.1 h
          obtain ⟨l, hl, h⟩ := h
          obtain ⟨hlen, hget⟩ := strsOf_spec hl
          obtain ⟨_, hD, hat, _⟩ := hg g cs hcs
          have hb := run_sliceBounds (P := P) (isS := false) (len := n) (cap := n) (a := 0) (b := n) (c1 (by simp) (by simp)) (c2 (by simp) (by simp)) (by omega) (by omega) w
          refine ⟨_, .slice (some (blkA g)) l.length n, h, ?_, .data _ _ (.sl .str l (some (blkA g)) n (fun i j => .string ⟨(l.getD i []).toArray⟩) (by omega) (fun i hi => ⟨blkA g, rfl, hD, fun j hj => ?_⟩) (fun i j _ _ => rfl) (fun i hi j hj => ?_))⟩
          · unfold Instr.sliceAt
            simp only [Sem.run_bind, run_underlying hd w, Result.andThen_ok, sureAddr_some, hb, run_sizeOf' (hE.ty _ _ hei) w, Sem.run_pure, Nat.zero_mul, add_zero, ite_self, Nat.sub_zero]
            rw [show n = l.length by omega]
          · have hj0 : j = 0 := by simp [Kd.size] at hj; exact hj
            subst hj0
            obtain ⟨x, hx, _, hr⟩ := hat i (by omega)
            rw [hget i (by omega) hi] at hr
            cases hr
            simp only [Kd.size, Nat.mul_one, Nat.add_zero, hx, List.getD_eq_getElem?_getD, List.getElem?_eq_getElem hi, Option.getD_some]
          · have hj0 : j = 0 := by simp [Kd.cells] at hj; exact hj
            subst hj0
            simp only [Kd.cells, List.getElem_cons_zero, List.getD_eq_getElem?_getD, List.getElem?_eq_getElem hi, Option.getD_some]
            exact .str _
        · simp at h
      · simp at h
    · simp at h
end Go.Sx
