/-
  SX: a symbolic evaluator over the model and its soundness: part 2 of 4.
-/
import Derived.Test.YtcpabdpbldmmmaaGreatDoorSxBaseA
import Derived.Laws.BytesString
import Derived.Laws.MakeOwn
import Derived.MapKept
import Derived.IntWalk
set_option linter.unusedVariables false
set_option linter.unusedSimpArgs false
namespace Go.Sx
open Go
open Go.RowKit (Below)
variable {P : Program} {E : Env} {base : Nat} {ok : Nat → Prop} {G : Gam} {w : GW} {M : Mem} {R : Type}
theorem Q2 {α : Type} {l : List α} {lo hi : Option Int} {k : List α → Option R} {r : R} (h : vT l lo hi k = some r) :
  ∃ l', k l' = some r ∧ ∃ a b : Nat, a ≤ b ∧ b ≤ l.length ∧ l' = (l.take b).drop a ∧ (lo = none → a = 0) ∧ (∀ n, lo = some n → n = a) ∧ (hi = none → b = l.length) ∧ (∀ n, hi = some n → n = b) := by
 unfold vT at h
 split at h
 ·exact ⟨_, h, 0, l.length, by omega, by omega, by simp, by simp, by simp, by simp, by simp⟩
 ·rename_i a
  replace h := qB h
  obtain ⟨h0, h⟩ := h
  replace h := qB h
  obtain ⟨h1, h⟩ := h
  simp [ile, ilen_eq] at h0 h1
  exact ⟨_, h, a.toNat, l.length, by omega, by omega, by simp, by simp, by simp; omega, by simp, by simp⟩
 ·rename_i b
  replace h := qB h
  obtain ⟨h0, h⟩ := h
  replace h := qB h
  obtain ⟨h1, h⟩ := h
  simp [ile, ilen_eq] at h0 h1
  exact ⟨_, h, 0, b.toNat, by omega, by omega, by simp, by simp, by simp, by simp, by simp; omega⟩
 ·rename_i a b
  replace h := qB h
  obtain ⟨h0, h⟩ := h
  replace h := qB h
  obtain ⟨h1, h⟩ := h
  replace h := qB h
  obtain ⟨h2, h⟩ := h
  simp [ile, ilen_eq] at h0 h1 h2
  exact ⟨_, h, a.toNat, b.toNat, by omega, by omega, rfl, by simp, by simp; omega, by simp, by simp; omega⟩
theorem Vr {o : Option AV} {n : Option Int} (h : JZ o = some n) {x : Option Value} (hx : ∀ v, o = some v → ∃ y, x = some y ∧ VR G.D G.σ w v y) (hn : o = none → x = none) :
  (n = none ∧ x = none) ∨ ∃ k m, n = some m ∧ x = some (.int k m) := by
 cases o with
 | none => simp [JZ] at h; exact .inl ⟨h.symm, hn rfl⟩
 | some v =>
   simp only [JZ, Option.bind_eq_some_iff, Option.some.injEq] at h
   obtain ⟨m, hm, rfl⟩ := h
   obtain ⟨y, rfl, hy⟩ := hx v rfl
   unfold Nx at hm
   split at hm
   ·cases hm; rw [hy.int_inv]; exact .inr ⟨_, _, rfl, rfl⟩
   ·simp at hm
theorem jb {k : IntKind} {n : Nat} {y : Nat} {c : BoundsCode} (h : n ≤ y) (w : GW) : (Instr.sliceBound (.int k (n : Int)) y c).run P w = .ok n w := by
 have : (0 : Int) ≤ (n : Int) ∧ (n : Int) ≤ (y : Int) := ⟨by omega, by omega⟩
 simp [Instr.sliceBound, ku, this]
theorem qY {isS : Bool} {len cap : Nat} {lo hi : Option Value} {a b : Nat} (hlo : (a = 0 ∧ lo = none) ∨ ∃ k, lo = some (.int k (a : Int))) (hhi : (b = len ∧ hi = none) ∨ ∃ k, hi = some (.int k (b : Int))) (h1 : a ≤ b) (h2 : b ≤ cap) (w : GW) :
  (Instr.sliceBounds isS len cap lo hi none).run P w = .ok (a, b, cap) w := by
 unfold Instr.sliceBounds
 rcases hlo with ⟨rfl, rfl⟩ | ⟨k, rfl⟩ <;> rcases hhi with ⟨rfl, rfl⟩ | ⟨k', rfl⟩
 ·simp
 ·simp [jb (P := P) h2]
 ·simp [jb (P := P) h1]
 ·simp [jb (P := P) h2, jb (P := P) h1]
theorem K0 {len cap : Nat} {lo hi : Option Value} {a b : Nat} {mx : Value} (hlo : (a = 0 ∧ lo = none) ∨ ∃ k, lo = some (.int k (a : Int))) (hhi : ∃ k, hi = some (.int k (b : Int))) (hm : ∃ k, mx = .int k (b : Int)) (h1 : a ≤ b) (h2 : b ≤ cap) (w : GW) :
  (Instr.sliceBounds true len cap lo hi (some mx)).run P w = .ok (a, b, b) w := by
 unfold Instr.sliceBounds
 obtain ⟨k, rfl⟩ := hm
 obtain ⟨k', rfl⟩ := hhi
 rcases hlo with ⟨rfl, rfl⟩ | ⟨k, rfl⟩
 ·simp [jb (P := P) h2, jb (P := P) (Nat.le_refl b)]
 ·simp [jb (P := P) h2, jb (P := P) (Nat.le_refl b), jb (P := P) h1]
theorem j2 {t et : TypeId} {sz : Nat} (hd : P.underlying t = some (.slice et)) (hsz : ∀ w : GW, (sizeOf et).run P w = .ok sz w) {A : Option Addr} {len cap : Nat} {lo hi mx : Option Value} {a b m : Nat}
  (hb : ∀ w : GW, (Instr.sliceBounds true len cap lo hi mx).run P w = .ok (a, b, m) w) (w : GW) :
  (Instr.sliceAt t (.slice A len cap) lo hi mx).run P w = .ok (.slice (if m = a then A else A.map (·.add (a * sz))) (b - a) (m - a)) w := by
 unfold Instr.sliceAt
 simp only [Sem.run_bind, run_underlying hd w, Result.andThen_ok]
 unfold Instr.slice
 simp only [Sem.run_bind, run_underlying hd w, Result.andThen_ok, hb, hsz, Sem.run_pure]
theorem qbw (s : Str) (a b : Nat) (h : b ≤ s.length) : (⟨s.toArray⟩ : ByteArray).extract a b = ⟨((s.take b).drop a).toArray⟩ := by
 apply ByteArray.ext
 simp [ByteArray.data_extract, List.drop_take]
theorem Je (hm : MemOK base ok G w M) {b len cap sz : Nat} {A : Option Nat} {e : Kd} {l : List e.T} (hb : M[b]? = some (.vec e l) ∨ M[b]? = some (.fvec e l)) (hc : G.σ b = .hdr A len cap sz) : len = l.length ∧ sz = e.size ∧ len ≤ cap := by
 rcases hb with hb | hb
 ·obtain ⟨A', cap'', e1, e2, _⟩ := hm.blocks b _ hb; rw [hc] at e1; cases e1; exact ⟨rfl, rfl, e2⟩
 ·obtain ⟨A', cap'', e1, e2⟩ := hm.blocks b _ hb; rw [hc] at e1; cases e1
  obtain ⟨_, _, h1, h2⟩ := e2.sl_inv
  injection h2 with _ _ h3
  exact ⟨rfl, rfl, by omega⟩
theorem Zs (hE : EnvOK P E) (hm : MemOK base ok G w M) (hg : GOK E.glob base G.D w) {t : TypeId} {av : AV} {x : Value} (hv : VR G.D G.σ w av x) {lo hi mx : Option AV} {lo' hi' mx' : Option Value}
  (hlo : (∀ v, lo = some v → ∃ y, lo' = some y ∧ VR G.D G.σ w v y) ∧ (lo = none → lo' = none)) (hhi : (∀ v, hi = some v → ∃ y, hi' = some y ∧ VR G.D G.σ w v y) ∧ (hi = none → hi' = none))
  (hmx : (∀ v, mx = some v → ∃ y, mx' = some y ∧ VR G.D G.σ w v y) ∧ (mx = none → mx' = none)) {k : AV → Option R} {r : R} (h : vi E M t av lo hi mx k = some r) :
  ∃ v y, k v = some r ∧ (Instr.sliceAt t x lo' hi' mx').run P w = .ok y w ∧ VR G.D G.σ w v y := by
 unfold vi at h
 split at h
 ·simp at h
 ·rename_i i hi0
  obtain ⟨d, hd, hs, _⟩ := (hE.ty t i hi0).und
  have h2 := Option.bind_eq_some_iff.1 h
  clear h
  obtain ⟨n1, hn1, h3⟩ := h2
  have h2 := Option.bind_eq_some_iff.1 h3
  clear h3
  obtain ⟨n2, hn2, h⟩ := h2
  have e1 := Vr hn1 hlo.1 hlo.2
  have e2 := Vr hn2 hhi.1 hhi.2
  have c1 : ∀ {a : Nat}, (n1 = none → a = 0) → (∀ n, n1 = some n → n = a) → (a = 0 ∧ lo' = none) ∨ ∃ k, lo' = some (.int k (a : Int)) := by
   intro a ha hb
   rcases e1 with ⟨p, q⟩ | ⟨k, m, p, q⟩
   ·exact .inl ⟨ha p, q⟩
   ·exact .inr ⟨k, by rw [q, hb m p]⟩
  have c2 : ∀ {b len : Nat}, (n2 = none → b = len) → (∀ n, n2 = some n → n = b) → (b = len ∧ hi' = none) ∨ ∃ k, hi' = some (.int k (b : Int)) := by
   intro b len ha hb
   rcases e2 with ⟨p, q⟩ | ⟨k, m, p, q⟩
   ·exact .inl ⟨ha p, q⟩
   ·exact .inr ⟨k, by rw [q, hb m p]⟩
  generalize hsh : i.sh = s at h hs
  have data : ∀ {et : TypeId} {e : Kd} {l : List e.T}, s = .sl et → esz E et e = true → DR G.D w (.sl e l) x → (vT l n1 n2 fun l => k (.sl e l)) = some r → mx' = none →
    ∃ v y, k v = some r ∧ (Instr.sliceAt t x lo' hi' mx').run P w = .ok y w ∧ VR G.D G.σ w v y := by
   intro et e l hs' hez hdr hk0 hmn
   rw [hs'] at hs
   rw [hmn]
   rw [j5 hs] at hd
   obtain ⟨A, cap, hcap, rfl⟩ := hdr.sl_inv
   obtain ⟨l', hk, a, b, hab, hb, rfl, f1, f2, f3, f4⟩ := Q2 hk0
   refine ⟨_, _, hk, j2 hd (gC hE hez) (fun w => qY (c1 f1 f2) (c2 f3 f4) hab (by omega) w) w, .data _ _ ?_⟩
   refine hdr.sub a b hab hb _ _ (fun hlt => ?_) (by omega)
   rw [if_neg (by omega)]
  split at h
  ·
   rename_i p
   rw [hv.str_inv, hmx.2 rfl]
   rw [gj hs] at hd
   obtain ⟨l', hk, a, b, hab, hb, rfl, f1, f2, f3, f4⟩ := Q2 h
   refine ⟨_, _, hk, ?_, .data _ _ (.str _)⟩
   unfold Instr.sliceAt
   simp only [Sem.run_bind, run_underlying hd w, Result.andThen_ok]
   unfold Instr.slice
   simp only [Sem.run_bind, run_underlying hd w, Result.andThen_ok, Option.isSome_none, Bool.false_eq_true, if_false, Sem.run_pure]
   rw [qY (P := P) (len := (⟨p.toArray⟩ : ByteArray).size) (c1 f1 f2) (c2 (fun e => by rw [Zt]; exact f3 e) f4) hab (by rw [Zt]; exact hb) w]
   simp only [Result.andThen_ok, qbw p a b hb]
  ·replace h := qr h
   obtain ⟨hez, h⟩ := h
   exact data rfl hez hv.sl_inv h (hmx.2 rfl)
  ·replace h := qr h
   obtain ⟨hez, h⟩ := h
   exact data rfl hez hv.slc_inv.slc_sl h (hmx.2 rfl)
  ·
   rename_i et e l m
   replace h := qr h
   obtain ⟨hez, h⟩ := h
   split at h
   ·rename_i hh mm hmm
    replace h := qB h
    obtain ⟨heq, h⟩ := h
    have heq : mm = hh := by simpa [ieq] using heq
    subst heq
    rw [j5 hs] at hd
    have hdr := hv.sl_inv
    obtain ⟨A, cap, hcap, rfl⟩ := hdr.sl_inv
    obtain ⟨l', hk, a, b, hab, hb, rfl, f1, f2, f3, f4⟩ := Q2 h
    obtain ⟨y, hy, hvy⟩ := hmx.1 m rfl
    have hbb := f4 mm rfl
    subst hbb
    have hmx2 : ∃ k, y = .int k (b : Int) := by
     unfold Nx at hmm
     split at hmm
     ·cases hmm; exact ⟨_, hvy.int_inv⟩
     ·simp at hmm
    have hhi2 : ∃ k, hi' = some (.int k (b : Int)) := by
     rcases e2 with ⟨p, q⟩ | ⟨k, m', p, q⟩
     ·simp at p
     ·cases p; exact ⟨k, q⟩
    rw [hy]
    refine ⟨_, _, hk, j2 hd (gC hE hez) (fun w => K0 (c1 f1 f2) hhi2 hmx2 hab (by omega) w) w, .data _ _ ?_⟩
    have hsub := hdr.sub a b hab hb (if b = a then A else A.map (·.add (a * e.size))) (b - a) (fun hlt => by rw [if_neg (by omega)]) (by omega)
    have hlen : ((l.take b).drop a).length = b - a := by simp; omega
    generalize hx : Value.slice (if b = a then A else A.map (·.add (a * e.size))) (b - a) (b - a) = xx at hsub
    cases hsub with
    | sl _ _ A' cap' cv hcap' hA hone hr =>
      injection hx with x1 x2 x3
      have hc' : cap' = ((l.take b).drop a).length := by omega
      rw [hc']
      exact .slc _ _ _ cv hA hone hr
   ·simp at h
  ·
   rename_i et b
   obtain ⟨A, len, cap, sz, hc, rfl⟩ := hv.vec_inv
   rw [hmx.2 rfl]
   rw [j5 hs] at hd
   revert h
   have go : ∀ {e : Kd} {l : List e.T}, (M[b]? = some (.vec e l) ∨ M[b]? = some (.fvec e l)) → (bif esz E et e then Q1 b (qh l) n1 n2 k else none) = some r →
     ∃ v y, k v = some r ∧ (Instr.sliceAt t (.slice (A.map blkA) len cap) lo' hi' none).run P w = .ok y w ∧ VR G.D G.σ w v y := by
    intro e l hb h
    replace h := qr h
    obtain ⟨hez, h⟩ := h
    obtain ⟨rfl, rfl, hcap⟩ := Je hm hb hc
    have piece : ∀ (a c : Nat) (ai ci : Int), ai = a → ci = c → a ≤ c → c ≤ l.length → ((a = 0 ∧ lo' = none) ∨ ∃ k, lo' = some (.int k (a : Int))) → ((c = l.length ∧ hi' = none) ∨ ∃ k, hi' = some (.int k (c : Int))) →
      ∃ y, (Instr.sliceAt t (.slice (A.map blkA) l.length cap) lo' hi' none).run P w = .ok y w ∧ VR G.D G.σ w (.vsl b ai ci) y := by
     intro a c ai ci hai hci hac hcl q1 q2
     refine ⟨_, j2 hd (gC hE hez) (fun w => qY q1 q2 hac (by omega) w) w, ?_⟩
     have hs2 : (ci - ai).toNat = c - a := by omega
     rw [← hs2]
     refine .vsl b ai ci A l.length cap e.size hc (by omega) (by omega) (by omega) _ _ (fun hlt => ?_) (by omega) (fun hz => ?_)
     ·rw [if_neg (by omega), show ai.toNat = a by omega]
      cases A <;> rfl
     ·obtain rfl : a = 0 := by omega
      refine ⟨?_, by omega⟩
      split
      ·rfl
      ·cases A <;> simp [add_zero]
    unfold Q1 at h
    split at h
    ·refine ⟨_, _, h, j2 hd (gC hE hez) (fun w => qY (a := 0) (b := l.length) (c1 (by simp) (by simp)) (c2 (by simp) (by simp)) (by omega) (by omega) w) w, ?_⟩
     simp only [Nat.zero_mul, Nat.sub_zero]
     have : (if cap = 0 then A.map blkA else (A.map blkA).map (·.add 0)) = A.map blkA := by
      split
      ·rfl
      ·cases A <;> simp [add_zero]
     rw [this]
     exact .vec b A _ cap _ hc
    ·rename_i a
     replace h := qB h
     obtain ⟨h0, h⟩ := h
     replace h := qB h
     obtain ⟨h1, h⟩ := h
     simp [ile, ilen_eq] at h0 h1
     obtain ⟨y, q1, q2⟩ := piece a.toNat l.length a (qh l) (by omega) (ilen_eq l) (by omega) (by omega) (c1 (by simp) (by simp; omega)) (c2 (by simp) (by simp))
     exact ⟨_, y, h, q1, q2⟩
    ·rename_i c
     replace h := qB h
     obtain ⟨h0, h⟩ := h
     replace h := qB h
     obtain ⟨h1, h⟩ := h
     simp [ile, ilen_eq] at h0 h1
     obtain ⟨y, q1, q2⟩ := piece 0 c.toNat 0 c (by omega) (by omega) (by omega) (by omega) (c1 (by simp) (by simp)) (c2 (by simp) (by simp; omega))
     exact ⟨_, y, h, q1, q2⟩
    ·rename_i a c
     replace h := qB h
     obtain ⟨h0, h⟩ := h
     replace h := qB h
     obtain ⟨h1, h⟩ := h
     replace h := qB h
     obtain ⟨h2, h⟩ := h
     simp [ile, ilen_eq] at h0 h1 h2
     obtain ⟨y, q1, q2⟩ := piece a.toNat c.toNat a c (by omega) (by omega) (by omega) (by omega) (c1 (by simp) (by simp; omega)) (c2 (by simp) (by simp; omega))
     exact ⟨_, y, h, q1, q2⟩
   intro h
   split at h
   ·rename_i e l hb; exact go (.inl hb) h
   ·rename_i e l hb; exact go (.inr hb) h
   ·simp at h
  ·
   rename_i et
   rw [hv.nilsl_inv, hmx.2 rfl]
   rw [j5 hs] at hd
   split at h
   ·rename_i ei hei
    refine ⟨_, .slice none 0 0, h, ?_, .data _ _ .nilsl⟩
    have := j2 hd (fun w => qY (len := 0) (cap := 0) (a := 0) (b := 0) (c1 (by simp) (by simp)) (c2 (by simp) (by simp)) (by omega) (by omega) w) (hsz := fun w => qP (hE.ty _ _ hei) w) (A := none) w
    simpa using this
   ·rename_i n ei hei
    replace h := qB h
    obtain ⟨hn0, h⟩ := h
    obtain rfl : n = 0 := by simpa [ieq] using hn0
    refine ⟨_, .slice none 0 0, h, ?_, .data _ _ .nilsl⟩
    have := j2 hd (fun w => qY (len := 0) (cap := 0) (a := 0) (b := 0) (c1 (by simp) (by simp)) (c2 (by simp) (fun m hm => by cases hm; rfl)) (by omega) (by omega) w) (hsz := fun w => qP (hE.ty _ _ hei) w) (A := none) w
    simpa using this
   ·simp at h
  ·
   rename_i n et b off
   obtain ⟨c, hc, rfl⟩ := hv.ptr_inv
   rw [hmx.2 rfl]
   rw [kq hs] at hd
   split at h
   ·rename_i ei hei
    have hb := qY (P := P) (isS := false) (len := n) (cap := n) (a := 0) (b := n) (c1 (by simp) (by simp)) (c2 (by simp) (by simp)) (by omega) (by omega) w
    refine ⟨_, .slice (some ((blkA c).add off)) n n, h, ?_, .csl b off n c hc n (Nat.le_refl _)⟩
    unfold Instr.sliceAt
    simp only [Sem.run_bind, run_underlying hd w, Result.andThen_ok, qN, hb, qP (hE.ty _ _ hei) w, Sem.run_pure, Nat.zero_mul, add_zero, ite_self, Nat.sub_zero]
   ·simp at h
  ·
   rename_i n et g off
   rw [hv.gp_inv, hmx.2 rfl]
   rw [kq hs] at hd
   split at h
   ·rename_i ei hei
    split at h
    ·rename_i cs hkd hcs
     replace h := qr h
     obtain ⟨hoff, h⟩ := h
     simp only [Bool.and_eq_true] at hoff
     have h0 := Nat.eq_of_beq_eq_true hoff.1.1
     have h1 := Nat.eq_of_beq_eq_true hoff.1.2
     have h2 := Nat.eq_of_beq_eq_true hoff.2
     subst h0
     replace h := Option.bind_eq_some_iff.1 h
     obtain ⟨l, hl, h⟩ := h
     obtain ⟨hlen, hget⟩ := Q0 hl
     obtain ⟨_, hD, hat, _⟩ := hg g cs hcs
     have hb := qY (P := P) (isS := false) (len := n) (cap := n) (a := 0) (b := n) (c1 (by simp) (by simp)) (c2 (by simp) (by simp)) (by omega) (by omega) w
     refine ⟨_, .slice (some (blkA g)) l.length n, h, ?_, .data _ _ (.sl .str l (some (blkA g)) n (fun i j => .string ⟨(l.getD i []).toArray⟩) (by omega) (fun i hi => ⟨blkA g, rfl, hD, fun j hj => ?_⟩) (fun i j _ _ => rfl) (fun i hi j hj => ?_))⟩
     ·unfold Instr.sliceAt
      simp only [Sem.run_bind, run_underlying hd w, Result.andThen_ok, qN, hb, qP (hE.ty _ _ hei) w, Sem.run_pure, Nat.zero_mul, add_zero, ite_self, Nat.sub_zero]
      rw [show n = l.length by omega]
     ·have hj0 : j = 0 := by simp [Kd.size] at hj; exact hj
      subst hj0
      obtain ⟨x, hx, _, hr⟩ := hat i (by omega)
      rw [hget i (by omega) hi] at hr
      cases hr
      simp only [Kd.size, Nat.mul_one, Nat.add_zero, hx, List.getD_eq_getElem?_getD, List.getElem?_eq_getElem hi, Option.getD_some]
     ·have hj0 : j = 0 := by simp [Kd.cells] at hj; exact hj
      subst hj0
      simp only [Kd.cells, List.getElem_cons_zero, List.getD_eq_getElem?_getD, List.getElem?_eq_getElem hi, Option.getD_some]
      exact .str _
    ·simp at h
   ·simp at h
  ·simp at h
end Go.Sx
namespace Go.Sx
open Go
open Go.RowKit (Below)
variable {P : Program} {E : Env} {base : Nat} {ok : Nat → Prop} {G : Gam} {w : GW} {M : Mem} {R : Type}
theorem qc8 (hE : EnvOK P E) {t ty : TypeId} {av : AV} {x : Value} (hv : VR G.D G.σ w av x) {ats : Array TypeId} (h0 : ats[0]? = some t) {args : Array Value} (h1 : args[0]? = some x) {k : AV → Option R} {r : R} (h : capK E t av k = some r) :
  ∃ v y, k v = some r ∧ (Builtin.cap_ ats ty args).run P w = .ok y w ∧ VR G.D G.σ w v y := by
 unfold capK at h
 split at h
 ·simp at h
 ·rename_i i hi
  obtain ⟨d, hd, hs, _⟩ := (hE.ty t i hi).und
  generalize hsh : i.sh = s at h hs
  split at h
  ·rw [j5 hs] at hd
   have := hv.nilsl_inv
   subst this
   exact ⟨_, _, h, by simp [Builtin.cap_, h0, h1, run_underlying hd w, goInt], .data _ _ (.int _ 0)⟩
  ·simp at h
theorem qb6 (hE : EnvOK P E) (hm : MemOK base ok G w M) {t ty : TypeId} {av : AV} {x : Value} (hv : VR G.D G.σ w av x) {ats : Array TypeId} (h0 : ats[0]? = some t) {args : Array Value} (h1 : args[0]? = some x) {k : AV → Option R} {r : R} (h : lenK E M t av k = some r) :
  ∃ v y, k v = some r ∧ (Builtin.len_ ats ty args).run P w = .ok y w ∧ VR G.D G.σ w v y := by
 unfold lenK at h
 split at h
 ·simp at h
 ·rename_i i hi
  obtain ⟨d, hd, hs, _⟩ := (hE.ty t i hi).und
  generalize hsh : i.sh = s at h hs
  have sl : ∀ {et : TypeId} {A : Option Addr} {n c : Nat}, s = .sl et → x = .slice A n c → (Builtin.len_ ats ty args).run P w = .ok (.int .i64 n) w := by
   intro et A n c hs' hx
   rw [hs'] at hs
   rw [j5 hs] at hd
   simp [Builtin.len_, h0, h1, run_underlying hd w, hx, goInt]
  split at h
  ·rename_i p
   rw [gj hs] at hd
   rw [hv.str_inv] at h1
   rw [ilen_eq] at h
   exact ⟨_, _, h, by simp [Builtin.len_, h0, h1, run_underlying hd w, goInt, Zt], .data _ _ (.int _ _)⟩
  ·obtain ⟨A, cap, _, rfl⟩ := hv.sl_inv.sl_inv
   rw [ilen_eq] at h
   exact ⟨_, _, h, sl rfl rfl, .data _ _ (.int _ _)⟩
  ·obtain ⟨A, rfl⟩ := hv.slc_inv.slc_inv
   rw [ilen_eq] at h
   exact ⟨_, _, h, sl rfl rfl, .data _ _ (.int _ _)⟩
  ·have := hv.nilsl_inv
   subst this
   exact ⟨_, _, h, sl rfl rfl, .data _ _ (.int _ _)⟩
  ·obtain ⟨c, cap, _, _, rfl⟩ := hv.csl_inv
   exact ⟨_, _, h, sl rfl rfl, .data _ _ (.int _ _)⟩
  ·obtain ⟨A, len, cap, sz, hc, rfl⟩ := hv.vec_inv
   split at h
   ·rename_i hb
    obtain ⟨rfl, _⟩ := Je hm (.inl hb) hc
    rw [ilen_eq] at h
    exact ⟨_, _, h, sl rfl rfl, .data _ _ (.int _ _)⟩
   ·rename_i hb
    obtain ⟨rfl, _⟩ := Je hm (.inr hb) hc
    rw [ilen_eq] at h
    exact ⟨_, _, h, sl rfl rfl, .data _ _ (.int _ _)⟩
   ·simp at h
  ·rename_i b lo hi'
   obtain ⟨A, len, cap, sz, B, cap', hc, hl0, hlh, hhl, hB, hcc, rfl⟩ := hv.vsl_inv
   have e : ∀ {α : Type} (l : List α), len = l.length → qh (ldrop (ltake l hi') lo) = ((hi' - lo).toNat : Int) := by
    intro α l hl
    simp only [ilen_eq, ldrop, ltake, List.length_drop, List.length_take]
    omega
   split at h
   ·rename_i hb
    obtain ⟨h2, _⟩ := Je hm (.inl hb) hc
    rw [e _ h2] at h
    exact ⟨_, _, h, sl rfl rfl, .data _ _ (.int _ _)⟩
   ·rename_i hb
    obtain ⟨h2, _⟩ := Je hm (.inr hb) hc
    rw [e _ h2] at h
    exact ⟨_, _, h, sl rfl rfl, .data _ _ (.int _ _)⟩
   ·simp at h
  ·rename_i b
   obtain ⟨c, hc, rfl⟩ := hv.mref_inv
   rw [Zv hs] at hd
   split at h
   ·rename_i hb
    obtain ⟨c', es, clock, e1, e2, e3, _⟩ := hm.blocks b _ hb
    rw [hc] at e1; cases e1
    rw [ilen_eq] at h
    refine ⟨_, _, h, ?_, .data _ _ (.int _ _)⟩
    simp [Builtin.len_, h0, h1, run_underlying hd w, goInt, getObj, Sem.run, e2, e3]
   ·simp at h
  ·simp at h
theorem qcr (ns : List Int) : ∀ s : ByteArray, ns.foldl (fun r n => r.push (UInt8.ofNat n.toNat)) s = s ++ ⟨(Vs ns).toArray⟩ := by
 induction ns with
 | nil => intro s; apply ByteArray.ext; simp [Vs]
 | cons n r ih =>
   intro s
   rw [List.foldl_cons, ih]
   apply ByteArray.ext
   simp [Vs]
theorem Mo (hE : EnvOK P E) (hm : MemOK base ok G w M) {src dst : TypeId} {av : AV} {x : Value} (hv : VR G.D G.σ w av x) {k : AV → Option R} {r : R} (h : BF E M src dst av k = some r) :
  ∃ v y, k v = some r ∧ (convert src dst x).run P w = .ok y w ∧ VR G.D G.σ w v y := by
 unfold BF at h
 split at h
 ·rename_i j i hj hi
  obtain ⟨d, hd, hs, _⟩ := (hE.ty dst i hi).und
  obtain ⟨d', hd', hs', _⟩ := (hE.ty src j hj).und
  generalize hsh : i.sh = s at h hs
  split at h
  ·rw [hv.int_inv]
   rw [vj hs] at hd
   exact ⟨_, _, h, by simp [convert, run_underlying hd w, run_underlying hd' w, Conv.intToInt], .data _ _ (.int _ _)⟩
  ·rw [hv.str_inv]
   rw [gj hs] at hd
   exact ⟨_, _, h, by simp [convert, run_underlying hd w, run_underlying hd' w], .data _ _ (.str _)⟩
  ·rename_i b
   obtain ⟨A, len, cap, sz, hc, rfl⟩ := hv.vec_inv
   rw [gj hs] at hd
   generalize hsh' : j.sh = s' at h hs'
   split at h
   ·rename_i e
    rw [j5 hs'] at hd'
    have go : ∀ {l : List Int}, E.t e = E.t e → (∃ q, E.t e = some q ∧ q.sh = .int .u8) → (M[b]? = some (Blk.vec (.int .u8) l) ∨ M[b]? = some (Blk.fvec (.int .u8) l)) → cnd (qmf l) (k (.str (Vs l))) none = some r →
      ∃ v y, k v = some r ∧ (convert src dst (.slice (A.map blkA) len cap)).run P w = .ok y w ∧ VR G.D G.σ w v y := by
     intro l _ he hb h
     obtain ⟨q, hq, hq'⟩ := he
     obtain ⟨de, hde, hse, _⟩ := (hE.ty e q hq).und
     rw [hq'] at hse
     rw [vj hse] at hde
     replace h := qB h
     obtain ⟨_, h⟩ := h
     obtain ⟨hlen, hsz, _⟩ := Je hm hb hc
     refine ⟨_, .string ⟨(Vs l).toArray⟩, h, ?_, .data _ _ (.str _)⟩
     rw [run_convert_bytes_string w src dst e _ _ _ hd' hde hd]
     cases A with
     | none =>
       have hl : l = [] := by
        rcases hb with hb | hb
        ·obtain ⟨A, cap'', e1, _, e3, _⟩ := hm.blocks b _ hb; rw [hc] at e1; cases e1; exact (e3 rfl).1
        ·obtain ⟨A, cap'', e1, e2⟩ := hm.blocks b _ hb; rw [hc] at e1; cases e1
         cases l with
         | nil => rfl
         | cons q qs =>
           generalize hx : Value.slice (Option.map blkA none) (q :: qs).length cap = xx at e2
           cases e2 with
           | sl _ _ A'' _ cv hcap hA hone hr =>
             obtain ⟨a, ha', _⟩ := hA 0 (by simp)
             subst ha'
             injection hx with hx1
             simp at hx1
       subst hl
       simp [Conv.bytesToString, Vs]
       rfl
     | some c =>
       obtain ⟨_, _, h3⟩ := At.of_vec hm hb hc
       have hcells : (loadCells (blkA c) len).run P w = .ok (l.map (Value.int .u8)).toArray w := by
        have := run_loadCells_list (P := P) w (blkA c) (l.map (Value.int .u8)) (fun q v hv => by
         rw [List.getElem?_map] at hv
         cases hq : l[q]? with
         | none => simp [hq] at hv
         | some n =>
           obtain ⟨hlt, hn⟩ := List.getElem?_eq_some_iff.1 hq
           simp [hq] at hv
           obtain ⟨x, hx, _, hr⟩ := h3 q hlt 0 (by simp [Kd.cells])
           rw [add_zero] at hx
           simp only [Kd.cells, List.getElem_cons_zero] at hr
           cases hr
           rw [← hv, ← hn]
           simpa [Kd.size] using hx)
        rw [hlen]
        simpa using this
       rw [Option.map_some, run_bytesToString w _ _ _ l hcells, qcr]
       congr 2
    revert h
    generalize hsho : (E.t e).map TyI.sh = o
    generalize hbo : M[b]? = o'
    intro h
    have he : ∀ {kk : IntKind}, o = some (Sh.int kk) → ∃ q, E.t e = some q ∧ q.sh = .int kk := by
     intro kk ho
     rw [ho] at hsho
     cases hq : E.t e with
     | none => simp [hq] at hsho
     | some q => simp [hq] at hsho; exact ⟨q, rfl, hsho⟩
    split at h
    ·exact go rfl (he rfl) (.inl hbo) h
    ·exact go rfl (he rfl) (.inr hbo) h
    ·simp at h
   ·simp at h
  ·simp at h
 ·simp at h
end Go.Sx
namespace Go.Sx
open Go
open Go.RowKit (Below)
variable {P : Program} {E : Env} {base : Nat} {ok : Nat → Prop} {G : Gam} {w : GW} {M : Mem} {R : Type} {slot : Nat}
def Gam.up (G : Gam) (slot : Nat) (sb : SB) : Gam := ⟨fun b => if b = slot then sb else G.σ b, G.D⟩
theorem Gam.up_self (G : Gam) (slot : Nat) (sb : SB) : (G.up slot sb).σ slot = sb := by simp [Gam.up]
theorem Gam.up_grow {G : Gam} {slot : Nat} (h : G.σ slot = .none) (sb : SB) : ∀ b, G.σ b ≠ .none → (G.up slot sb).σ b = G.σ b := by
 intro b hb
 have : b ≠ slot := fun e => hb (e ▸ h)
 simp [Gam.up, this]
theorem vW (w : GW) (o : Obj) {c : Nat} (h : c < w.heap.size) : (w.alloc o).heap[c]? = w.heap[c]? := Below.heap_alloc w o c h
theorem j4 (w : GW) (o : Obj) : (w.alloc o).heap[w.heap.size]? = some o := by
 show (w.heap.push o)[w.heap.size]? = some o
 simp
theorem M2 (w : GW) (o : Obj) : Below w.heap.size w (w.alloc o) := (Below.refl _ _).alloc (Nat.le_refl _) o
theorem UH (hd : ∀ c, G.D c → c < w.heap.size) (o : Obj) : ∀ c, G.D c → G.D c ∧ (w.alloc o).heap[c]? = w.heap[c]? := fun c h => ⟨h, vW w o (hd c h)⟩
theorem Step.lay (hslot : G.σ slot = .none) (hd : ∀ c, G.D c → c < w.heap.size) {o : Obj} {x : Blk} {sb : SB} (hbr : BR G.D (G.up slot sb).σ (w.alloc o) sb x) (hmut : ∀ c, mutC sb x = some c → c = w.heap.size) :
  Step G w slot (some x) (G.up slot sb) (w.alloc o) := by
 refine ⟨M2 w o, fun _ h => h, fun _ h => .inl h, fun i hi => by simp [Gam.up, hi], ?_⟩
 rw [Gam.up_self]
 refine ⟨hbr, fun c hc => ?_⟩
 have := hmut c hc
 subst this
 refine ⟨Nat.le_refl _, by simp, fun h => ?_⟩
 have := hd _ h
 omega
theorem Step.cells (hslot : G.σ slot = .none) (hd : ∀ c, G.D c → c < w.heap.size) {cs : List AV} {vs : Array Value} (t : TypeId) (h : vC (VR G.D G.σ w) cs vs) :
  Step G w slot (some (.cells cs)) (G.up slot (.blk w.heap.size)) (w.alloc (.cells vs t)) := by
 refine Step.lay hslot hd ⟨w.heap.size, vs, t, rfl, j4 _ _, h.mono fun v x hv => hv.grow (UH hd _) (Gam.up_grow hslot _)⟩ (fun c hc => ?_)
 simp [mutC] at hc; exact hc.symm
theorem Mw {D : Nat → Prop} {σ : Nat → SB} {cs : List AV} {vs : Array Value} (h : zall cs vs.toList = true) : vC (VR D σ w) cs vs := by
 obtain ⟨hl, hh⟩ := zM (D := D) (w := w) h
 refine ⟨by simpa using hl.symm, fun i h1 h2 => ?_⟩
 obtain ⟨a, b⟩ := hh i h1 (by simpa using h2)
 simp only [Array.getElem_toList] at a b
 exact ⟨b, .data _ _ a⟩
theorem GX (t : TypeId) (v : Value) (w : GW) : (newVar t v).run P w = .ok ⟨w.heap.size, 0, none⟩ (w.alloc (.cells v.cells t)) := by
 simp [newVar, newRow]
theorem M5 (hE : EnvOK P E) (hslot : G.σ slot = .none) (hd : ∀ c, G.D c → c < w.heap.size) {t : TypeId} {i : TyI} (hi : E.t t = some i) :
  zr P G w slot (some (.cells i.zero)) (.ptr slot 0) (((do pure (.value (← Instr.alloc t true (.tuple #[]))) : Sem Next)).run P w) := by
 obtain ⟨z, hz, _, h1, _⟩ := jR (hE.ty t i hi) w
 have : (Instr.alloc t true (.tuple #[])).run P w = .ok (.pointer (some (blkA w.heap.size))) (w.alloc (.cells z.cells t)) := by
  simp only [Instr.alloc, Sem.run_bind, hz, Result.andThen_ok, GX, Sem.run_pure]; rfl
 simp only [Sem.run_bind, this, Result.andThen_ok, Sem.run_pure]
 refine ⟨_, Step.cells hslot hd t (Mw h1), ?_⟩
 have := VR.ptr (D := G.D) (σ := (G.up slot (.blk w.heap.size)).σ) (w := w.alloc (.cells z.cells t)) slot 0 w.heap.size (Gam.up_self ..)
 rw [add_zero] at this
 exact this
theorem qh5 {D : Nat → Prop} {σ : Nat → SB} {cs : List AV} {vs : List Value} (hl : cs.length = vs.length) (ho : ∀ v ∈ vs, v.oneCell' = true) (h : ∀ i (h1 : i < cs.length) (h2 : i < vs.length), VR D σ w cs[i] vs[i]) : vC (VR D σ w) cs vs.toArray :=
 ⟨by simp [hl], fun i h1 h2 => ⟨ho _ (by simp), by simpa using h i h1 (by simpa using h2)⟩⟩
theorem qc6 {D : Nat → Prop} {σ : Nat → SB} {v : AV} {x : Value} (h : VR D σ w v x) (ho : x.oneCell' = true) : vC (VR D σ w) [v] #[x] :=
 ⟨rfl, fun i h1 h2 => by have : i = 0 := by simp at h1; exact h1
                         subst this; exact ⟨ho, h⟩⟩
theorem ve {x : Value} (h : x.oneCell' = true) : x.cells = #[x] := by cases x <;> first | rfl | simp [Value.oneCell'] at h
theorem BJ (hslot : G.σ slot = .none) (hd : ∀ c, G.D c → c < w.heap.size) {t : TypeId} {x : Value} {cs : List AV} (h : vC (VR G.D G.σ w) cs x.cells) :
  zr P G w slot (some (.cells cs)) (.ptr slot 0) (((do pure (.value (← Instr.box t x)) : Sem Next)).run P w) := by
 have : (Instr.box t x).run P w = .ok (.pointer (some (blkA w.heap.size))) (w.alloc (.cells x.cells t)) := by
  simp only [Instr.box, Sem.run_bind, GX, Result.andThen_ok, Sem.run_pure]; rfl
 simp only [Sem.run_bind, this, Result.andThen_ok, Sem.run_pure]
 refine ⟨_, Step.cells hslot hd t h, ?_⟩
 have := VR.ptr (D := G.D) (σ := (G.up slot (.blk w.heap.size)).σ) (w := w.alloc (.cells x.cells t)) slot 0 w.heap.size (Gam.up_self ..)
 rw [add_zero] at this
 exact this
theorem Step.vec (hslot : G.σ slot = .none) (hd : ∀ c, G.D c → c < w.heap.size) {e : Kd} {l : List e.T} {vs : Array Value} {cap : Nat} (t : TypeId) (hcap : l.length ≤ cap) (hsz : vs.size = cap * e.size) (hone : ∀ v ∈ vs.toList, v.oneCell' = true)
  (h : ∀ i (h : i < l.length) j (hj : j < (e.cells l[i]).length), DR G.D w ((e.cells l[i])[j]) (vs.getD (i * e.size + j) undef)) :
  Step G w slot (some (.vec e l)) (G.up slot (.hdr (some w.heap.size) l.length cap e.size)) (w.alloc (.cells vs t)) := by
 refine Step.lay hslot hd ⟨some w.heap.size, cap, rfl, hcap, by simp, fun c hc => ?_⟩ (fun c hc => ?_)
 ·cases hc
  exact ⟨vs, t, j4 _ _, hsz, hone, fun i hi j hj => (h i hi j hj).mono (UH hd _)⟩
 ·simp [mutC] at hc; exact hc.symm
theorem VR.vec_new {D : Nat → Prop} {w' : GW} (G : Gam) (slot c len cap sz : Nat) : VR D (G.up slot (.hdr (some c) len cap sz)).σ w' (.vec slot) (.slice (some (blkA c)) len cap) := by
 have := VR.vec (D := D) (w := w') (σ := (G.up slot (.hdr (some c) len cap sz)).σ) slot (some c) len cap sz (Gam.up_self ..)
 exact this
theorem Step.nilvec (hslot : G.σ slot = .none) (e : Kd) : Step G w slot (some (.vec e [])) (G.up slot (.hdr none 0 0 e.size)) w := by
 refine ⟨Below.refl _ _, fun _ h => h, fun _ h => .inl h, fun i hi => by simp [Gam.up, hi], ?_⟩
 rw [Gam.up_self]
 exact ⟨⟨none, 0, rfl, by simp, by simp, by simp⟩, fun c hc => by simp [mutC] at hc⟩
end Go.Sx
namespace Go.Sx
open Go
open Go.RowKit (Below)
variable {P : Program} {E : Env} {base : Nat} {ok : Nat → Prop} {G : Gam} {w : GW} {M : Mem} {R : Type} {slot : Nat}
theorem YS (off : Nat) : ∀ (vs : List Value) (n : Nat) (cs : List Value), off + n + vs.length ≤ cs.length →
  ((vs.zipIdx n).foldl (fun (cs : Array Value) (p : Value × Nat) => cs.setIfInBounds (off + p.2) p.1) cs.toArray) = (cs.take (off + n) ++ vs ++ cs.drop (off + n + vs.length)).toArray
 | [], n, cs, _ => by simp
 | v :: r, n, cs, h => by
   simp only [List.zipIdx_cons, List.foldl_cons, List.length_cons] at h ⊢
   have e : cs.toArray.setIfInBounds (off + n) v = (cs.set (off + n) v).toArray := by simp
   rw [e, YS off r (n + 1) (cs.set (off + n) v) (by simp; omega)]
   congr 1
   apply List.ext_getElem?
   intro i
   simp only [List.getElem?_append, List.length_take, List.length_set, List.getElem?_take, List.getElem?_set, List.getElem?_drop, List.length_append]
   have h1 : min (off + (n + 1)) cs.length = off + n + 1 := by omega
   have h2 : min (off + n) cs.length = off + n := by omega
   rw [h1, h2]
   by_cases a : i < off + n
   ·simp [a, show i < off + n + 1 by omega, show ¬ off + n = i by omega, show i < off + n + 1 + r.length by omega, show i < off + n + (r.length + 1) by omega, show i < off + (n + 1) by omega]
   ·by_cases b : i = off + n
    ·subst b
     simp [show off + n < off + n + 1 by omega, show off + n < cs.length by omega, show off + n < off + n + 1 + r.length by omega, show off + n < off + (n + 1) by omega]
    ·by_cases c : i < off + n + 1 + r.length
     ·have : i - (off + n) = (i - (off + n + 1)) + 1 := by omega
      simp [a, show ¬ i < off + n + 1 by omega, c, show i < off + n + (r.length + 1) by omega, this]
     ·simp [a, show ¬ i < off + n + 1 by omega, c, show ¬ i < off + n + (r.length + 1) by omega, show ¬ off + n = off + (n + 1) + r.length + (i - (off + n + 1 + r.length)) by omega]
      congr 1
      omega
theorem R9 (vs : Array Value) (off : Nat) (cs : List Value) (h : off + vs.size ≤ cs.length) :
  (vs.zipIdx.foldl (fun cs (c, j) => cs.setIfInBounds (off + j) c) cs.toArray) = (cs.take off ++ vs.toList ++ cs.drop (off + vs.size)).toArray := by
 have := YS off vs.toList 0 cs (by simpa using h)
 rw [← Array.foldl_toList]
 simp only [Array.toList_zipIdx]
 simpa using this
def LR (R : AV → Value → Prop) (cs : List AV) (vs : List Value) : Prop := cs.length = vs.length ∧ ∀ i (h : i < cs.length) (h' : i < vs.length), vs[i].oneCell' = true ∧ R cs[i] vs[i]
theorem LR.append {R : AV → Value → Prop} {a c : List AV} {b d : List Value} (h : LR R a b) (h' : LR R c d) : LR R (a ++ c) (b ++ d) := by
 refine ⟨by simp [h.1, h'.1], fun i h1 h2 => ?_⟩
 by_cases hi : i < a.length
 ·have hb : i < b.length := by rw [← h.1]; exact hi
  simp only [List.getElem_append_left hi, List.getElem_append_left hb]
  exact h.2 i hi hb
 ·have hb : ¬ i < b.length := by rw [← h.1]; exact hi
  simp only [List.getElem_append_right (Nat.le_of_not_lt hi), List.getElem_append_right (Nat.le_of_not_lt hb)]
  have := h'.2 (i - a.length) (by simp at h1; omega) (by simp at h2; rw [h.1]; omega)
  simp only [h.1] at this ⊢
  exact this
theorem LR.take {R : AV → Value → Prop} {a : List AV} {b : List Value} (h : LR R a b) (n : Nat) : LR R (a.take n) (b.take n) :=
 ⟨by simp [h.1], fun i h1 h2 => by simp only [List.getElem_take]; exact h.2 i (by simp at h1; omega) (by simp at h2; omega)⟩
theorem LR.drop {R : AV → Value → Prop} {a : List AV} {b : List Value} (h : LR R a b) (n : Nat) : LR R (a.drop n) (b.drop n) :=
 ⟨by simp [h.1], fun i h1 h2 => by simp only [List.getElem_drop]; exact h.2 (n + i) (by simp at h1; omega) (by simp at h2; omega)⟩
theorem LR.of_zero {D : Nat → Prop} {σ : Nat → SB} {cs : List AV} {vs : List Value} (h : zall cs vs = true) : LR (VR D σ w) cs vs := by
 obtain ⟨hl, hh⟩ := zM (D := D) (w := w) h
 exact ⟨hl, fun i h1 h2 => ⟨(hh i h1 h2).2, .data _ _ (hh i h1 h2).1⟩⟩
theorem LR.cellsR {R : AV → Value → Prop} {cs : List AV} {vs : List Value} (h : LR R cs vs) : vC R cs vs.toArray := ⟨by simp [h.1], fun i h1 h2 => by simpa using h.2 i h1 (by simpa using h2)⟩
theorem LR.agg {D : Nat → Prop} {σ : Nat → SB} {cs : List AV} {vs : List Value} (h : LR (VR D σ w) cs vs) : VR D σ w (.agg cs) (.agg vs.toArray) :=
 .agg cs vs h.1 (fun v hv => by obtain ⟨i, hi, rfl⟩ := List.getElem_of_mem hv; exact (h.2 i (by rw [h.1]; exact hi) hi).1) fun i h1 h2 => (h.2 i h1 h2).2
def jc : AV → List AV
 | .agg vs => vs
 | v => [v]
theorem zW {D : Nat → Prop} {σ : Nat → SB} {size : Nat} {v : AV} {x : Value} (h : jM size v = true) (hv : VR D σ w v x) : x.cells.size = size ∧ LR (VR D σ w) (jc v) x.cells.toList ∧ (jc v).length = size := by
 have one : (∀ cs, v ≠ .agg cs) → (∀ cs, v ≠ .tup cs) → v ≠ .junk → v ≠ .undef → size = 1 → jc v = [v] → x.cells.size = size ∧ LR (VR D σ w) (jc v) x.cells.toList ∧ (jc v).length = size := by
  intro h1 h2 h3 h4 hs hc
  have ho := hv.one h1 h2 h3 h4
  rw [ve ho, hc, hs]
  exact ⟨rfl, ⟨rfl, fun i h1 h2 => by have : i = 0 := by simp at h1; exact h1
                                      subst this; exact ⟨ho, hv⟩⟩, rfl⟩
 cases v with
 | agg vs =>
   obtain ⟨xs, hl, ho, hh, rfl⟩ := hv.agg_inv
   have hs := Nat.eq_of_beq_eq_true (show Nat.beq vs.length size = true from h)
   refine ⟨?_, ?_, hs⟩
   ·show xs.toArray.size = size
    simp; omega
   ·show LR (VR D σ w) vs xs.toArray.toList
    exact ⟨by simpa using hl, fun i h1 h2 => ⟨ho _ (by simp), hh i h1 (by simpa using h2)⟩⟩
 | tup vs => simp [jM] at h
 | junk => simp [jM] at h
 | undef => simp [jM] at h
 | _ => exact one (by intro cs hc; cases hc) (by intro cs hc; cases hc) (by intro hc; cases hc) (by intro hc; cases hc) (Nat.eq_of_beq_eq_true h) rfl
theorem kI (cs : List AV) (off : Nat) (v : AV) (hf : off + (jc v).length ≤ cs.length) : zg cs off v = cs.take off ++ jc v ++ cs.drop (off + (jc v).length) := by
 cases v with
 | agg vs => rfl
 | _ =>
   simp only [zg, jc, List.length_singleton] at hf ⊢
   rw [List.set_eq_take_append_cons_drop, if_pos (by omega)]
   simp
theorem B8 {D : Nat → Prop} {σ : Nat → SB} {place : Nat → Option (Nat × Nat)} {cs : List AV} {vs : List Value} (h : LR (VR D σ w) cs vs) {i off size : Nat} {v : AV} {x : Value} (hp : place i = some (off, size)) (hf : jM size v = true) (hv : VR D σ w v x) (hle : off + size ≤ cs.length) (rest : List (Nat × Value)) :
  ∃ vs', LR (VR D σ w) (zg cs off v) vs' ∧ (zg cs off v).length = cs.length ∧ Instr.fill place vs.toArray ((i, x) :: rest) = Instr.fill place vs'.toArray rest := by
 obtain ⟨h1, h2, h3⟩ := zW hf hv
 refine ⟨vs.take off ++ x.cells.toList ++ vs.drop (off + x.cells.size), ?_, ?_, ?_⟩
 ·rw [kI _ _ _ (by rw [h3]; exact hle), h3, h1]
  exact ((h.take off).append h2).append (h.drop (off + size))
 ·rw [kI _ _ _ (by rw [h3]; exact hle)]
  simp
  omega
 ·simp only [Instr.fill, hp]
  rw [if_neg (by simp [h1, h.1] at hle ⊢; have := h.1; omega), R9 _ _ _ (by rw [h1, ← h.1]; exact hle)]
theorem Qk (hE : EnvOK P E) {fs : List (Nat × TypeId)} {ev : Operand → AV} {ρ : Operand → Value} {D : Nat → Prop} {σ : Nat → SB} (hev : ∀ x, VR D σ w (ev x) (ρ x)) {place : Nat → Option (Nat × Nat)}
  (hplace : ∀ i f fi, fs[i]? = some f → E.t f.2 = some fi → place i = some (f.1, fi.size)) : ∀ (parts : List (Nat × Operand)) (cs : List AV) (vs : List Value) (cs' : List AV), LR (VR D σ w) cs vs → QY E fs ev cs parts = some cs' →
  ∃ vs', LR (VR D σ w) cs' vs' ∧ Instr.fill place vs.toArray (parts.map fun (i, x) => (i, ρ x)) = some vs'.toArray
 | [], cs, vs, cs', h, hb => by simp [QY] at hb; subst hb; exact ⟨vs, h, rfl⟩
 | p :: r, cs, vs, cs', h, hb => by
   simp only [QY] at hb
   split at hb
   ·rename_i f hf
    split at hb
    ·rename_i fi hfi
     replace hb := qr hb
     obtain ⟨hc, hb⟩ := hb
     simp only [Bool.and_eq_true] at hc
     obtain ⟨vs1, h1, _, h3⟩ := B8 h (hplace _ _ _ hf hfi) hc.1 (hev p.2) (Nat.le_of_ble_eq_true hc.2) (r.map fun (i, x) => (i, ρ x))
     obtain ⟨vs', h4, h5⟩ := Qk hE hev hplace r _ vs1 cs' h1 hb
     exact ⟨vs', h4, by rw [List.map_cons, h3, h5]⟩
    ·simp at hb
   ·simp at hb
theorem vz {size : Nat} {ev : Operand → AV} {ρ : Operand → Value} {D : Nat → Prop} {σ : Nat → SB} (hev : ∀ x, VR D σ w (ev x) (ρ x)) : ∀ (parts : List (Nat × Operand)) (cs : List AV) (vs : List Value) (cs' : List AV), LR (VR D σ w) cs vs → kK size ev cs parts = some cs' →
  ∃ vs', LR (VR D σ w) cs' vs' ∧ Instr.fill (fun i => some (i * size, size)) vs.toArray (parts.map fun (i, x) => (i, ρ x)) = some vs'.toArray
 | [], cs, vs, cs', h, hb => by simp [kK] at hb; subst hb; exact ⟨vs, h, rfl⟩
 | p :: r, cs, vs, cs', h, hb => by
   simp only [kK] at hb
   replace hb := qr hb
   obtain ⟨hc, hb⟩ := hb
   simp only [Bool.and_eq_true] at hc
   obtain ⟨vs1, h1, _, h3⟩ := B8 (place := fun i => some (i * size, size)) h (i := p.1) rfl hc.1 (hev p.2) (Nat.le_of_ble_eq_true hc.2) (r.map fun (i, x) => (i, ρ x))
   obtain ⟨vs', h4, h5⟩ := vz hev r _ vs1 cs' h1 hb
   exact ⟨vs', h4, by rw [List.map_cons, h3, h5]⟩
theorem JT (hE : EnvOK P E) {w : GW} : ∀ (fs : List Field), (∀ f ∈ fs, ∃ n, P.info? f.type = some n) → (fs.mapM fun f => do pure (f.offset, ← sizeOf f.type) : Sem (List (Nat × Nat))).run P w = .ok (fs.map fun f => (f.offset, P.cellsOf f.type)) w
 | [], _ => rfl
 | f :: r, h => by
   obtain ⟨n, hn⟩ := h f (by simp)
   have ih := JT hE (w := w) r (fun g hg => h g (by simp [hg]))
   have hs : (sizeOf f.type).run P w = .ok n.size w := by simp [sizeOf, typeInfo, hn]
   rw [List.mapM_cons]
   simp only [Sem.run_bind, hs, Result.andThen_ok, Sem.run_pure, ih, List.map_cons]
   simp [Program.cellsOf, hn]
theorem Zh (hE : EnvOK P E) {ev : Operand → AV} {ρ : Operand → Value} (hev : ∀ x, VR G.D G.σ w (ev x) (ρ x)) {t : TypeId} {i : TyI} (hi : E.t t = some i) {gs : List (Nat × TypeId)} (hsh : i.sh = .st gs) {parts : Array (Nat × Operand)} {cs : List AV} (h : QY E gs ev i.zero parts.toList = some cs) :
  ∃ y, (Instr.build t (parts.map fun (i, x) => (i, ρ x))).run P w = .ok y w ∧ VR G.D G.σ w (.agg cs) y := by
 obtain ⟨d, hd, hs, _⟩ := (hE.ty t i hi).und
 rw [hsh] at hs
 obtain ⟨fs, rfl, hf⟩ := Zu hs
 obtain ⟨hl, hh⟩ := gA hf
 obtain ⟨z, hz, _, hz1, _⟩ := jR (hE.ty t i hi) w
 have hinfo : ∀ f ∈ fs.toList, ∃ n, P.info? f.type = some n := by
  intro f hf'
  obtain ⟨q, hq, rfl⟩ := List.getElem_of_mem hf'
  obtain ⟨_, _, n, hn, _⟩ := hh q hq (by omega)
  exact ⟨n, hn⟩
 have hpl := JT hE (w := w) fs.toList hinfo
 have hplA : (fs.mapM fun f => do pure (f.offset, ← sizeOf f.type) : Sem (Array (Nat × Nat))).run P w = .ok (fs.toList.map fun f => (f.offset, P.cellsOf f.type)).toArray w := by
  rw [Array.mapM_eq_mapM_toList]
  simp only [Sem.run_map, hpl, Result.andThen_ok]
 obtain ⟨vs', h1, h2⟩ := Qk hE hev (place := fun q => ((fs.toList.map fun f => (f.offset, P.cellsOf f.type)).toArray)[q]?) (fun q f fi hq hfi => by
  obtain ⟨hlt, rfl⟩ := List.getElem?_eq_some_iff.1 hq
  obtain ⟨e1, e2, n, hn, _⟩ := hh q (by omega) hlt
  obtain ⟨n', _, hn', hs', _⟩ := (hE.ty _ fi hfi).info
  have hlt' : q < fs.size := by have := hl; simp at this; omega
  simp only [List.getElem?_toArray, List.getElem?_map, Array.getElem?_toList, Array.getElem?_eq_getElem hlt', Option.map_some]
  have e1' : fs[q].offset = gs[q].1 := by simpa using e1
  have e2' : fs[q].type = gs[q].2 := by simpa using e2
  rw [e1', e2']
  simp [Program.cellsOf, hn', hs']) parts.toList i.zero z.cells.toList cs (LR.of_zero hz1) h
 refine ⟨.agg vs'.toArray, ?_, h1.agg⟩
 have h2' : Instr.fill (fun q => ((fs.toList.map fun f => (f.offset, P.cellsOf f.type)).toArray)[q]?) z.cells (parts.map fun (i, x) => (i, ρ x)).toList = some vs'.toArray := by
  rw [Array.toList_map]; simpa using h2
 unfold Instr.build
 simp only [Sem.run_bind, hz, Result.andThen_ok, run_underlying hd w, hplA]
 rw [h2']
 rfl
theorem VQ (hE : EnvOK P E) {ev : Operand → AV} {ρ : Operand → Value} (hev : ∀ x, VR G.D G.σ w (ev x) (ρ x)) {t : TypeId} {i : TyI} (hi : E.t t = some i) {n : Nat} {et : TypeId} (hsh : i.sh = .arr n et) {ei : TyI} (hei : E.t et = some ei) {parts : Array (Nat × Operand)} {cs : List AV} (h : kK ei.size ev i.zero parts.toList = some cs) :
  ∃ y, (Instr.build t (parts.map fun (i, x) => (i, ρ x))).run P w = .ok y w ∧ VR G.D G.σ w (.agg cs) y := by
 obtain ⟨d, hd, hs, _⟩ := (hE.ty t i hi).und
 rw [hsh] at hs
 rw [kq hs] at hd
 obtain ⟨z, hz, _, hz1, _⟩ := jR (hE.ty t i hi) w
 obtain ⟨vs', h1, h2⟩ := vz hev parts.toList i.zero z.cells.toList cs (LR.of_zero hz1) h
 refine ⟨.agg vs'.toArray, ?_, h1.agg⟩
 have h2' : Instr.fill (fun i => some (i * ei.size, ei.size)) z.cells (parts.map fun (i, x) => (i, ρ x)).toList = some vs'.toArray := by
  rw [Array.toList_map]; simpa using h2
 unfold Instr.build
 simp only [Sem.run_bind, hz, Result.andThen_ok, run_underlying hd w, qP (hE.ty et ei hei) w]
 rw [h2']
 rfl
end Go.Sx
namespace Go.Sx
open Go
open Go.RowKit (Below)
variable {P : Program} {E : Env} {base : Nat} {ok : Nat → Prop} {G : Gam} {w : GW} {M : Mem} {R : Type} {slot : Nat}
theorem UM {ρ : Operand → Value} {size : Nat} : ∀ (parts : List (Nat × Operand)) (k : Nat) (pre rest : List Value), ZL k parts = true → (∀ p ∈ parts, (ρ p.2).cells.size = size) → pre.length = k * size → rest.length = parts.length * size →
  Instr.fill (fun i => some (i * size, size)) (pre ++ rest).toArray (parts.map fun (i, x) => (i, ρ x)) = some (pre ++ (parts.map fun p => (ρ p.2).cells.toList).flatten).toArray
 | [], k, pre, rest, _, _, _, h => by
   have : rest = [] := List.length_eq_zero_iff.1 (by simpa using h)
   subst this
   simp [Instr.fill]
 | p :: r, k, pre, rest, ho, hf, hp, hr => by
   simp only [ZL, Bool.and_eq_true] at ho
   have hk : p.1 = k := Nat.eq_of_beq_eq_true ho.1
   have hc : (ρ p.2).cells.size = size := hf p (by simp)
   have hr' : rest.length = r.length * size + size := by simp [Nat.add_mul] at hr; exact hr
   have hl : k * size + (ρ p.2).cells.size ≤ (pre ++ rest).length := by simp; omega
   simp only [List.map_cons, Instr.fill, hk]
   rw [if_neg (by simp [hc]; omega), R9 _ _ _ hl]
   have e1 : (pre ++ rest).take (k * size) = pre := by rw [← hp]; simp
   have e2 : (pre ++ rest).drop (k * size + (ρ p.2).cells.size) = rest.drop size := by rw [← hp, hc]; simp [List.drop_append]
   rw [e1, e2, UM r (k + 1) (pre ++ (ρ p.2).cells.toList) (rest.drop size) ho.2 (fun q hq => hf q (by simp [hq])) (by simp [hp, hc, Nat.add_mul]) (by simp; omega)]
   simp
theorem V5 {size : Nat} : ∀ (ls : List (List Value)), (∀ l ∈ ls, l.length = size) → ls.flatten.length = ls.length * size
 | [], _ => by simp
 | l :: r, h => by
   have := V5 r fun x hx => h x (by simp [hx])
   simp only [List.flatten_cons, List.length_append, List.length_cons, Nat.add_mul, this, h l (by simp)]
   omega
theorem V6 {size : Nat} : ∀ (ls : List (List Value)), (∀ l ∈ ls, l.length = size) → ∀ (i : Nat) (hi : i < ls.length) (j : Nat), j < size → ls.flatten[i * size + j]? = (ls[i])[j]?
 | [], _, i, hi, _, _ => by simp at hi
 | l :: r, h, 0, hi, j, hj => by
   have := h l (by simp)
   simp only [List.flatten_cons, Nat.zero_mul, Nat.zero_add, List.getElem_cons_zero]
   rw [List.getElem?_append_left (by omega)]
 | l :: r, h, i + 1, hi, j, hj => by
   have hl := h l (by simp)
   simp only [List.flatten_cons, List.getElem_cons_succ]
   rw [List.getElem?_append_right (by rw [Nat.add_mul]; omega), hl, ← V6 r (fun x hx => h x (by simp [hx])) i (by simpa using hi) j hj]
   congr 1
   rw [Nat.add_mul]; omega
theorem qj6 {D : Nat → Prop} {w : GW} {k : Kd} {y : k.T} {x : Value} (h : DR D w (k.of y) x) : LR (DR D w) (k.cells y) x.cells.toList := by
 have one : ∀ (v : AV) (x : Value), DR D w v x → x.oneCell' = true → LR (DR D w) [v] x.cells.toList := by
  intro v x h ho
  rw [ve ho]
  exact ⟨rfl, fun i h1 h2 => by have : i = 0 := by simp at h1; exact h1
                                subst this; exact ⟨ho, h⟩⟩
 cases k with
 | st s =>
   cases h with
   | agg _ vs hl ho hh =>
     show LR (DR D w) (s.cells y) vs.toArray.toList
     exact ⟨by simpa using hl, fun i h1 h2 => ⟨ho _ (by simp), by simpa using hh i h1 (by simpa using h2)⟩⟩
 | int k => exact one _ _ h (by cases h; rfl)
 | bool => exact one _ _ h (by cases h; rfl)
 | str => exact one _ _ h (by cases h; rfl)
 | sl e => exact one _ _ h (by cases h; rfl)
theorem ZW {e : Kd} : ∀ {vs : List AV} {l : List e.T}, Jv e vs = some l → vs.length = l.length ∧ ∀ i (h : i < vs.length) (h' : i < l.length), (vs[i]).as e = some l[i]
 | [], l, h => by simp [Jv] at h; subst h; exact ⟨rfl, fun i h => by simp at h⟩
 | v :: r, l, h => by
   simp only [Jv, Option.bind_eq_some_iff, Option.some.injEq] at h
   obtain ⟨a, ha, b, hb, rfl⟩ := h
   obtain ⟨hl, hh⟩ := ZW hb
   refine ⟨by simp [hl], fun i h1 h2 => ?_⟩
   cases i with
   | zero => exact ha
   | succ i => exact hh i (by simpa using h1) (by simpa using h2)
theorem qcs (v : AV) (r : List AV) : ZQ (v :: r) = jc v ++ ZQ r := by cases v <;> rfl
theorem Md {D : Nat → Prop} {σ : Nat → SB} {size : Nat} {ev : Operand → AV} {ρ : Operand → Value} (hev : ∀ x, VR D σ w (ev x) (ρ x)) : ∀ (parts : List (Nat × Operand)), (parts.all (fun p => jM size (ev p.2))) = true →
  LR (VR D σ w) (ZQ (parts.map fun p => ev p.2)) (parts.map fun p => (ρ p.2).cells.toList).flatten
 | [], _ => ⟨rfl, fun i h => by simp [ZQ] at h⟩
 | p :: r, h => by
   simp only [List.all_cons, Bool.and_eq_true] at h
   simp only [List.map_cons, qcs, List.flatten_cons]
   exact (zW h.1 (hev p.2)).2.1.append (Md hev r h.2)
theorem Vb (hE : EnvOK P E) (hm : MemOK base ok G w M) (hslot : G.σ slot = .none) {ev : Operand → AV} {ρ : Operand → Value} (hev : ∀ x, VR G.D G.σ w (ev x) (ρ x)) {t : TypeId} {len : Nat} {parts : Array (Nat × Operand)} {i ei : TyI} {et : TypeId} (hi : E.t t = some i) (hsh : i.sh = .sl et) (hei : E.t et = some ei)
  (ho : ZL 0 parts.toList = true) (hn : parts.toList.length = len) (h1000 : len * ei.size ≤ 1000) (hpos : 0 < ei.size) (hfit : (parts.toList.all fun p => jM ei.size (ev p.2)) = true) :
  (∀ (kd : Kd) (vs : List AV) (l : List kd.T), ei.kd = some kd → jX M (parts.toList.map fun p => ev p.2) = some vs → Jv kd vs = some l →
   zr P G w slot (some (.vec kd l)) (.vec slot) (((do pure (.value (← Instr.buildSlice t len (parts.map fun (i, x) => (i, ρ x)))) : Sem Next)).run P w)) ∧
  zr P G w slot (some (.cells (ZQ (parts.toList.map fun p => ev p.2)))) (.csl slot 0 len) (((do pure (.value (← Instr.buildSlice t len (parts.map fun (i, x) => (i, ρ x)))) : Sem Next)).run P w) := by
 obtain ⟨d, hd, hs, _⟩ := (hE.ty t i hi).und
 rw [hsh] at hs
 rw [j5 hs] at hd
 obtain ⟨z, hz, _, hz1, hz2⟩ := jR (hE.ty et ei hei) w
 have hcells : ∀ p ∈ parts.toList, (ρ p.2).cells.size = ei.size := fun p hp => (zW (List.all_eq_true.1 hfit p hp) (hev p.2)).1
 let ls : List (List Value) := parts.toList.map fun p => (ρ p.2).cells.toList
 have hls : ∀ l ∈ ls, l.length = ei.size := by
  intro l hl
  simp only [ls, List.mem_map] at hl
  obtain ⟨p, hp, rfl⟩ := hl
  simpa using hcells p hp
 have hlsl : ls.length = len := by simp [ls, ← hn]
 have hrun : (Instr.buildSlice t len (parts.map fun (i, x) => (i, ρ x))).run P w = .ok (.slice (some (blkA w.heap.size)) len len) (w.alloc (.cells ls.flatten.toArray et)) := by
  unfold Instr.buildSlice
  simp only [Sem.run_bind, run_underlying hd w, Result.andThen_ok, qP (hE.ty et ei hei) w]
  rw [if_neg (by omega)]
  have hfill : ∀ zero : Array Value, Instr.fill (fun i => some (i * ei.size, ei.size)) ((Array.range (len * ei.size)).map (zero[· % zero.size]!)) (parts.map fun (i, x) => (i, ρ x)).toList = some ls.flatten.toArray := by
   intro zero
   have := UM (ρ := ρ) (size := ei.size) parts.toList 0 [] ((Array.range (len * ei.size)).map (zero[· % zero.size]!)).toList ho hcells (by simp) (by simp [← hn])
   rw [List.nil_append, List.nil_append, Array.toArray_toList] at this
   rw [Array.toList_map]
   exact this
  by_cases h0 : len * ei.size = 0
  ·rw [if_pos h0]
   simp only [Sem.run_pure, Result.andThen_ok, Sem.run_bind, hfill]
   simp [newRow, newObj, Sem.run, blkA]
  ·rw [if_neg h0]
   simp only [Sem.run_bind, hz, Sem.run_pure, Result.andThen_ok, hfill]
   simp [newRow, newObj, Sem.run, blkA]
 constructor
 ·intro kd vs l hkd hvs hl
  obtain ⟨e1, e2⟩ := jW hm hvs
  obtain ⟨e3, e4⟩ := ZW hl
  have hks : kd.size = ei.size := (hz2 kd hkd).1
  have hll : l.length = len := by rw [← e3, ← e1]; simpa using hn
  simp only [Sem.run_bind, hrun, Result.andThen_ok, Sem.run_pure]
  have hstep := Step.vec (slot := slot) (w := w) hslot hm.dlt (e := kd) (l := l) (vs := ls.flatten.toArray) (cap := len) et (by omega) (by simp only [List.size_toArray]; rw [V5 ls hls, hlsl, hks]) (by
   intro v hv
   simp only [ls, List.mem_flatten, List.mem_map] at hv
   obtain ⟨c, ⟨p, hp, rfl⟩, hv⟩ := hv
   obtain ⟨_, h2, _⟩ := zW (List.all_eq_true.1 hfit p hp) (hev p.2)
   obtain ⟨q, hq, rfl⟩ := List.getElem_of_mem hv
   exact (h2.2 q (by rw [h2.1]; exact hq) hq).1) (by
   intro q hq j hj
   have hj' : j < ei.size := by rw [← hks]; exact jm hq hj
   have hq1 : q < vs.length := by omega
   have hq2 : q < parts.toList.length := by omega
   have h5 := e2 q (by simpa using hq2) hq1 (ρ (parts.toList[q]).2) (by simpa using hev _)
   have h6 := qj6 (AV.as_as (e4 q hq1 hq) _ _ _ h5)
   have h7 := V6 ls hls q (by omega) j hj'
   have hjc : j < (ρ (parts.toList[q]).2).cells.toList.length := by rw [← h6.1]; exact hj
   have h8 : ls.flatten.toArray.getD (q * kd.size + j) undef = (ρ (parts.toList[q]).2).cells.toList[j] := by
    rw [hks, Array.getD_eq_getD_getElem?]
    simp only [List.getElem?_toArray, h7]
    simp only [ls, List.getElem_map]
    rw [List.getElem?_eq_getElem hjc]; rfl
   rw [h8]
   exact (h6.2 j hj hjc).2)
  rw [hll] at hstep
  exact ⟨_, hstep, VR.vec_new ..⟩
 ·simp only [Sem.run_bind, hrun, Result.andThen_ok, Sem.run_pure]
  have hLR : LR (VR G.D G.σ w) (ZQ (parts.toList.map fun p => ev p.2)) ls.flatten := Md hev parts.toList hfit
  refine ⟨_, Step.cells hslot hm.dlt et hLR.cellsR, ?_⟩
  have := VR.csl (D := G.D) (σ := (G.up slot (.blk w.heap.size)).σ) (w := w.alloc (.cells ls.flatten.toArray et)) slot 0 len w.heap.size (Gam.up_self ..) len (Nat.le_refl _)
  rw [add_zero] at this
  exact this
theorem VL (hE : EnvOK P E) (hm : MemOK base ok G w M) (hslot : G.σ slot = .none) {t : TypeId} {i ei : TyI} {et : TypeId} (hi : E.t t = some i) (hsh : i.sh = .sl et) (hei : E.t et = some ei) {kd : Kd} (hkd : ei.kd = some kd) {n m : Int} (h0 : 0 ≤ n) (hnm : n ≤ m) (hb : m * ei.bytes < 281474976710657) (hbp : 0 < ei.bytes) :
  zr P G w slot (some (.vec kd (lrep n kd.zero))) (.vec slot) (((do pure (.value (← Instr.makeSlice t (.int .i64 n) (.int .i64 m))) : Sem Next)).run P w) := by
 obtain ⟨d, hd, hs, _⟩ := (hE.ty t i hi).und
 rw [hsh] at hs
 rw [j5 hs] at hd
 obtain ⟨ni, z, hn, hsz, hby, hz, _, _, hz2⟩ := (hE.ty et ei hei).info
 obtain ⟨hks, hz3⟩ := hz2 kd hkd
 have h63 : m ≤ 9223372036854775807 := by
  have : m * 1 ≤ m * ei.bytes := Int.mul_le_mul_of_nonneg_left (by omega) (by omega)
  omega
 have hrun := run_make (P := P) w t et ni z hd hn hz .i64 .i64 n m h0 hnm (by rw [hby, Int.mul_comm]; omega) (by omega)
 simp only [Sem.run_bind, hrun, Result.andThen_ok, Sem.run_pure]
 obtain ⟨hzl, hzz⟩ := zM (D := G.D) (w := w) hz3
 have hzs : z.cells.size = kd.size := by rw [Kd.cells_length] at hzl; simpa using hzl.symm
 have hget : ∀ q, q < m.toNat * ni.size → (madeCells z.cells (m.toNat * ni.size)).getD q undef = z.cells[q % z.cells.size]! := by
  intro q hq
  simp [madeCells, Array.getD_eq_getD_getElem?, hq]
 have hlen : (lrep n kd.zero).length = n.toNat := by simp [lrep]
 have hstep := Step.vec (slot := slot) (w := w) hslot hm.dlt (e := kd) (l := lrep n kd.zero) (vs := madeCells z.cells (m.toNat * ni.size)) (cap := m.toNat) et (by rw [hlen]; omega) (by rw [size_madeCells, hks, hsz]) (by
  intro v hv
  simp only [madeCells, Array.toList_map, List.mem_map] at hv
  obtain ⟨q, hq, rfl⟩ := hv
  have hq' : q < m.toNat * ni.size := by simpa using hq
  have hpos : 0 < z.cells.size := by
   rw [hzs, hks, ← hsz]
   rcases Nat.eq_zero_or_pos ni.size with h | h
   ·rw [h] at hq'; simp at hq'
   ·exact h
  have hlt := Nat.mod_lt q hpos
  rw [getElem!_pos z.cells _ hlt]
  have := (hzz (q % z.cells.size) (by rw [hzl]; simpa using hlt) (by simpa using hlt)).2
  simpa using this) (by
  intro q hq j hj
  have hj' : j < kd.size := jm hq hj
  rw [hlen] at hq
  have hin : q * kd.size + j < m.toNat * ni.size := by
   have : (q + 1) * kd.size ≤ m.toNat * kd.size := Nat.mul_le_mul_right _ (by omega)
   rw [Nat.add_mul] at this
   rw [hsz, ← hks]
   omega
  rw [hget _ hin, hzs]
  have e : (q * kd.size + j) % kd.size = j := by rw [Nat.mul_comm, Nat.mul_add_mod, Nat.mod_eq_of_lt hj']
  rw [e, getElem!_pos z.cells j (by omega)]
  have hlz : (lrep n kd.zero)[q]'(by rw [hlen]; exact hq) = kd.zero := by simp [lrep]
  have h9 := (hzz j (by rw [Kd.cells_length]; exact hj') (by simpa [hzs] using hj')).1
  simp only [hlz]
  simpa using h9)
 rw [hlen] at hstep
 exact ⟨_, hstep, VR.vec_new ..⟩
end Go.Sx
namespace Go.Sx
open Go
open Go.RowKit (Below)
variable {P : Program} {E : Env} {base : Nat} {ok : Nat → Prop} {G : Gam} {w : GW} {M : Mem} {R : Type} {slot : Nat}
theorem jd (kk : IntKind) (a b : Int) : Instr.sameNow (.int kk) (.int kk a) (.int kk b) = some (decide (a = b)) := by
 simp only [Instr.sameNow, if_true]
 congr 1
theorem QQ {kk : IntKind} {kv : Kd} (n : Int) : ∀ (l : List ((Kd.int kk).T × kv.T)) (es : List MapEntry) (q : Nat), es.length = l.length → (∀ i (h : i < l.length) (h' : i < es.length), es[i].key = .int kk l[i].1) →
  ∃ r, Instr.findNow (.int kk) (.int kk n) es q = some r ∧ (match r with | none => jq l n = none | some p => ∃ i, ∃ h : i < l.length, ∃ h' : i < es.length, jq l n = some l[i].2 ∧ p.2 = es[i].val ∧ p.1 = q + i ∧ l[i].1 = n)
 | [], [], q, _, _ => ⟨none, rfl, rfl⟩
 | [], _ :: _, q, h, _ => by simp at h
 | _ :: _, [], q, h, _ => by simp at h
 | p :: l, e :: es, q, hl, hk => by
   have h0 : e.key = .int kk p.1 := hk 0 (by simp) (by simp)
   by_cases hn : n = p.1
   ·refine ⟨some (q, e.val), ?_, 0, by simp, by simp, ?_, rfl, rfl, hn.symm⟩
    ·simp only [Instr.findNow, h0, jd, decide_eq_true hn]
    ·simp [jq, List.find?, Kd.beq, hn]
   ·obtain ⟨r, h1, h2⟩ := QQ n l es (q + 1) (by simpa using hl) (fun i h h' => hk (i + 1) (by simpa using h) (by simpa using h'))
    have e1 : Instr.findNow (.int kk) (.int kk n) (e :: es) q = some r := by
     simp only [Instr.findNow, h0, jd, decide_eq_false hn]
     exact h1
    have e2 : jq (kk := .int kk) (kv := kv) (p :: l) n = jq (kk := .int kk) (kv := kv) l n := by
     simp [jq, List.find?, Kd.beq, hn]
    refine ⟨r, e1, ?_⟩
    rw [e2]
    cases r with
    | none => exact h2
    | some p' =>
      obtain ⟨i, a, b, c, d, f, g⟩ := h2
      exact ⟨i + 1, by simpa using a, by simpa using b, by simpa using c, by simpa using d, by omega, by simpa using g⟩
theorem Ut {kk : IntKind} {z : AV} {n : Int} {okf : Bool} {k : AV → Option R} {r : R} : ∀ (ks vs : List AV), Qt kk z (.int kk n) okf k ks vs = some r → ∀ (es : List MapEntry) (q : Nat), es.length = ks.length → es.length = vs.length →
  (∀ i (h : i < ks.length) (h' : i < es.length), VR G.D G.σ w ks[i] es[i].key) → (∀ i (h : i < vs.length) (h' : i < es.length), VR G.D G.σ w vs[i] es[i].val) →
  ∃ v a, Instr.findNow (.int kk) (.int kk n) es q = some a ∧ k (bif okf then .tup [v, .bool a.isSome] else v) = some r ∧ (match a with | none => v = z | some p => VR G.D G.σ w v p.2)
 | [], [], h, es, q, hl, _, _, _ => by
   have : es = [] := List.length_eq_zero_iff.1 (by simpa using hl)
   subst this
   exact ⟨z, none, rfl, h, rfl⟩
 | [], _ :: _, h, _, _, _, _, _, _ => by simp [Qt] at h
 | v :: _, [], h, _, _, _, _, _, _ => by cases v <;> simp [Qt] at h
 | y :: ks, v :: vs, h, es, q, hl, hl', hk, hv => by
   cases es with
   | nil => simp at hl
   | cons e es =>
     unfold Qt at h
     split at h
     ·rename_i kk' m _ _ _ he1 he2
      cases he1; cases he2
      replace h := qr h
      obtain ⟨hkk, h⟩ := h
      have hkk' : kk = kk' := by simpa using hkk
      subst hkk'
      have h0 : e.key = .int kk m := (hk 0 (by simp) (by simp)).int_inv
      simp only [AV.asInt, if_true, Option.bind_some] at h
      by_cases hn : n = m
      ·subst hn
       simp only [cnd, ieq, decide_true, cond_true] at h
       refine ⟨v, some (q, e.val), ?_, h, hv 0 (by simp) (by simp)⟩
       simp only [Instr.findNow, h0, jd, decide_true]
      ·simp only [cnd, ieq, decide_eq_false hn, cond_false] at h
       obtain ⟨v', a, h1, h2, h3⟩ := Ut ks vs h es (q + 1) (by simpa using hl) (by simpa using hl') (fun i h h' => hk (i + 1) (by simpa using h) (by simpa using h')) (fun i h h' => hv (i + 1) (by simpa using h) (by simpa using h'))
       refine ⟨v', a, ?_, h2, h3⟩
       simp only [Instr.findNow, h0, jd, decide_eq_false hn]
       exact h1
     ·rename_i he _; cases he
     ·simp at h
theorem V7 {kk kk0 : IntKind} {n : Int} : ∀ (es : List MapEntry) (q : Nat), (∀ e ∈ es, ∃ m, e.key = .int kk0 m) → (es.map (·.key)).Nodup → ∀ (r : Option (Nat × Value)), Instr.findNow (.int kk) (.int kk n) es q = some r →
  match r with | none => ∀ e ∈ es, ∃ m, e.key = .int kk m ∧ m ≠ n | some p => ∃ e ∈ es, e.key = .int kk n ∧ e.val = p.2
 | [], q, _, _, r, h => by
   simp only [Instr.findNow, Option.some.injEq] at h
   subst h
   exact fun e he => by simp at he
 | e :: es, q, hk, hn, r, h => by
   obtain ⟨m, hm⟩ := hk e (by simp)
   unfold Instr.findNow at h
   by_cases hkk : kk0 = kk
   ·subst hkk
    by_cases hnm : n = m
    ·subst hnm
     simp only [hm, jd, decide_true, Option.some.injEq] at h
     subst h
     exact ⟨e, by simp, hm, rfl⟩
    ·simp only [hm, jd, decide_eq_false hnm] at h
     have := V7 es (q + 1) (fun e' he' => hk e' (List.mem_cons_of_mem _ he')) (by simp only [List.map_cons, List.nodup_cons] at hn; exact hn.2) r h
     cases r with
     | none =>
       intro e' he'
       rcases List.mem_cons.1 he' with rfl | he'
       ·exact ⟨m, hm, fun hh => hnm hh.symm⟩
       ·exact this e' he'
     | some p =>
       obtain ⟨e', h1, h2⟩ := this
       exact ⟨e', List.mem_cons_of_mem _ h1, h2⟩
   ·rw [hm] at h
    simp [Instr.sameNow, show ¬ kk = kk0 from fun hh => hkk hh.symm] at h
theorem V8 {kk : IntKind} {n : Int} : ∀ (es : List MapEntry) (q : Nat), (∀ e ∈ es, ∃ m, e.key = .int kk m) → (es.map (·.key)).Nodup → ∀ e ∈ es, e.key = .int kk n → ∃ p, Instr.findNow (.int kk) (.int kk n) es q = some (some p) ∧ p.2 = e.val
 | [], q, _, _, e, he, _ => by simp at he
 | e0 :: es, q, hk, hn, e, he, hen => by
   obtain ⟨m, hm⟩ := hk e0 (by simp)
   simp only [List.map_cons, List.nodup_cons] at hn
   unfold Instr.findNow
   by_cases hnm : n = m
   ·subst hnm
    simp only [hm, jd, decide_true]
    refine ⟨(q, e0.val), rfl, ?_⟩
    rcases List.mem_cons.1 he with rfl | he
    ·rfl
    ·exact absurd (List.mem_map.2 ⟨e, he, hen.trans hm.symm⟩) hn.1
   ·simp only [hm, jd, decide_eq_false hnm]
    rcases List.mem_cons.1 he with rfl | he
    ·rw [hm] at hen
     cases hen
     exact absurd rfl hnm
    ·exact V8 es (q + 1) (fun e' he' => hk e' (List.mem_cons_of_mem _ he')) hn.2 e he hen
theorem JN {kk : IntKind} {n : Int} : ∀ (es : List MapEntry) (q : Nat), (∀ e ∈ es, ∃ m, e.key = .int kk m ∧ m ≠ n) → Instr.findNow (.int kk) (.int kk n) es q = some none
 | [], q, _ => rfl
 | e :: es, q, h => by
   obtain ⟨m, hm, hne⟩ := h e (by simp)
   simp only [Instr.findNow, hm, jd, decide_eq_false (fun hh : n = m => hne hh.symm)]
   exact JN es (q + 1) fun e' he' => h e' (List.mem_cons_of_mem _ he')
theorem Rb {kk kk0 : IntKind} {n : Int} {l es : List MapEntry} (hp : l.Perm es) (hk : ∀ e ∈ l, ∃ m, e.key = .int kk0 m) (hn : (l.map (·.key)).Nodup) {q : Nat} {r : Option (Nat × Value)} (h : Instr.findNow (.int kk) (.int kk n) l q = some r) :
  ∃ r', Instr.findNow (.int kk) (.int kk n) es 0 = some r' ∧ r.map Prod.snd = r'.map Prod.snd := by
 have hm := V7 l q hk hn r h
 cases r with
 | none => exact ⟨none, JN es 0 fun e he => hm e (hp.mem_iff.2 he), rfl⟩
 | some p =>
   obtain ⟨e, he, h1, h2⟩ := hm
   obtain ⟨m0, hm0⟩ := hk e he
   rw [h1] at hm0
   cases hm0
   obtain ⟨p', h3, h4⟩ := V8 (kk := kk) (n := n) es 0 (fun e' he' => hk e' (hp.mem_iff.2 he')) ((hp.map _).nodup_iff.1 hn) e (hp.mem_iff.1 he) h1
   exact ⟨some p', h3, by simp [h2, h4]⟩
theorem GY {xt kt et : TypeId} {kk : IntKind} (hm : P.underlying xt = some (.map kt et)) (hd : P.underlying kt = some (.int kk)) {c : Nat} {es : Array MapEntry} {clock : Nat} (hb : w.heap[c]? = some (.map es clock)) {n : Int} {a : Option (Nat × Value)}
  (hf : Instr.findNow (.int kk) (.int kk n) es.toList 0 = some a) {z : Value} (hz : (zeroValue et).run P w = .ok z w) (okf : Bool) :
  (Instr.lookup xt (.map (some c)) (.int kk n) okf).run P w = .ok (if okf then .tuple #[(a.map Prod.snd).getD z, .bool a.isSome] else (a.map Prod.snd).getD z) w := by
 unfold Instr.lookup
 simp only [Sem.run_bind, run_underlying hm w, Result.andThen_ok, MapKept.run_getObj_map hb, Sem.run_pure, MapKept.run_checkKey (d := .int kk) (k := .int kk n) hd rfl, MapKept.run_findKey hd hf]
 cases a with
 | none => simp [hz]
 | some p => simp
theorem VR.pair {D : Nat → Prop} {σ : Nat → SB} {w : GW} {a b : AV} {x y : Value} (ha : VR D σ w a x) (hb : VR D σ w b y) : VR D σ w (.tup [a, b]) (.tuple #[x, y]) :=
 .tup [a, b] [x, y] rfl fun i h1 h2 => match i, h1 with
  | 0, _ => ha
  | 1, _ => hb
  | i + 2, h1 => absurd h1 (by simp)
theorem kd_zero {D : Nat → Prop} {kv : Kd} {z : Value} (ho : z.oneCell' = true) (hz : zall (kv.cells kv.zero) z.cells.toList = true) : DR D w (kv.of kv.zero) z := by
 rw [ve ho] at hz
 obtain ⟨hl, hh⟩ := zM (D := D) (w := w) hz
 cases kv with
 | st s => rw [Kd.cells_length] at hl; cases s <;> simp [Kd.size, SN.size] at hl
 | int k => exact (hh 0 (by simp [Kd.cells]) (by simp)).1
 | bool => exact (hh 0 (by simp [Kd.cells]) (by simp)).1
 | str => exact (hh 0 (by simp [Kd.cells]) (by simp)).1
 | sl e => exact (hh 0 (by simp [Kd.cells]) (by simp)).1
theorem Y4 (hE : EnvOK P E) (hm : MemOK base ok G w M) {t : TypeId} {m x : AV} {u v : Value} (hu : VR G.D G.σ w m u) (hv : VR G.D G.σ w x v) {okf : Bool} {k : AV → Option R} {r : R} (h : Jo E M t m x okf k = some r) :
  ∃ a y, k a = some r ∧ (Instr.lookup t u v okf).run P w = .ok y w ∧ VR G.D G.σ w a y := by
 unfold Jo at h
 split at h
 ·simp at h
 ·rename_i i hi
  obtain ⟨d, hd, hs, _⟩ := (hE.ty t i hi).und
  split at h
  ·rename_i kt et b kk n hsh
   rw [hsh] at hs
   rw [Zv hs] at hd
   split at h
   ·rename_i ki ei hki hei
    obtain ⟨d2, hd2, hs2, _⟩ := (hE.ty kt ki hki).und
    split at h
    ·rename_i kk1 hsh2
     rw [hsh2] at hs2
     rw [vj hs2] at hd2
     replace h := qr h
     obtain ⟨hc, h⟩ := h
     simp only [Bool.and_eq_true, decide_eq_true_eq] at hc
     obtain ⟨rfl, hna⟩ := hc
     have hna' : ei.agg = false := by simpa [bnot] using hna
     obtain ⟨z, hz, hz0, hz1, hz2⟩ := jR (hE.ty et ei hei) w
     obtain ⟨c, hbc, rfl⟩ := hu.mref_inv
     rw [hv.int_inv]
     split at h
     ·rename_i kk' kv l hb
      replace h := qr h
      obtain ⟨hc, h⟩ := h
      simp only [Bool.and_eq_true, decide_eq_true_eq] at hc
      obtain ⟨rfl, hkd⟩ := hc
      obtain ⟨c', es, clock, h1, h2, h3, h4⟩ := hm.blocks b _ hb
      rw [hbc] at h1; cases h1
      obtain ⟨a, hf, ha⟩ := QQ (kv := kv) n l es.toList 0 (by simpa using h3) (fun i h h' => by
       have := (h4 i h (by simpa using h')).1
       generalize hk : es.toList[i].key = y
       have hk2 : es[i].key = y := by simpa using hk
       rw [hk2] at this
       cases this; rfl)
      have hrun := GY (okf := okf) hd hd2 h2 hf hz
      have hval : DR G.D w (kv.of (odef (jq l n) kv.zero)) ((a.map Prod.snd).getD z) ∧ (ois (jq l n)) = a.isSome := by
       cases a with
       | none => rw [ha]; exact ⟨kd_zero (hz0 hna') (hz2 kv hkd).2, rfl⟩
       | some p =>
         obtain ⟨i, h5, h6, h7, h8, _, _⟩ := ha
         rw [h7]
         refine ⟨?_, rfl⟩
         have := (h4 i h5 (by simpa using h6)).2
         show DR G.D w (kv.of l[i].2) p.2
         rw [h8]
         simpa using this
      cases okf with
      | true =>
        simp only [cond_true] at h
        refine ⟨_, _, h, hrun, ?_⟩
        rw [hval.2]
        exact VR.pair (.data _ _ hval.1) (.data _ _ (.bool _))
      | false => exact ⟨_, _, h, hrun, .data _ _ hval.1⟩
     ·rename_i ks vs hb
      obtain ⟨c', es, clock, l, kk0, h1, h2, ⟨p1, p2, p3⟩, h3, h3', h4, h5⟩ := hm.blocks b _ hb
      rw [hbc] at h1; cases h1
      split at h
      ·rename_i zz hzz
       obtain ⟨a, p0, hf0, hk, hp⟩ := Ut (G := G) (w := w) ks vs h l 0 h3 h3' h4 h5
       obtain ⟨p, hf, hpp⟩ := Rb p1 p2 p3 hf0
       have hrun := GY (okf := okf) hd hd2 h2 hf hz
       have hsome : p0.isSome = p.isSome := by
        cases p0 <;> cases p <;> simp at hpp ⊢
       rw [hsome] at hk
       have hval : VR G.D G.σ w a ((p.map Prod.snd).getD z) := by
        rw [← hpp]
        cases p0 with
        | none =>
          have hp' : a = zz := hp
          rw [hp']
          rw [hzz, ve (hz0 hna')] at hz1
          simp only [zall, Bool.and_true] at hz1
          exact .data _ _ (Rw hz1).1
        | some p => exact hp
       cases okf with
       | true => exact ⟨_, _, hk, hrun, VR.pair hval (.data _ _ (.bool _))⟩
       | false => exact ⟨_, _, hk, hrun, hval⟩
      ·simp at h
     ·simp at h
    ·simp at h
   ·simp at h
  ·simp at h
theorem UV (hE : EnvOK P E) (hm : MemOK base ok G w M) (hg : GOK E.glob base G.D w) (hbase : base ≤ w.heap.size) {f : FuncId} {ct : Ctr} (hct : look E.ctr f = some ct) {vs vs' : List AV} {xs : List Value} (hvs : jX M vs = some vs') (hl : vs.length = xs.length) (hx : ∀ i (h : i < vs.length) (h' : i < xs.length), VR G.D G.σ w vs[i] xs[i]) {k : AV → Option R} {r : R} (h : ct.run vs' k = some r) :
  ∃ v, k v = some r ∧ zr P G w slot none v ((callFunc f xs.toArray).run P w) := by
 obtain ⟨⟨fn, hf1, hf2, hf3⟩, hco⟩ := hE.ctr f ct hct
 obtain ⟨v, hk, hcall⟩ := hco.2 R vs' k r h
 refine ⟨v, hk, ?_⟩
 rw [zc hf1 hf2 hf3]
 obtain ⟨hl2, hd⟩ := jW hm hvs
 refine ⟨rfl, (hcall G.D w xs hm.dlt (fun g cs hg' => let ⟨a, b, c⟩ := hg g cs hg'; ⟨by omega, b, c⟩) ⟨by omega, fun i h1 h2 => hd i (by omega) h1 _ (hx i (by omega) h2)⟩).mono ?_⟩
 rintro e w' ⟨cv, rfl, hbelow, hdr⟩
 exact ⟨cv, rfl, ⟨G.σ, _⟩, ⟨hbelow, fun c h => .inl h, fun c h => h, fun _ _ => rfl, rfl⟩, .data _ _ hdr⟩
theorem qgw (hE : EnvOK P E) (hm : MemOK base ok G w M) (hg : GOK E.glob base G.D w) (hbase : base ≤ w.heap.size) {f : FuncId} {ct : Ctr} (hct : look E.own f = some ct) {vs vs' : List AV} {xs : List Value} (hvs : jX M vs = some vs') (hl : vs.length = xs.length) (hx : ∀ i (h : i < vs.length) (h' : i < xs.length), VR G.D G.σ w vs[i] xs[i]) {k : AV → Option Blk → Option R} {r : R} (h : ct.run vs' (fun v => ownK slot v k) = some r) :
  ∃ v b, k v b = some r ∧ zr P G w slot b v ((callFunc f xs.toArray).run P w) := by
 obtain ⟨⟨fn, hf1, hf2, hf3⟩, hco⟩ := hE.own f ct hct
 obtain ⟨e, l, hk, hcall⟩ := hco.2 R vs' _ r h
 refine ⟨.vec slot, some (.vec e l), hk, ?_⟩
 rw [zc hf1 hf2 hf3]
 obtain ⟨hl2, hd⟩ := jW hm hvs
 refine ⟨rfl, (hcall G.D w xs hm.dlt (fun g cs hg' => let ⟨a, b, c⟩ := hg g cs hg'; ⟨by omega, b, c⟩) ⟨by omega, fun i h1 h2 => hd i (by omega) h1 _ (hx i (by omega) h2)⟩).mono ?_⟩
 rintro e' w' ⟨A, cap, rfl, hbelow, hcap, hnone, hA⟩
 refine ⟨_, rfl, ⟨fun b => if b = slot then .hdr A l.length cap e.size else G.σ b, fun q => G.D q ∨ (w.heap.size ≤ q ∧ q < w'.heap.size ∧ A ≠ some q)⟩,
  ⟨hbelow, fun c h => .inl h, fun c h => h.elim .inl fun h => .inr ⟨h.1, h.2.1⟩, fun i hi => if_neg hi, ?_⟩, .vec slot A l.length cap e.size (if_pos rfl)⟩
 simp only [if_true]
 refine ⟨⟨A, cap, rfl, hcap, hnone, fun c hc => ?_⟩, fun c hc => ?_⟩
 ·obtain ⟨_, _, vs, t, h1, h2, h3, h4⟩ := hA c hc
  exact ⟨vs, t, h1, h2, h3, fun i h j hj => (h4 i h j hj).mono fun q hq => ⟨hq.elim .inl fun hq => .inr ⟨hq.1, hq.2.1, fun e => hq.2.2 (by rw [hc] at e; exact (Option.some.inj e).symm)⟩, rfl⟩⟩
 ·have hc' : A = some c := hc
  obtain ⟨h1, h2, _⟩ := hA c hc'
  refine ⟨h1, h2, fun h => ?_⟩
  rcases h with h | h
  ·have := hm.dlt c h; omega
  ·exact h.2.2 hc'
theorem qb2 (hE : EnvOK P E) (hm : MemOK base ok G w M) (hg : GOK E.glob base G.D w) (hbase : base ≤ w.heap.size) {f : FuncId} {ct : Ctr} (hct : look E.lone f = some ct) {vs : List AV} {xs : List Value} (hd : DRs (fun c => c < w.heap.size) w vs xs) {k : AV → Option R} {r : R} (h : ct.run vs k = some r) :
  ∃ v, k v = some r ∧ zr P G w slot none v ((callFunc f xs.toArray).run P w) := by
 obtain ⟨⟨fn, hf1, hf2, hf3⟩, hco⟩ := hE.lone f ct hct
 obtain ⟨v, hk, hcall⟩ := hco.2 R vs k r h
 refine ⟨v, hk, ?_⟩
 rw [zc hf1 hf2 hf3]
 refine ⟨rfl, (hcall (fun c => c < w.heap.size) w xs (fun _ h => h) (fun g cs hg' => let ⟨a, b, c, d⟩ := hg g cs hg'; ⟨by omega, hm.dlt g b, fun j hj => let ⟨x, h1, h2, h3⟩ := c j hj; ⟨x, h1, h2, h3.mono fun c hc => ⟨hm.dlt c hc, rfl⟩⟩, d⟩) hd).mono ?_⟩
 rintro e w' ⟨cv, rfl, hbelow, hdr⟩
 exact ⟨cv, rfl, ⟨G.σ, fun c => G.D c ∨ (w.heap.size ≤ c ∧ c < w'.heap.size)⟩, ⟨hbelow, fun c h => .inl h, fun c h => h, fun _ _ => rfl, rfl⟩, .data _ _ (hdr.mono fun c hc => ⟨.inr hc, rfl⟩)⟩
theorem qbn {D : Nat → Prop} {w : GW} {D' : Nat → Prop} {w' : GW} {e : Kd} (h : VT e = true) (x : e.T) (j : Nat) (hj : j < (e.cells x).length) {y : Value} (hd : DR D w ((e.cells x)[j]) y) : DR D' w' ((e.cells x)[j]) y := by
 cases e with
 | int k =>
   have : j = 0 := by simp [Kd.cells] at hj; omega
   subst this
   cases hd; exact .int _ _
 | bool =>
   have : j = 0 := by simp [Kd.cells] at hj; omega
   subst this
   cases hd; exact .bool _
 | str =>
   have : j = 0 := by simp [Kd.cells] at hj; omega
   subst this
   cases hd; exact .str _
 | _ => simp [VT] at h
theorem qb1 (hE : EnvOK P E) (hm : MemOK base ok G w M) (hg : GOK E.glob base G.D w) (hbase : base ≤ w.heap.size) {f : FuncId} {ct : Ctr} (hct : look E.lown f = some ct) {vs : List AV} {xs : List Value} (hd : DRs (fun c => c < w.heap.size) w vs xs) {s : St} {k : AV → St → Option R} {r : R} (h : ct.run vs (fun v => qke s v k) = some r) :
  ∃ e l, VT e = true ∧ k (.vec s.M.length) { s with M := s.M ++ [.vec e l] } = some r ∧ zr P G w slot (some (.vec e l)) (.vec slot) ((callFunc f xs.toArray).run P w) := by
 obtain ⟨⟨fn, hf1, hf2, hf3⟩, hco⟩ := hE.lown f ct hct
 obtain ⟨e, l, hk, hcall⟩ := hco.2 R vs _ r h
 unfold qke at hk
 replace hk := qr hk
 refine ⟨e, l, hk.1, hk.2, ?_⟩
 rw [zc hf1 hf2 hf3]
 refine ⟨rfl, (hcall (fun c => c < w.heap.size) w xs (fun _ h => h) (fun g cs hg' => let ⟨a, b, c, d⟩ := hg g cs hg'; ⟨by omega, hm.dlt g b, fun j hj => let ⟨x, h1, h2, h3⟩ := c j hj; ⟨x, h1, h2, h3.mono fun c hc => ⟨hm.dlt c hc, rfl⟩⟩, d⟩) hd).mono ?_⟩
 rintro e' w' ⟨A, cap, rfl, hbelow, hcap, hnone, hA⟩
 refine ⟨_, rfl, ⟨fun b => if b = slot then .hdr A l.length cap e.size else G.σ b, fun q => G.D q ∨ (w.heap.size ≤ q ∧ q < w'.heap.size ∧ A ≠ some q)⟩,
  ⟨hbelow, fun c h => .inl h, fun c h => h.elim .inl fun h => .inr ⟨h.1, h.2.1⟩, fun i hi => if_neg hi, ?_⟩, .vec slot A l.length cap e.size (if_pos rfl)⟩
 simp only [if_true]
 refine ⟨⟨A, cap, rfl, hcap, hnone, fun c hc => ?_⟩, fun c hc => ?_⟩
 ·obtain ⟨_, _, vs, t, h1, h2, h3, h4⟩ := hA c hc
  exact ⟨vs, t, h1, h2, h3, fun i h j hj => qbn hk.1 _ _ hj (h4 i h j hj)⟩
 ·have hc' : A = some c := hc
  obtain ⟨h1, h2, _⟩ := hA c hc'
  refine ⟨h1, h2, fun h => ?_⟩
  rcases h with h | h
  ·have := hm.dlt c h; omega
  ·exact h.2.2 hc'
end Go.Sx
namespace Go.Sx
open Go
open Go.RowKit (Below)
variable {P : Program} {E : Env} {base : Nat} {ok : Nat → Prop} {G : Gam} {w : GW} {M : Mem} {R : Type} {slot : Nat}
theorem jH {s : Sem Value} {y : Value} {v : AV} (h : s.run P w = .ok y w) (hv : VR G.D G.σ w v y) : zr P G w slot none v ((do pure (.value (← s)) : Sem Next).run P w) := by
 simp only [Sem.run_bind, h, Result.andThen_ok, Sem.run_pure]
 exact zr.same hv
theorem DB {ρ : Operand → Value} {ev : Operand → AV} (hev : ∀ x, VR G.D G.σ w (ev x) (ρ x)) (l : List Operand) : ∀ i (h : i < (l.map ev).length) (h' : i < (l.map ρ).length), VR G.D G.σ w (l.map ev)[i] (l.map ρ)[i] := by
 intro i h h'
 simp only [List.getElem_map]
 exact hev _
theorem qeq {a b : List AV} {c d : List Value} (hl : a.length = c.length) (h1 : ∀ i (h : i < a.length) (h' : i < c.length), VR G.D G.σ w a[i] c[i]) (h2 : ∀ i (h : i < b.length) (h' : i < d.length), VR G.D G.σ w b[i] d[i]) :
  ∀ i (h : i < (a ++ b).length) (h' : i < (c ++ d).length), VR G.D G.σ w (a ++ b)[i] (c ++ d)[i] := by
 intro i h h'
 by_cases hi : i < a.length
 ·rw [List.getElem_append_left hi, List.getElem_append_left (by omega)]
  exact h1 i hi (by omega)
 ·rw [List.getElem_append_right (by omega), List.getElem_append_right (by omega)]
  have := h2 (i - a.length) (by simp at h; omega) (by simp at h'; omega)
  simp only [hl] at this ⊢
  exact this
theorem vc {ρ : Operand → Value} {ev : Operand → AV} (hev : ∀ x, VR G.D G.σ w (ev x) (ρ x)) (o : Option Operand) : (∀ v, QH o ev = some v → ∃ y, o.map ρ = some y ∧ VR G.D G.σ w v y) ∧ (QH o ev = none → o.map ρ = none) := by
 cases o with
 | none => exact ⟨fun v h => by simp [QH] at h, fun _ => rfl⟩
 | some x => exact ⟨fun v h => by simp [QH] at h; subst h; exact ⟨_, rfl, hev x⟩, fun h => by simp [QH] at h⟩
theorem vy {ρ : Operand → Value} {ev : Operand → AV} (hev : ∀ x, VR G.D G.σ w (ev x) (ρ x)) {o : Oper} {c : Go.Call} {f : Operand} (ho : o.op = .call c) (hc : c.callee = .value f) {p : Nat × List AV} (hp : Ye (ev f) (c.args.toList.map ev) = some p) :
  ∃ xs : List Value, execOp ρ o = callFunc p.1 xs.toArray ∧ p.2.length = xs.length ∧ ∀ i (h : i < p.2.length) (h' : i < xs.length), VR G.D G.σ w p.2[i] xs[i] := by
 unfold Ye at hp
 split at hp
 ·rename_i g first cap args hg
  cases hp
  have hf := hev f
  rw [hg] at hf
  obtain ⟨u, v, h1, h2, h3, h4, hx⟩ := hf.func_inv
  refine ⟨u ++ c.args.toList.map ρ ++ v, ?_, by simp [h1, h2], ?_⟩
  ·unfold execOp
   rw [ho]
   simp only [resolve, hc, hx, Deferred.ofValue, pure_bind, invoke]
   congr 1
   apply Array.ext'
   simp
  ·exact qeq (by simp [h1]) (qeq h1 h3 (DB hev _)) h4
 ·simp at hp
theorem qh9 {s : Str} {j : Nat} {c : UInt8} (h : s[j]? = some c) : (⟨s.toArray⟩ : ByteArray)[j]? = some c := by
 obtain ⟨hlt, rfl⟩ := List.getElem?_eq_some_iff.1 h
 have h2 : j < (⟨s.toArray⟩ : ByteArray).size := by simpa [ByteArray.size] using hlt
 exact (getElem?_pos (⟨s.toArray⟩ : ByteArray) j h2).trans rfl
theorem Rz {ρ : Operand → Value} {ev : Operand → AV} (hev : ∀ x, VR G.D G.σ w (ev x) (ρ x)) {l : List Operand} {kx ky : IntKind} {x y : Int} (h : l.map ev = [.int kx x, .int ky y]) : ∃ a b, l = [a, b] ∧ ρ a = .int kx x ∧ ρ b = .int ky y := by
 match l, h with
 | [a, b], h =>
   simp only [List.map_cons, List.map_nil, List.cons.injEq, and_true] at h
   have h1 := hev a
   have h2 := hev b
   rw [h.1] at h1
   rw [h.2] at h2
   exact ⟨a, b, rfl, h1.int_inv, h2.int_inv⟩
 | [], h => simp at h
 | [_], h => simp at h
 | _ :: _ :: _ :: _, h => simp at h
theorem Mg (hE : EnvOK P E) {t : TypeId} {d : TypeDesc} {s : Sh} {f : Nat} {p : Nat × TypeId} {fi : TyI} {cs : List AV} {v : AV} {x : Value} (hv : VR G.D G.σ w (.agg cs) x) (hd : P.underlying t = some d) (hs : shOK P d s = true) (hp : Ju s f = some p) (hfi : E.t p.2 = some fi) (h : zk fi cs p.1 = some v) :
  ∃ y, (Instr.field t x f).run P w = .ok y w ∧ VR G.D G.σ w v y := by
 unfold Ju at hp
 split at hp
 ·rename_i fs
  obtain ⟨gs, rfl, hf⟩ := Zu hs
  obtain ⟨hl, hh⟩ := gA hf
  obtain ⟨hlt, rfl⟩ := List.getElem?_eq_some_iff.1 hp
  obtain ⟨e1, e2, _⟩ := hh f (by omega) hlt
  have hlt' : f < gs.size := by have := hl; simp at this; omega
  have e1' : gs[f].offset = fs[f].1 := by simpa using e1
  have e2' : gs[f].type = fs[f].2 := by simpa using e2
  obtain ⟨vs, h1, h2, h3, rfl⟩ := hv.agg_inv
  unfold zk at h
  have ht := hE.ty _ fi hfi
  cases ha : fi.agg with
  | true =>
    rw [ha] at h
    simp only [cond_true] at h
    replace h := qr h
    obtain ⟨hb, h⟩ := h
    cases h
    have hle : fs[f].1 + fi.size ≤ cs.length := Nat.le_of_ble_eq_true hb
    refine ⟨.agg ((vs.drop fs[f].1).take fi.size).toArray, ?_, ?_⟩
    ·unfold Instr.field
     simp only [Sem.run_bind, run_underlying hd w, Result.andThen_ok, Array.getElem?_eq_getElem hlt', e1', e2', asAgg, Sem.run_pure, part, Jf ht w, ha, if_true, qP ht w]
     simp
    ·refine .agg _ _ (by simp; omega) (fun v hv => h2 v (List.mem_of_mem_drop (List.mem_of_mem_take hv))) (fun i h4 h5 => ?_)
     simp only [List.getElem_take, List.getElem_drop]
     exact h3 _ (by simp at h4; omega) (by simp at h5; omega)
  | false =>
    rw [ha] at h
    simp only [cond_false] at h
    obtain ⟨hlt2, rfl⟩ := List.getElem?_eq_some_iff.1 h
    refine ⟨vs[fs[f].1]'(by omega), ?_, h3 _ hlt2 (by omega)⟩
    unfold Instr.field
    simp only [Sem.run_bind, run_underlying hd w, Result.andThen_ok, Array.getElem?_eq_getElem hlt', e1', e2', asAgg, Sem.run_pure, part, Jf ht w, ha]
    have : fs[f].1 < vs.length := by omega
    simp [this]
 ·simp at hp
theorem Yc (hE : EnvOK P E) (hm : MemOK base ok G w M) (hg : GOK E.glob base G.D w) (hbase : base ≤ w.heap.size) (hslot : G.σ slot = .none) {ev : Operand → AV} {ρ : Operand → Value} (hev : ∀ x, VR G.D G.σ w (ev x) (ρ x)) {o : Oper} {k : AV → Option Blk → Option R} {r : R} (h : zF E ev M slot o k = some r) :
  ∃ v b, k v b = some r ∧ zr P G w slot b v ((execOp ρ o).run P w) := by
 unfold zF at h
 split at h
 ·
  rename_i x ho
  refine ⟨_, _, h, ?_⟩
  rw [show execOp ρ o = pure (.value (ρ x)) by unfold execOp; rw [ho], Sem.run_pure]
  exact zr.same (hev x)
 ·
  rename_i x ho
  rw [show execOp ρ o = pure (.value (ρ x)) by unfold execOp; rw [ho], Sem.run_pure]
  split at h
  ·rename_i hx
   have hxx := hev x
   rw [hx] at hxx
   split at h
   ·rename_i kd _
    refine ⟨_, _, h, ?_⟩
    rw [hxx.nilsl_inv]
    refine ⟨_, Step.nilvec hslot kd, ?_⟩
    exact VR.vec (σ := (G.up slot (.hdr none 0 0 kd.size)).σ) slot none 0 0 kd.size (Gam.up_self ..)
   ·exact ⟨_, _, h, zr.same hxx⟩
  ·rename_i t hx
   have hxx := hev x
   rw [hx] at hxx
   cases hsp : E.split with
   | false => rw [hsp] at h; exact ⟨_, _, h, zr.same hxx⟩
   | true =>
     rw [hsp] at h
     simp only [cond_true] at h
     rcases ql0 h with ⟨e, h⟩ | ⟨e, h⟩
     ·subst e; exact ⟨_, _, h, zr.same hxx⟩
     ·subst e; exact ⟨_, _, h, zr.same hxx⟩
  ·exact ⟨_, _, h, zr.same (hev x)⟩
 ·
  rename_i c a b ho
  split at h
  ·rename_i t hc
   have hcc := hev c
   rw [hc] at hcc
   have hrun : (execOp ρ o).run P w = .ok (.value (if t then ρ a else ρ b)) w := by
    rw [show execOp ρ o = (do pure (.value (if ← asBool (ρ c) then ρ a else ρ b))) by unfold execOp; rw [ho], hcc.bool_inv]
    simp [asBool]
   rw [hrun]
   cases t with
   | true => exact ⟨_, _, h, zr.same (hev a)⟩
   | false => exact ⟨_, _, h, zr.same (hev b)⟩
  ·simp at h
 ·
  rename_i t ho
  split at h
  ·rename_i i hi
   refine ⟨_, _, h, ?_⟩
   rw [show execOp ρ o = (do pure (.value (← Instr.alloc t true (.tuple #[])))) by unfold execOp; rw [ho]]
   exact M5 hE hslot hm.dlt hi
  ·simp at h
 ·
  rename_i t x ho
  rw [show execOp ρ o = (do pure (.value (← Instr.box t (ρ x)))) by unfold execOp; rw [ho]]
  split at h
  ·rename_i i hi
   have hx := hev x
   split at h
   ·rename_i cs hcs
    rw [hcs] at hx
    replace h := qr h
    obtain ⟨_, h⟩ := h
    obtain ⟨vs, h1, h2, h3, h4⟩ := hx.agg_inv
    refine ⟨_, _, h, ?_⟩
    rw [h4]
    exact BJ hslot hm.dlt (x := .agg vs.toArray) (qh5 h1 h2 h3)
   ·simp at h
   ·simp at h
   ·simp at h
   ·rename_i h1 h2 h3 h4
    replace h := qr h
    obtain ⟨_, h⟩ := h
    refine ⟨_, _, h, ?_⟩
    have ho := hx.one h1 h2 h3 h4
    refine BJ hslot hm.dlt ?_
    rw [ve ho]
    exact qc6 hx ho
  ·simp at h
 ·
  rename_i t parts ho
  rw [show execOp ρ o = (do pure (.value (← Instr.build t (parts.map fun (i, x) => (i, ρ x))))) by unfold execOp; rw [ho]]
  split at h
  ·rename_i i hi
   split at h
   ·rename_i fs hsh
    obtain ⟨cs, h1, h⟩ := Option.bind_eq_some_iff.1 h
    obtain ⟨y, h2, h3⟩ := Zh hE hev hi hsh h1
    exact ⟨_, _, h, jH h2 h3⟩
   ·rename_i n e hsh
    split at h
    ·rename_i ei hei
     obtain ⟨cs, h1, h⟩ := Option.bind_eq_some_iff.1 h
     obtain ⟨y, h2, h3⟩ := VQ hE hev hi hsh hei h1
     exact ⟨_, _, h, jH h2 h3⟩
    ·simp at h
   ·simp at h
  ·simp at h
 ·
  rename_i t len parts ho
  rw [show execOp ρ o = (do pure (.value (← Instr.buildSlice t len (parts.map fun (i, x) => (i, ρ x))))) by unfold execOp; rw [ho]]
  split at h
  ·rename_i i hi
   split at h
   ·rename_i et hsh
    split at h
    ·rename_i ei hei
     replace h := qr h
     obtain ⟨hc, h⟩ := h
     simp only [Bool.and_eq_true] at hc
     obtain ⟨⟨⟨⟨c1, c2⟩, c3⟩, c4⟩, c5⟩ := hc
     have hs := Vb hE hm hslot hev hi hsh hei c1 (Nat.eq_of_beq_eq_true c2) (Nat.le_of_ble_eq_true c3) (Nat.le_of_ble_eq_true c4) c5
     split at h
     ·rename_i kd hkd
      obtain ⟨vs, h1, h⟩ := Option.bind_eq_some_iff.1 h
      obtain ⟨l, h2, h⟩ := Option.bind_eq_some_iff.1 h
      exact ⟨_, _, h, hs.1 kd vs l hkd h1 h2⟩
     ·exact ⟨_, _, h, hs.2⟩
    ·simp at h
   ·simp at h
  ·simp at h
 ·
  rename_i t a ho
  rw [show execOp ρ o = (do pure (.value (← Instr.loadAt t (ρ a)))) by unfold execOp; rw [ho]]
  obtain ⟨v, y, h1, h2, h3⟩ := N2 hE hm hg (hev a) h
  exact ⟨_, _, h1, jH h2 h3⟩
 ·
  rename_i x ho
  have hx := hev x
  split at h <;> try (simp at h; done)
  ·rename_i b off hh
   rw [hh] at hx
   refine ⟨_, _, h, ?_⟩
   obtain ⟨c, _, e⟩ := hx.ptr_inv
   rw [show execOp ρ o = pure (.value (ρ x)) by unfold execOp; rw [ho]; simp only [e], Sem.run_pure]
   exact zr.same hx
  ·rename_i b off hh
   rw [hh] at hx
   refine ⟨_, _, h, ?_⟩
   obtain ⟨c, _, _, e⟩ := hx.dref_inv
   rw [show execOp ρ o = pure (.value (ρ x)) by unfold execOp; rw [ho]; simp only [e], Sem.run_pure]
   exact zr.same hx
  ·rename_i b j off hh
   rw [hh] at hx
   refine ⟨_, _, h, ?_⟩
   obtain ⟨c, _, _, _, _, _, _, e⟩ := hx.vref_inv
   rw [show execOp ρ o = pure (.value (ρ x)) by unfold execOp; rw [ho]; simp only [e], Sem.run_pure]
   exact zr.same hx
  ·rename_i g off hh
   rw [hh] at hx
   refine ⟨_, _, h, ?_⟩
   have e := hx.gp_inv
   rw [show execOp ρ o = pure (.value (ρ x)) by unfold execOp; rw [ho]; simp only [e], Sem.run_pure]
   exact zr.same hx
  ·rename_i f a c hh
   rw [hh] at hx
   refine ⟨_, _, h, ?_⟩
   obtain ⟨u, v, _, _, _, _, e⟩ := hx.func_inv
   rw [show execOp ρ o = pure (.value (ρ x)) by unfold execOp; rw [ho]; simp only [e], Sem.run_pure]
   exact zr.same hx
 ·
  rename_i op t x y _ ho
  rw [show execOp ρ o = (do pure (.value (← (do eqGuard op t x y (ρ x) (ρ y); binOp op t (ρ x) (ρ y))))) by unfold execOp; rw [ho]]
  obtain ⟨v, z, h1, h2, h3⟩ := qdd hE (hev x) (hev y) h
  exact ⟨_, _, h1, jH h2 h3⟩
 ·
  rename_i op _ x ho
  rw [show execOp ρ o = (do pure (.value (← Op.unary op (ρ x)))) by unfold execOp; rw [ho]]
  have hx := hev x
  split at h
  ·rename_i b hh
   rw [hh] at hx
   refine ⟨_, _, h, jH (y := .bool !b) (by rw [hx.bool_inv]; rfl) (.data _ _ (.bool _))⟩
  ·rename_i kk n hh
   rw [hh] at hx
   refine ⟨_, _, h, jH (y := .int kk (kk.wrap (0 - n))) (by rw [hx.int_inv]; rfl) (.data _ _ (.int _ _))⟩
  ·simp at h
 ·
  rename_i src dst x ho
  rw [show execOp ρ o = (do pure (.value (← convert src dst (ρ x)))) by unfold execOp; rw [ho]]
  obtain ⟨v, z, h1, h2, h3⟩ := Mo hE hm (hev x) h
  exact ⟨_, _, h1, jH h2 h3⟩
 ·
  rename_i f first cap ho
  rw [show execOp ρ o = (do pure (.value (← Instr.makeFunc (.func f) (first.map ρ) (cap.map ρ)))) by unfold execOp; rw [ho]]
  refine ⟨_, _, h, jH (y := .func (.func f) (first.toList.map ρ).toArray (cap.toList.map ρ).toArray) ?_ ?_⟩
  ·have e : ∀ a : Array Operand, a.map ρ = (a.toList.map ρ).toArray := fun a => by apply Array.ext'; simp
   rw [e, e]
   rfl
  ·exact .func f _ _ _ _ (by simp) (by simp) (DB hev _) (DB hev _)
 ·
  rename_i t ho
  rw [show execOp ρ o = (do pure (.value (← Instr.makeMap t none))) by unfold execOp; rw [ho]; rfl]
  have hrun : (Instr.makeMap t none).run P w = .ok (.map (some w.heap.size)) (w.alloc (.map #[] 0)) := by
   simp [Instr.makeMap, newObj, Sem.run]
  split at h
  ·split at h
   ·split at h
    ·have fin : ∀ x, (BR G.D (G.up slot (.blk w.heap.size)).σ (w.alloc (.map #[] 0)) (.blk w.heap.size) x) → (∀ c, mutC (.blk w.heap.size) x = some c → c = w.heap.size) →
       zr P G w slot (some x) (.mref slot) ((do pure (.value (← Instr.makeMap t none)) : Sem Next).run P w) := by
      intro x hbr hmu
      simp only [Sem.run_bind, hrun, Result.andThen_ok, Sem.run_pure]
      exact ⟨_, Step.lay hslot hm.dlt hbr hmu, VR.mref (σ := (G.up slot (.blk w.heap.size)).σ) slot w.heap.size (Gam.up_self ..)⟩
     split at h
     ·exact ⟨_, _, h, fin _ ⟨w.heap.size, #[], 0, rfl, j4 _ _, rfl, fun i h => by simp at h⟩ (fun c hc => by simp [mutC] at hc; exact hc.symm)⟩
     ·exact ⟨_, _, h, fin _ ⟨w.heap.size, #[], 0, [], .i64, rfl, j4 _ _, ⟨List.Perm.refl _, fun e he => by simp at he, by simp⟩, rfl, rfl, fun i h => by simp at h, fun i h => by simp at h⟩ (fun c hc => by simp [mutC] at hc; exact hc.symm)⟩
    ·simp at h
   ·simp at h
  ·simp at h
 ·
  rename_i t l c ho
  rw [show execOp ρ o = (do pure (.value (← Instr.makeSlice t (ρ l) (ρ c)))) by unfold execOp; rw [ho]]
  split at h
  ·rename_i i hi
   split at h
   ·rename_i et hsh
    split at h
    ·rename_i ei hei
     split at h
     ·rename_i kd n m hkd hl hc
      have hll := hev l
      have hcc := hev c
      rw [hl] at hll
      rw [hc] at hcc
      replace h := qr h
      obtain ⟨c0, h⟩ := h
      replace h := qB h
      obtain ⟨c1, h⟩ := h
      replace h := qB h
      obtain ⟨c2, h⟩ := h
      replace h := qB h
      obtain ⟨c3, h⟩ := h
      refine ⟨_, _, h, ?_⟩
      rw [hll.int_inv, hcc.int_inv]
      exact VL hE hm hslot hi hsh hei hkd (of_decide_eq_true c1) (of_decide_eq_true c2) (of_decide_eq_true c3) (Nat.le_of_ble_eq_true c0)
     ·simp at h
    ·simp at h
   ·simp at h
  ·simp at h
 ·
  rename_i t x lo hi mx ho
  rw [show execOp ρ o = (do pure (.value (← Instr.sliceAt t (ρ x) (lo.map ρ) (hi.map ρ) (mx.map ρ)))) by unfold execOp; rw [ho]]
  obtain ⟨v, z, h1, h2, h3⟩ := Zs hE hm hg (hev x) (vc hev lo) (vc hev hi) (vc hev mx) h
  exact ⟨_, _, h1, jH h2 h3⟩
 ·
  rename_i t x f ho
  rw [show execOp ρ o = (do pure (.value (← Instr.fieldAt t (ρ x) f))) by unfold execOp; rw [ho]]
  obtain ⟨v, z, h1, h2, h3⟩ := KU hE (hev x) h
  exact ⟨_, _, h1, jH h2 h3⟩
 ·
  rename_i t x f ho
  rw [show execOp ρ o = (do pure (.value (← Instr.field t (ρ x) f))) by unfold execOp; rw [ho]]
  split at h
  ·rename_i i hi
   obtain ⟨d, hd, hs, _⟩ := (hE.ty t i hi).und
   split at h
   ·rename_i p cs hp hx
    split at h
    ·rename_i fi hfi
     obtain ⟨v, h1, h⟩ := Option.bind_eq_some_iff.1 h
     have hxx := hev x
     rw [hx] at hxx
     obtain ⟨y, h2, h3⟩ := Mg hE hxx hd hs hp hfi h1
     exact ⟨_, _, h, jH h2 h3⟩
    ·simp at h
   ·simp at h
  ·simp at h
 ·
  rename_i t x ix ho
  rw [show execOp ρ o = (do pure (.value (← Instr.indexAt t (ρ x) (ρ ix)))) by unfold execOp; rw [ho]]
  obtain ⟨v, z, h1, h2, h3⟩ := qcd hE hm hg (hev x) (hev ix) h
  exact ⟨_, _, h1, jH h2 h3⟩
 ·
  rename_i t x ix ho
  rw [show execOp ρ o = (do pure (.value (← Instr.index t (ρ x) (ρ ix)))) by unfold execOp; rw [ho]]
  split at h
  ·rename_i i hi
   obtain ⟨d, hd, hs, _⟩ := (hE.ty t i hi).und
   split at h
   ·rename_i s kj j hsh hx hix
    rw [hsh] at hs
    rw [gj hs] at hd
    obtain ⟨c, h1, h⟩ := Option.bind_eq_some_iff.1 h
    have hxx := hev x
    have hii := hev ix
    rw [hx] at hxx
    rw [hix] at hii
    refine ⟨_, _, h, jH (y := .int .u8 (c.toNat : Int)) ?_ (.data _ _ (.int _ _))⟩
    rw [hxx.str_inv, hii.int_inv]
    unfold lget at h1
    split at h1
    ·rename_i h0
     have h2 : (⟨s.toArray⟩ : ByteArray)[j.toNat]? = some c := by
      exact qh9 h1
     simp [Instr.index, asIntOf, run_underlying hd, h0, h2]
    ·simp at h1
   ·simp at h
  ·simp at h
 ·
  rename_i t m x okf ho
  rw [show execOp ρ o = (do pure (.value (← Instr.lookup t (ρ m) (ρ x) okf))) by unfold execOp; rw [ho]]
  obtain ⟨v, z, h1, h2, h3⟩ := Y4 hE hm (hev m) (hev x) h
  exact ⟨_, _, h1, jH h2 h3⟩
 ·
  rename_i t ix ho
  rw [show execOp ρ o = (do pure (.value (← Instr.extract (ρ t) ix))) by unfold execOp; rw [ho]]
  split at h
  ·rename_i vs hvs
   split at h
   ·rename_i v hv
    have ht := hev t
    rw [hvs] at ht
    obtain ⟨xs, h1, h2, h3⟩ := ht.tup_inv
    obtain ⟨hlt, rfl⟩ := List.getElem?_eq_some_iff.1 hv
    refine ⟨_, _, h, jH (y := xs[ix]'(by omega)) ?_ (h2 ix hlt (by omega))⟩
    rw [h3]
    simp [Instr.extract, show ix < xs.length by omega]
   ·simp at h
  ·simp at h
 ·
  rename_i c ho
  split at h
  ·rename_i b hc
   have hex : ∀ {s : Sem Value}, (builtin b c.argTypes o.type (c.args.map fun | .const _ => true | _ => false) (c.args.map ρ) = (do pure (.value (← s)))) → execOp ρ o = (do pure (.value (← s))) := by
    intro s hs
    unfold execOp
    rw [ho]
    simp only [resolve, hc, pure_bind, invoke]
    exact hs
   split at h
   ·split at h
    ·rename_i x xs t ts hx ht
     have a0 : c.args[0]? = some x := by rw [← Array.getElem?_toList, hx]; rfl
     have a1 : c.argTypes[0]? = some t := by rw [← Array.getElem?_toList, ht]; rfl
     obtain ⟨v, z, h1, h2, h3⟩ := qb6 hE hm (ty := o.type) (hev x) a1 (args := c.args.map ρ) (by simp [a0]) h
     refine ⟨_, _, h1, ?_⟩
     rw [hex (s := Builtin.len_ c.argTypes o.type (c.args.map ρ)) rfl]
     exact jH h2 h3
    ·simp at h
   ·split at h
    ·rename_i kx x ky y hxy
     obtain ⟨a0, a1, e0, e1, e2⟩ := Rz hev hxy
     refine ⟨_, _, h, ?_⟩
     rw [hex (s := Builtin.min_ c.argTypes o.type (c.args.map ρ)) rfl]
     refine jH (y := .int kx (if y < x then y else x)) ?_ (.data _ _ (.int _ _))
     unfold Builtin.min_
     rw [Array.toList_map, e0]
     simp [e1, e2, Builtin.min2]
    ·simp at h
   ·split at h
    ·rename_i kx x ky y hxy
     obtain ⟨a0, a1, e0, e1, e2⟩ := Rz hev hxy
     refine ⟨_, _, h, ?_⟩
     rw [hex (s := Builtin.max_ c.argTypes o.type (c.args.map ρ)) rfl]
     refine jH (y := .int kx (if y > x then y else x)) ?_ (.data _ _ (.int _ _))
     unfold Builtin.max_
     rw [Array.toList_map, e0]
     simp [e1, e2, Builtin.max2]
    ·simp at h
   ·split at h
    ·rename_i x xs t ts hx ht
     have a0 : c.args[0]? = some x := by rw [← Array.getElem?_toList, hx]; rfl
     have a1 : c.argTypes[0]? = some t := by rw [← Array.getElem?_toList, ht]; rfl
     obtain ⟨v, z, h1, h2, h3⟩ := qc8 hE (ty := o.type) (hev x) a1 (args := c.args.map ρ) (by simp [a0]) h
     refine ⟨_, _, h1, ?_⟩
     rw [hex (s := Builtin.cap_ c.argTypes o.type (c.args.map ρ)) rfl]
     exact jH h2 h3
    ·simp at h
   ·simp at h
  ·rename_i f hc
   split at h
   ·rename_i p hp
    split at h
    ·rename_i ct hct
     obtain ⟨vs, hvs, h⟩ := Option.bind_eq_some_iff.1 h
     obtain ⟨xs, e1, e2, e3⟩ := vy hev ho hc hp
     obtain ⟨v, b, hk, hcalm⟩ := qgw hE hm hg hbase hct hvs e2 e3 h
     refine ⟨v, b, hk, ?_⟩
     rw [e1]
     exact hcalm
    split at h
    ·rename_i ct hct
     obtain ⟨vs, hvs, h⟩ := Option.bind_eq_some_iff.1 h
     obtain ⟨xs, e1, e2, e3⟩ := vy hev ho hc hp
     obtain ⟨v, hk, hcalm⟩ := UV hE hm hg hbase hct hvs e2 e3 h
     refine ⟨v, none, hk, ?_⟩
     rw [e1]
     exact hcalm
    ·split at h
     ·rename_i d b off hget hp2
      obtain ⟨xs, e1, e2, e3⟩ := vy hev ho hc hp
      obtain ⟨⟨fn, hf1, hf2, hf3⟩, hgo⟩ := hE.get _ _ hget
      rw [hp2] at e2 e3
      match xs, e2, e3 with
      | [x], _, e3 =>
        obtain ⟨c, hσ, rfl⟩ := (e3 0 (by simp) (by simp)).ptr_inv
        refine ⟨_, none, h, ?_⟩
        rw [e1, zc hf1 hf2 hf3]
        refine ⟨rfl, (hgo w c off).mono ?_⟩
        rintro e w' ⟨rfl, rfl⟩
        exact ⟨_, rfl, G, Step.refl G w' _, .ptr b (off + d) c hσ⟩
     ·simp at h
   ·simp at h
  ·simp at h
 ·simp at h
end Go.Sx
namespace Go.Sx
open Go
open Go.RowKit (Below)
abbrev Ent := Gam × GW × List Nat × Nat
structure Rel (E : Env) (base : Nat) (w0 : GW) (ok : Nat → Prop) (en : Ent) (G : Gam) (s : St) (a : Act) (w : GW) : Prop where
 defers : a.defers = []
 size : a.tmps.size = s.T.length
 val : ∀ t v, s.T[t]? = some v → VR G.D G.σ w v (a.tmps.getD t undef)
 mem : MemOK base ok G w s.M
 below : Below base w0 w
 glob : GOK E.glob base G.D w
 base : base ≤ w.heap.size
 grow : ∀ c, en.1.D c → G.D c ∧ w.heap[c]? = en.2.1.heap[c]?
 held : ∀ b ∈ s.lock, en.1.σ b ≠ .none → G.σ b = en.1.σ b ∧ b < s.lo
 lo : s.lo ≤ s.M.length
 fr : s.lock = en.2.2.1 ∧ s.lo = en.2.2.2
variable {P : Program} {E : Env} {base : Nat} {w0 : GW} {ok : Nat → Prop} {en : Ent} {G G' : Gam} {s : St} {a : Act} {w w' : GW} {R : Type}
theorem GOK.mono {gl : List (Nat × List AV)} {D D' : Nat → Prop} (h : ∀ c, D c → D' c ∧ w'.heap[c]? = w.heap[c]?) (hg : GOK gl base D w) : GOK gl base D' w' := by
 intro g cs hl
 obtain ⟨h1, h2, h3, h7⟩ := hg g cs hl
 refine ⟨h1, (h g h2).1, fun j hj => ?_, by rw [(h g h2).2]; exact h7⟩
 obtain ⟨x, h4, h5, h6⟩ := h3 j hj
 refine ⟨x, ?_, h5, h6.mono h⟩
 have := (h g h2).2
 unfold World.cell? at h4 ⊢
 rw [add_block] at h4 ⊢
 rw [show (blkA g).block = g from rfl] at h4 ⊢
 rw [this]; exact h4
theorem qit {tmps : Array Value} {T : List AV} {σ : Nat → SB} {D : Nat → Prop} (hs : tmps.size = T.length) (h : ∀ t v, T[t]? = some v → VR D σ w v (tmps.getD t undef)) {d : Nat} {v : AV} {x : Value} (hv : VR D σ w v x) :
  ∀ t u, (T.set d v)[t]? = some u → VR D σ w u ((tmps.setIfInBounds d x).getD t undef) := by
 intro t u hu
 rw [List.getElem?_set] at hu
 by_cases hd : d = t
 ·subst hd
  by_cases hl : d < T.length
  ·simp [hl] at hu; subst hu
   have : d < tmps.size := by omega
   simp [this]; exact hv
  ·simp [hl] at hu
 ·simp [hd] at hu
  have := h t u hu
  simp only [Array.getD_eq_getD_getElem?] at this ⊢
  rw [Array.getElem?_setIfInBounds_ne hd]
  exact this
theorem Rel.put (h : Rel E base w0 ok en G s a w) {v : AV} {x : Value} (hv : VR G.D G.σ w v x) (d : Option Nat) : Rel E base w0 ok en G (s.put d v) (a.put d x) w := by
 cases d with
 | none => exact h
 | some d =>
   have hput : s.put (some d) v = { s with T := s.T.set d v } := by simp only [St.put, ka]
   rw [hput]
   refine ⟨h.defers, ?_, qit h.size h.val hv, h.mem, h.below, h.glob, h.base, h.grow, h.held, h.lo, h.fr⟩
   simp [Act.put, h.size]
theorem Rel.gam (h : Rel E base w0 ok en G s a w) {M' : Mem} (hD : ∀ c, G.D c → G'.D c) (hσ : G'.σ = G.σ) (hm : MemOK base ok G' w M') (hl : M'.length = s.M.length) : Rel E base w0 ok en G' { s with M := M' } a w := by
 have hg : ∀ c, G.D c → G'.D c ∧ w.heap[c]? = w.heap[c]? := fun c hc => ⟨hD c hc, rfl⟩
 refine ⟨h.defers, h.size, fun t v ht => (h.val t v ht).grow hg (fun b _ => by rw [hσ]), hm, h.below, h.glob.mono hg, h.base, fun c hc => ⟨hD c (h.grow c hc).1, (h.grow c hc).2⟩, fun b hb hn => by rw [hσ]; exact h.held b hb hn, ?_, h.fr⟩
 show s.lo ≤ M'.length
 rw [hl]; exact h.lo
theorem Rel.freezeD (h : Rel E base w0 ok en G s a w) (b : Nat) : ∃ G', Rel E base w0 ok en G' { s with M := s.M.modify b VO } a w ∧ G'.σ = G.σ ∧ ∀ c, G.D c → G'.D c := by
 obtain ⟨D', h1, h2, h3⟩ := Ra h.mem b
 exact ⟨⟨G.σ, D'⟩, h.gam h1 rfl h3 (by simp), rfl, h1⟩
theorem Rel.freeze (h : Rel E base w0 ok en G s a w) (b : Nat) : ∃ G', Rel E base w0 ok en G' { s with M := s.M.modify b VO } a w ∧ G'.σ = G.σ := by
 obtain ⟨G', h1, h2, _⟩ := h.freezeD b
 exact ⟨G', h1, h2⟩
theorem Rel.frz1 (h : Rel E base w0 ok en G s a w) (v : AV) : ∃ G', Rel E base w0 ok en G' { s with M := frz1 s.M v } a w ∧ G'.σ = G.σ := by
 cases v with
 | vec b => exact h.freeze b
 | vsl b i j => exact h.freeze b
 | _ => exact ⟨G, h, rfl⟩
theorem Rel.frzs : ∀ (vs : List AV) {s : St} {G : Gam}, Rel E base w0 ok en G s a w → ∃ G', Rel E base w0 ok en G' { s with M := frzs s.M vs } a w ∧ G'.σ = G.σ
 | [], s, G, h => ⟨G, h, rfl⟩
 | v :: r, s, G, h => by
   obtain ⟨G1, h1, e1⟩ := h.frz1 v
   obtain ⟨G2, h2, e2⟩ := Rel.frzs r h1
   exact ⟨G2, h2, e2.trans e1⟩
theorem Rel.frz (h : Rel E base w0 ok en G s a w) (v : AV) : ∃ G', Rel E base w0 ok en G' { s with M := frz s.M v } a w ∧ G'.σ = G.σ := by
 unfold Sx.frz
 split
 ·exact Rel.frzs _ h
 ·exact h.frz1 _
theorem Rel.frzArgs : ∀ (vs : List AV) {s : St} {G : Gam}, Rel E base w0 ok en G s a w → ∃ G', Rel E base w0 ok en G' { s with M := frzArgs s.M vs } a w ∧ G'.σ = G.σ
 | [], s, G, h => ⟨G, h, rfl⟩
 | v :: r, s, G, h => by
   obtain ⟨G1, h1, e1⟩ := h.frz v
   obtain ⟨G2, h2, e2⟩ := Rel.frzArgs r h1
   exact ⟨G2, h2, e2.trans e1⟩
theorem Rel.frzOp (h : Rel E base w0 ok en G s a w) (ev : Operand → AV) (o : Oper) : ∃ G', Rel E base w0 ok en G' { s with M := frzOp ev s.M o } a w ∧ G'.σ = G.σ := by
 unfold Sx.frzOp
 split
 ·split
  ·exact Rel.frzArgs _ h
  ·exact ⟨G, h, rfl⟩
 ·exact Rel.frzArgs _ h
 ·exact ⟨G, h, rfl⟩
theorem MemOK.step {M M' : Mem} (hm : MemOK base ok G w M) {slot : Nat} {b : Option Blk} (hst : Step G w slot b G' w') (hslot : G.σ slot = .none) (hbase : base ≤ w.heap.size)
  (h1 : ∀ j x, M'[j]? = some x → (j ≠ slot ∧ M[j]? = some x) ∨ (j = slot ∧ (b = some x ∨ x = .dead))) (hlen : M.length ≤ M'.length) (hb : b = none ∨ slot < M'.length) : MemOK base ok G' w' M' := by
 have hg : ∀ c, G.D c → G'.D c ∧ w'.heap[c]? = w.heap[c]? := fun c hc => ⟨hst.keep c hc, hst.below.block c (hm.dlt c hc)⟩
 have hσ : ∀ i, G.σ i ≠ .none → G'.σ i = G.σ i := fun i hi => hst.σ i fun e => hi (e ▸ hslot)
 have hsize := hst.below.size
 refine ⟨?_, ?_, ?_, ?_, ?_, ?_⟩
 ·intro j x hj
  rcases h1 j x hj with ⟨hne, hj⟩ | ⟨rfl, hx⟩
  ·rw [hst.σ j hne]
   refine (hm.blocks j x hj).mono hg hσ fun c hc => hst.below.block c (hm.own j x c hj hc).2.1
  ·rcases hx with hx | rfl
   ·have := hst.slot; rw [hx] at this; exact this.1
   ·trivial
 ·intro j x c hj hc
  rcases h1 j x hj with ⟨hne, hj⟩ | ⟨rfl, hx⟩
  ·rw [hst.σ j hne] at hc
   obtain ⟨a1, a2, a3⟩ := hm.own j x c hj hc
   refine ⟨a1, by omega, fun h => ?_⟩
   rcases hst.new c h with h | h
   ·exact a3 h
   ·omega
  ·rcases hx with hx | rfl
   ·have := hst.slot; rw [hx] at this
    obtain ⟨a1, a2, a3⟩ := this.2 c hc
    exact ⟨by omega, a2, a3⟩
   ·cases hh : G'.σ j <;> rw [hh] at hc <;> simp [mutC] at hc
 ·intro j j' x x' c hj hc hj' hc'
  have old : ∀ j x, M'[j]? = some x → mutC (G'.σ j) x = some c → (j ≠ slot ∧ M[j]? = some x ∧ mutC (G.σ j) x = some c ∧ c < w.heap.size) ∨ (j = slot ∧ w.heap.size ≤ c) := by
   intro j x hj hc
   rcases h1 j x hj with ⟨hne, hj⟩ | ⟨rfl, hx⟩
   ·rw [hst.σ j hne] at hc
    exact .inl ⟨hne, hj, hc, (hm.own j x c hj hc).2.1⟩
   ·rcases hx with hx | rfl
    ·have := hst.slot; rw [hx] at this
     exact .inr ⟨rfl, (this.2 c hc).1⟩
    ·cases hh : G'.σ j <;> rw [hh] at hc <;> simp [mutC] at hc
  rcases old j x hj hc with ⟨a1, a2, a3, a4⟩ | ⟨a1, a2⟩ <;> rcases old j' x' hj' hc' with ⟨b1, b2, b3, b4⟩ | ⟨b1, b2⟩
  ·exact hm.apart j j' x x' c a2 a3 b2 b3
  ·omega
  ·omega
  ·rw [a1, b1]
 ·intro c h
  rcases hst.new c h with h | h
  ·have := hm.dlt c h; omega
  ·exact h.2
 ·intro c h
  rcases hst.new c h with h | h
  ·exact hm.dok c h
  ·exact .inr (by omega)
 ·intro i hi
  by_cases hne : i = slot
  ·subst hne
   rcases hb with rfl | hb
   ·have := hst.slot; simp only at this; rw [this]; exact hslot
   ·omega
  ·rw [hst.σ i hne]; exact hm.out i (by omega)
theorem Rel.step (h : Rel E base w0 ok en G s a w) {slot : Nat} {b : Option Blk} (hst : Step G w slot b G' w') (hslot : G.σ slot = .none) {M' : Mem}
  (h1 : ∀ j x, M'[j]? = some x → (j ≠ slot ∧ s.M[j]? = some x) ∨ (j = slot ∧ (b = some x ∨ x = .dead))) (hlen : s.M.length ≤ M'.length) (hb : b = none ∨ slot < M'.length) : Rel E base w0 ok en G' { s with M := M' } a w' := by
 have hg : ∀ c, G.D c → G'.D c ∧ w'.heap[c]? = w.heap[c]? := fun c hc => ⟨hst.keep c hc, hst.below.block c (h.mem.dlt c hc)⟩
 have hσ : ∀ i, G.σ i ≠ .none → G'.σ i = G.σ i := fun i hi => hst.σ i fun e => hi (e ▸ hslot)
 have hsize := hst.below.size
 refine ⟨h.defers, h.size, fun t v ht => (h.val t v ht).grow hg hσ, h.mem.step hst hslot h.base h1 hlen hb, h.below.trans (hst.below.mono h.base), h.glob.mono hg, Nat.le_trans h.base hsize, fun c hc => ⟨hst.keep c (h.grow c hc).1, ?_⟩, fun b hb hn => ?_, ?_, h.fr⟩
 ·rw [(hg c (h.grow c hc).1).2]; exact (h.grow c hc).2
 ·obtain ⟨e1, e2⟩ := h.held b hb hn
  exact ⟨by rw [hσ b (by rw [e1]; exact hn)]; exact e1, e2⟩
 ·exact Nat.le_trans h.lo hlen
theorem Rel.push (h : Rel E base w0 ok en G s a w) {b : Option Blk} (hst : Step G w s.M.length b G' w') : Rel E base w0 ok en G' { s with M := Bh s.M b } a w' := by
 refine h.step hst (h.mem.out _ (Nat.le_refl _)) (fun j x hj => ?_) ?_ ?_
 ·cases b with
  | none =>
    refine .inl ⟨?_, hj⟩
    have := (List.getElem?_eq_some_iff.1 hj).1
    simp only [Bh] at this; omega
  | some y =>
    simp only [Bh, List.getElem?_append] at hj
    split at hj
    ·exact .inl ⟨by omega, hj⟩
    ·rename_i hlt
     have h2 := (List.getElem?_eq_some_iff.1 hj).1
     simp at h2
     have e : j = s.M.length := by omega
     subst e
     simp at hj
     exact .inr ⟨rfl, .inl (by rw [hj])⟩
 ·cases b <;> simp [Bh]
 ·cases b <;> simp [Bh]
theorem Rel.write (h : Rel E base w0 ok en G s a w) {b c : Nat} {x x' : Blk} (hb : s.M[b]? = some x) (hc : mutC (G.σ b) x = some c) (hother : ∀ k, k ≠ c → w'.heap[k]? = w.heap[k]?) (hsz : w'.heap.size = w.heap.size)
  (hbelow : w'.os = w.os ∧ w'.tape = w.tape ∧ w'.output = w.output) (hbr : BR G.D G.σ w' (G.σ b) x') (hc' : ∀ c', mutC (G.σ b) x' = some c' → c' = c) : Rel E base w0 ok en G { s with M := s.M.set b x' } a w' := by
 obtain ⟨o1, o2, o3⟩ := h.mem.own b x c hb hc
 have hg : ∀ k, G.D k → G.D k ∧ w'.heap[k]? = w.heap[k]? := fun k hk => ⟨hk, hother k fun e => o3 (e ▸ hk)⟩
 have hget : ∀ j y, (s.M.set b x')[j]? = some y → (j ≠ b ∧ s.M[j]? = some y) ∨ (j = b ∧ y = x') := by
  intro j y hj
  rw [List.getElem?_set] at hj
  by_cases e : b = j
  ·subst e
   have : b < s.M.length := (List.getElem?_eq_some_iff.1 hb).1
   simp [this] at hj; exact .inr ⟨rfl, hj.symm⟩
  ·simp [e] at hj; exact .inl ⟨fun q => e q.symm, hj⟩
 have hbel : Below base w w' := ⟨hbelow.1, hbelow.2.1, hbelow.2.2, by omega, fun k hk => hother k (by omega)⟩
 refine ⟨h.defers, h.size, fun t v ht => (h.val t v ht).grow hg (fun _ _ => rfl), ⟨?_, ?_, ?_, ?_, h.mem.dok, ?_⟩, h.below.trans hbel, h.glob.mono hg, by rw [hsz]; exact h.base, fun k hk => ⟨(h.grow k hk).1, ?_⟩, h.held, by simpa using h.lo, h.fr⟩
 ·intro j y hj
  rcases hget j y hj with ⟨hne, hj⟩ | ⟨rfl, rfl⟩
  ·refine (h.mem.blocks j y hj).mono hg (fun _ _ => rfl) fun k hk => hother k fun e => ?_
   exact hne ((h.mem.apart b j x y c hb hc hj (e ▸ hk)))
  ·exact hbr
 ·intro j y k hj hk
  rcases hget j y hj with ⟨hne, hj⟩ | ⟨rfl, rfl⟩
  ·rw [hsz]; exact h.mem.own j y k hj hk
  ·rw [hc' k hk, hsz]; exact ⟨o1, o2, o3⟩
 ·intro j j' y y' k hj hk hj' hk'
  rcases hget j y hj with ⟨hne, hq⟩ | ⟨e1, e2⟩
  ·rcases hget j' y' hj' with ⟨hne', hq'⟩ | ⟨e1', e2'⟩
   ·exact h.mem.apart j j' y y' k hq hk hq' hk'
   ·subst e1'; subst e2'
    rw [hc' k hk'] at hk
    exact (h.mem.apart j j' y x c hq hk hb hc)
  ·subst e1; subst e2
   rcases hget j' y' hj' with ⟨hne', hq'⟩ | ⟨e1', e2'⟩
   ·rw [hc' k hk] at hk'
    exact (h.mem.apart j j' x y' c hb hc hq' hk')
   ·exact e1'
 ·intro k hk; rw [hsz]; exact h.mem.dlt k hk
 ·intro i hi; exact h.mem.out i (by simpa using hi)
 ·rw [(hg k (h.grow k hk).1).2]; exact (h.grow k hk).2
end Go.Sx
namespace Go.Sx
open Go
open Go.RowKit (Below)
variable {P : Program} {E : Env} {base : Nat} {w0 : GW} {ok : Nat → Prop} {en : Ent} {G G' : Gam} {s : St} {a : Act} {w w' : GW} {R : Type}
theorem Vo {t : TypeId} {i : TyI} (hi : TyFacts P t i) {c off : Nat} {vs : Array Value} {ty : TypeId} (hb : w.heap[c]? = some (.cells vs ty (0, 0))) {x : Value} (hx : x.cells.size = i.size) (ho : ∀ v ∈ x.cells.toList, v.oneCell' = true) (hle : off + i.size ≤ vs.size) :
  (Instr.storeAt t (.pointer (some ((blkA c).add off))) x).run P w = .ok () (w.setRow c (vs.toList.take off ++ x.cells.toList ++ vs.toList.drop (off + i.size)).toArray) := by
 unfold Instr.storeAt storeVar
 simp only [Sem.run_bind, qN, Result.andThen_ok, qP hi w, hx]
 have h := run_storeCells_at P c off ty x.cells.toList 0 vs w hb (by simp [hx]; exact hle) ho
 have e : (blkA c).add off = ⟨c, off, none⟩ := by rw [blkA, add_lit]; simp
 rw [e]
 simp only [ne_eq, not_true, ite_false, if_false]
 simp only [Nat.add_zero] at h
 have e2 : x.cells.toList.length = i.size := by simp [hx]
 rw [e2] at h
 exact h
theorem UJ {D : Nat → Prop} {σ : Nat → SB} {size : Nat} {v : AV} {x : Value} (h : jM size v = true) (hv : VR D σ w v x) : x.cells.size = size ∧ (∀ u ∈ x.cells.toList, u.oneCell' = true) ∧ LR (VR D σ w) (jc v) x.cells.toList := by
 obtain ⟨h1, h2, h3⟩ := zW h hv
 refine ⟨h1, fun u hu => ?_, h2⟩
 obtain ⟨q, hq, rfl⟩ := List.getElem_of_mem hu
 exact (h2.2 q (by rw [h2.1]; exact hq) hq).1
theorem Qq {cs cs' : List AV} {off : Nat} {v : AV} (h : Sx.storeCells cs off v = some cs') : cs' = zg cs off v ∧ off + (jc v).length ≤ cs.length := by
 unfold Sx.storeCells at h
 split at h
 ·replace h := qr h
  obtain ⟨hb, h⟩ := h
  cases h
  exact ⟨rfl, Nat.le_of_ble_eq_true hb⟩
 ·simp at h
 ·simp at h
 ·simp at h
 ·rename_i h1 h2 h3 h4
  replace h := qr h
  obtain ⟨hb, h⟩ := h
  cases h
  have hb' : off < cs.length := Nat.le_of_ble_eq_true hb
  cases v <;> first | exact absurd rfl (h1 _) | exact absurd rfl (h2 _) | exact absurd rfl h3 | exact absurd rfl h4 | exact ⟨rfl, by simp [jc]; omega⟩
theorem LR.of_cellsR {R : AV → Value → Prop} {cs : List AV} {vs : Array Value} (h : vC R cs vs) : LR R cs vs.toList := ⟨by simp [h.1], fun i h1 h2 => by simpa using h.2 i h1 (by simpa using h2)⟩
theorem kT (w : GW) (c : Nat) (cs : Array Value) : (∀ k, k ≠ c → (w.setRow c cs).heap[k]? = w.heap[k]?) ∧ (w.setRow c cs).heap.size = w.heap.size ∧ ((w.setRow c cs).os = w.os ∧ (w.setRow c cs).tape = w.tape ∧ (w.setRow c cs).output = w.output) :=
 ⟨fun k hk => setRow_other w c k cs hk, setRow_size w c cs, rfl, rfl, rfl⟩
theorem YO (hE : EnvOK P E) (h : Rel E base w0 ok en G s a w) {t : TypeId} {i : TyI} (hi : E.t t = some i) {b off : Nat} {u x : Value} {v : AV} (hu : VR G.D G.σ w (.ptr b off) u) (hv : VR G.D G.σ w v x) (hf : jM i.size v = true) {cs cs' : List AV} (hb : s.M[b]? = some (.cells cs)) (hs : Sx.storeCells cs off v = some cs') :
  ∃ w', (Instr.storeAt t u x).run P w = .ok () w' ∧ Rel E base w0 ok en G { s with M := s.M.set b (.cells cs') } a w' := by
 obtain ⟨c, hc, rfl⟩ := hu.ptr_inv
 obtain ⟨c', vs, ty, e1, e2, e3⟩ := h.mem.blocks b _ hb
 rw [hc] at e1
 cases e1
 obtain ⟨f1, f2, f3⟩ := UJ hf hv
 obtain ⟨rfl, hle⟩ := Qq hs
 have hl : (jc v).length = i.size := by rw [f3.1]; simpa using f1
 have hvl : vs.size = cs.length := e3.1
 refine ⟨_, Vo (hE.ty t i hi) e2 f1 f2 (by omega), ?_⟩
 obtain ⟨g1, g2, g3⟩ := kT w c (vs.toList.take off ++ x.cells.toList ++ vs.toList.drop (off + i.size)).toArray
 have hmut : mutC (G.σ b) (.cells cs) = some c := by rw [hc]; rfl
 have hmut' : ∀ c', mutC (G.σ b) (.cells (zg cs off v)) = some c' → c' = c := by intro c' h'; rw [hc] at h'; cases h'; rfl
 refine h.write hb hmut g1 g2 g3 ?_ hmut'
 refine ⟨c, _, ty, hc, setRow_heap w c vs _ ty _ e2, ?_⟩
 have hD : ∀ k, G.D k → G.D k ∧ (w.setRow c (vs.toList.take off ++ x.cells.toList ++ vs.toList.drop (off + i.size)).toArray).heap[k]? = w.heap[k]? := fun k hk => ⟨hk, g1 k fun e => (h.mem.own b _ c hb hmut).2.2 (e ▸ hk)⟩
 have hLR : LR (VR G.D G.σ w) (zg cs off v) (vs.toList.take off ++ x.cells.toList ++ vs.toList.drop (off + i.size)) := by
  rw [kI _ _ _ (by omega), hl]
  exact (((LR.of_cellsR e3).take off).append f3).append ((LR.of_cellsR e3).drop (off + i.size))
 exact (hLR.cellsR).mono fun _ _ hh => hh.grow hD (fun _ _ => rfl)
theorem qi0 (vs xs : List Value) (p q : Nat) (h : p + xs.length ≤ vs.length) :
  (vs.take p ++ xs ++ vs.drop (p + xs.length)).toArray.getD q undef = if p ≤ q ∧ q < p + xs.length then xs.getD (q - p) undef else vs.toArray.getD q undef := by
 simp only [Array.getD_eq_getD_getElem?, List.getElem?_toArray, List.getElem?_append, List.length_append, List.length_take, List.getElem?_take, List.getElem?_drop, List.getD_eq_getElem?_getD]
 rw [show min p vs.length = p by omega]
 by_cases h1 : q < p
 ·simp [h1, show q < p + xs.length by omega, show ¬ p ≤ q by omega]
 ·by_cases h2 : q < p + xs.length
  ·simp [h1, h2, show p ≤ q by omega]
  ·simp [h1, h2, show p + xs.length + (q - (p + xs.length)) = q by omega]
theorem qlk {size i j : Nat} {i' j' : Nat} (hj : j < size) (hj' : j' < size) (h : i * size + j = i' * size + j') : i = i' ∧ j = j' := by
 have h1 : (i * size + j) / size = i := by rw [Nat.mul_comm, Nat.mul_add_div (by omega), Nat.div_eq_of_lt hj]; omega
 have h2 : (i' * size + j') / size = i' := by rw [Nat.mul_comm, Nat.mul_add_div (by omega), Nat.div_eq_of_lt hj']; omega
 have : i = i' := by rw [← h1, h, h2]
 subst this
 exact ⟨rfl, by omega⟩
theorem MP (hE : EnvOK P E) (h : Rel E base w0 ok en G s a w) {t : TypeId} {i : TyI} (hi : E.t t = some i) {b off : Nat} {j : Int} {u x : Value} {v v' : AV} (hu : VR G.D G.σ w (.vref b j off) u) (hv : VR G.D G.σ w v x) (hf : jM i.size v = true)
  {e : Kd} {l : List e.T} (hb : s.M[b]? = some (.vec e l)) {y y' : e.T} (hy : lget l j = some y) (hd : km s.M v = some v') {cs : List AV} (hs : Sx.storeCells (e.cells y) off v' = some cs) (hc' : e.ofCells cs = some y') :
  ∃ w', (Instr.storeAt t u x).run P w = .ok () w' ∧ Rel E base w0 ok en G { s with M := s.M.set b (.vec e (lset l j y')) } a w' := by
 obtain ⟨c, len, cap, sz, hσ, h0, h1, rfl⟩ := hu.vref_inv
 obtain ⟨A, cap', e1, e2, e3, e4⟩ := h.mem.blocks b _ hb
 rw [hσ] at e1
 cases e1
 obtain ⟨vs, ty, e5, e6, e7, e8⟩ := e4 c rfl
 obtain ⟨f1, f2, f3⟩ := UJ hf hv
 obtain ⟨rfl, hle⟩ := Qq hs
 have hdr := kl h.mem hv hd
 have hl : (jc v).length = i.size := by rw [f3.1]; simpa using f1
 have hl' : (jc v').length = (jc v).length := by
  unfold km at hd
  split at hd
  ·rename_i cs0
   simp only [Option.bind_eq_some_iff, Option.some.injEq] at hd
   obtain ⟨ds, hds, rfl⟩ := hd
   exact (kh h.mem hds).1.symm
  ·rename_i hne
   have : ∀ cs, v' ≠ .agg cs := by
    intro cs hcs
    subst hcs
    unfold vx at hd
    split at hd <;> try (simp at hd; done)
    ·split at hd <;> simp at hd
    ·split at hd <;> simp at hd
   have e1 : jc v = [v] := by cases v <;> first | rfl | exact absurd rfl (hne _)
   have e2 : jc v' = [v'] := by cases v' <;> first | rfl | exact absurd rfl (this _)
   rw [e1, e2]; rfl
 have hv'LR : LR (DR G.D w) (jc v') x.cells.toList := by
  have : jM i.size v' = true := by
   unfold km at hd
   split at hd
   ·rename_i cs0
    simp only [Option.bind_eq_some_iff, Option.some.injEq] at hd
    obtain ⟨ds, hds, rfl⟩ := hd
    simp only [jM]
    have := hl'
    simp only [jc] at this hl
    rw [this, hl]; exact Nat.beq_refl _
   ·have hs1 : i.size = 1 := by
     rename_i hne
     cases v <;> first | exact absurd rfl (hne _) | (simp [jM] at hf; done) | exact Nat.eq_of_beq_eq_true hf
    unfold vx at hd
    split at hd <;> first | (simp at hd; done) | (cases hd; rw [hs1]; rfl) | skip
    ·split at hd
     ·cases hd; rw [hs1]; rfl
     ·simp at hd
    ·split at hd
     ·cases hd; rw [hs1]; rfl
     ·simp at hd
  have hx1 : LR (VR G.D (fun _ => SB.none) w) (jc v') x.cells.toList := (zW this (.data _ _ hdr)).2.1
  refine ⟨hx1.1, fun q h1 h2 => ⟨(hx1.2 q h1 h2).1, ?_⟩⟩
  cases v' with
  | agg cs0 =>
    cases hdr with
    | agg _ xs hl0 ho hh =>
      exact hh q h1 (by simpa [Value.cells] using h2)
  | _ =>
    have hq : q = 0 := by simp [jc] at h1; exact h1
    subst hq
    have hone : x.oneCell' = true := VR.one (σ := fun _ => SB.none) (.data _ _ hdr) (by intro cs hc; cases hc) (by intro cs hc; cases hc <;> simp [jM] at this) (by intro hc; cases hc <;> simp [jM] at this) (by intro hc; cases hc <;> simp [jM] at this)
    simp only [ve hone]
    exact hdr
 have hjl : j.toNat < l.length := by omega
 have hy' : y = l[j.toNat] := by
  unfold lget at hy
  rw [if_pos h0, List.getElem?_eq_getElem hjl] at hy
  exact (Option.some.inj hy).symm
 have hoff : off + i.size ≤ e.size := by rw [← Kd.cells_length e y]; omega
 have hrow : (j.toNat + 1) * e.size ≤ cap * e.size := Nat.mul_le_mul_right _ (by omega)
 rw [Nat.add_mul, Nat.one_mul] at hrow
 have hpl : j.toNat * e.size + off + i.size ≤ vs.size := by rw [e6]; omega
 refine ⟨_, Vo (hE.ty t i hi) e5 f1 f2 hpl, ?_⟩
 generalize hrw : (vs.toList.take (j.toNat * e.size + off) ++ x.cells.toList ++ vs.toList.drop (j.toNat * e.size + off + i.size)).toArray = row
 obtain ⟨g1, g2, g3⟩ := kT w c row
 have hxl : x.cells.toList.length = i.size := by simpa using f1
 have hgetrow : ∀ q, row.getD q undef = if j.toNat * e.size + off ≤ q ∧ q < j.toNat * e.size + off + i.size then x.cells.toList.getD (q - (j.toNat * e.size + off)) undef else vs.getD q undef := by
  intro q
  have := qi0 vs.toList x.cells.toList (j.toNat * e.size + off) q (by rw [hxl]; simpa using hpl)
  rw [hxl, hrw] at this
  rw [this]
 have hmut : mutC (G.σ b) (.vec e l) = some c := by rw [hσ]; rfl
 have hD : ∀ k, G.D k → G.D k ∧ (w.setRow c row).heap[k]? = w.heap[k]? := fun k hk => ⟨hk, g1 k fun e' => (h.mem.own b _ c hb hmut).2.2 (e' ▸ hk)⟩
 refine h.write hb hmut g1 g2 g3 ?_ (by intro c' h'; rw [hσ] at h'; cases h'; rfl)
 have hll : (lset l j y').length = l.length := by simp [lset]
 refine ⟨some c, cap, by rw [hll]; exact hσ, by rw [hll]; exact e2, by simp, fun c' hcc => ?_⟩
 cases hcc
 refine ⟨row, ty, setRow_heap w c vs _ ty _ e5, by rw [← hrw]; simp; omega, ?_, ?_⟩
 ·intro u hu
  rw [← hrw] at hu
  simp only [List.mem_append] at hu
  rcases hu with (hu | hu) | hu
  ·exact e7 u (List.mem_of_mem_take hu)
  ·exact f2 u hu
  ·exact e7 u (List.mem_of_mem_drop hu)
 ·intro k hk q hq
  have hkl : k < l.length := by rw [hll] at hk; exact hk
  have hq' : q < e.size := jm hk hq
  refine DR.mono hD ?_
  rw [hgetrow]
  by_cases hkj : k = j.toNat
  ·subst hkj
   have hel : (lset l j y')[j.toNat]'hk = y' := by simp [lset]
   have hc2 := Kd.ofCells_as hc'
   have hfl : (zg (e.cells y) off v').length = (e.cells y).length := by
    rw [kI _ _ _ hle]; simp; omega
   have hcell : ∀ (q : Nat) (hq1 : q < (zg (e.cells y) off v').length), DR G.D w ((zg (e.cells y) off v')[q]) (if j.toNat * e.size + off ≤ j.toNat * e.size + q ∧ j.toNat * e.size + q < j.toNat * e.size + off + i.size then x.cells.toList.getD (j.toNat * e.size + q - (j.toNat * e.size + off)) undef else vs.getD (j.toNat * e.size + q) undef) := by
    intro q hq1
    have hq2 : q < e.size := by rw [← Kd.cells_length e y, ← hfl]; exact hq1
    have hfc := kI _ _ _ hle
    by_cases hin : off ≤ q ∧ q < off + i.size
    ·rw [if_pos (by omega)]
     have hx3 : q - off < (jc v').length := by omega
     have e9 : (zg (e.cells y) off v')[q] = (jc v')[q - off] := by
      have : (zg (e.cells y) off v')[q]? = some ((jc v')[q - off]) := by
       rw [hfc, List.append_assoc, List.getElem?_append_right (by simp; omega), List.getElem?_append_left (by simp; omega)]
       simp only [List.length_take]
       rw [show min off (e.cells y).length = off by omega, List.getElem?_eq_getElem hx3]
      rw [List.getElem?_eq_getElem hq1] at this
      exact Option.some.inj this
     rw [e9]
     have := (hv'LR.2 (q - off) hx3 (by rw [← hv'LR.1]; exact hx3)).2
     rw [show j.toNat * e.size + q - (j.toNat * e.size + off) = q - off by omega, List.getD_eq_getElem?_getD, List.getElem?_eq_getElem (by rw [← hv'LR.1]; exact hx3)]
     exact this
    ·rw [if_neg (by omega)]
     have hq4 : q < (e.cells y).length := by rw [Kd.cells_length]; exact hq2
     have e9 : (zg (e.cells y) off v')[q] = (e.cells y)[q] := by
      have : (zg (e.cells y) off v')[q]? = some ((e.cells y)[q]) := by
       rw [hfc, ← List.getElem?_eq_getElem hq4]
       by_cases hlo : q < off
       ·rw [List.append_assoc, List.getElem?_append_left (by simp; omega)]
        simp [hlo]
       ·rw [List.getElem?_append_right (by simp; omega)]
        simp only [List.length_append, List.length_take, List.getElem?_drop]
        congr 1
        omega
      rw [List.getElem?_eq_getElem hq1] at this
      exact Option.some.inj this
     rw [e9]
     subst hy'
     exact e8 j.toNat hjl q hq4
   have hq1 : q < (zg (e.cells y) off v').length := by rw [hfl, Kd.cells_length]; exact hq'
   have h10 := hc2.get q hq1 (by rw [Kd.cells_length]; exact hq') _ _ _ (hcell q hq1)
   have e11 : (e.cells ((lset l j y')[j.toNat]'hk))[q] = (e.cells y')[q]'(by rw [Kd.cells_length]; exact hq') := by
    congr 1
    rw [hel]
   rw [e11]
   exact h10
  ·have hne : ¬ (j.toNat * e.size + off ≤ k * e.size + q ∧ k * e.size + q < j.toNat * e.size + off + i.size) := by
    rintro ⟨a1, a2⟩
    have : k * e.size + q = j.toNat * e.size + (k * e.size + q - j.toNat * e.size) := by omega
    have := qlk hq' (by omega) this
    exact hkj this.1
   rw [if_neg hne]
   have hel : (lset l j y')[k]'hk = l[k] := by simp [lset, List.getElem_set]; intro h'; exact absurd h'.symm hkj
   have e11 : (e.cells ((lset l j y')[k]'hk))[q] = (e.cells l[k])[q]'(by rw [Kd.cells_length]; exact hq') := by
    congr 1
    rw [hel]
   rw [e11]
   exact e8 k hkl q _
end Go.Sx
namespace Go.Sx
open Go
open Go.RowKit (Below)
variable {P : Program} {E : Env} {base : Nat} {w0 : GW} {ok : Nat → Prop} {en : Ent} {G G' : Gam} {s : St} {a : Act} {w w' : GW} {R : Type}
theorem MR (hE : EnvOK P E) (h : Rel E base w0 ok en G s a w) {t : TypeId} {i : TyI} (hi : E.t t = some i) {b off c : Nat} {x : Value} {v : AV} (hc : G.σ b = .blk c) (hv : VR G.D G.σ w v x) (hf : jM i.size v = true) {cs : List AV} (hb : s.M[b]? = some (.cells cs)) (hle : off + (jc v).length ≤ cs.length) :
  ∃ w', (Instr.storeAt t (.pointer (some ((blkA c).add off))) x).run P w = .ok () w' ∧ Rel E base w0 ok en G { s with M := s.M.set b (.cells (zg cs off v)) } a w' := by
 have hs : Sx.storeCells cs off v = some (zg cs off v) := by
  unfold Sx.storeCells
  split
  ·rename_i vs
   rw [show Nat.ble (off + vs.length) cs.length = true from Nat.ble_eq_true_of_le hle]
   rfl
  ·simp [jM] at hf
  ·simp [jM] at hf
  ·simp [jM] at hf
  ·rename_i h1 h2 h3 h4
   have e : (jc v).length = 1 := by cases v <;> first | rfl | exact absurd rfl (h1 _)
   have e2 : zg cs off v = cs.set off v := by cases v <;> first | rfl | exact absurd rfl (h1 _)
   rw [show Nat.blt off cs.length = true from Nat.ble_eq_true_of_le (by omega), e2]
   rfl
 exact YO hE h hi (.ptr b off c hc) hv hf hb hs
theorem BO {kk : IntKind} {x : AV} {n : Int} (h : x.asInt kk = some n) : x = .int kk n := by
 unfold AV.asInt at h
 split at h
 ·split at h
  ·rename_i hk; subst hk; cases h; rfl
  ·simp at h
 ·simp at h
theorem Vm {kk : IntKind} {j v : Int} : ∀ (q : Nat) (seg : List AV) (l : List Int), vl kk seg = some l → (vk kk j v q seg).length = seg.length ∧ ∀ i (h : i < seg.length) (h' : i < (vk kk j v q seg).length), (vk kk j v q seg)[i] = if j = ((q + i : Nat) : Int) then .int kk v else seg[i]
 | q, [], l, _ => ⟨rfl, fun i h => by simp at h⟩
 | q, x :: r, l, h => by
   simp only [vl, Option.bind_eq_some_iff, Option.some.injEq] at h
   obtain ⟨n, hn, m, hm, rfl⟩ := h
   obtain ⟨h1, h2⟩ := Vm (kk := kk) (j := j) (v := v) (q + 1) r m hm
   have hx : x = .int kk n := BO hn
   subst hx
   have e : vk kk j v q (.int kk n :: r) = .int kk (cnd (ieq j q) v n) :: vk kk j v (q + 1) r := rfl
   rw [e]
   refine ⟨by simp [h1], fun i h3 h4 => ?_⟩
   cases i with
   | zero =>
     simp only [List.getElem_cons_zero, Nat.add_zero, cnd, ieq]
     by_cases hj : j = (q : Int)
     ·simp [hj]
     ·simp [hj]
   | succ i =>
     simp only [List.getElem_cons_succ]
     rw [h2 i (by simpa using h3) (by simpa using h4), show q + 1 + i = q + (i + 1) by omega]
theorem MQ (hE : EnvOK P E) (h : Rel E base w0 ok en G s a w) {t : TypeId} {i : TyI} (hi : E.t t = some i) {b off n : Nat} {j v : Int} {kk : IntKind} {u x : Value} (hu : VR G.D G.σ w (.pidx b off n j) u) (hv : VR G.D G.σ w (.int kk v) x) (hf : jM i.size (.int kk v) = true) {cs : List AV} (hb : s.M[b]? = some (.cells cs)) (hle : off + n ≤ cs.length) {l : List Int} (hl : vl kk ((cs.drop off).take n) = some l) :
  ∃ w', (Instr.storeAt t u x).run P w = .ok () w' ∧ Rel E base w0 ok en G { s with M := s.M.set b (.cells (cs.take off ++ vk kk j v 0 ((cs.drop off).take n) ++ cs.drop (off + n))) } a w' := by
 obtain ⟨c, hc, h0, h1, rfl⟩ := hu.pidx_inv
 have hlt : off + j.toNat < cs.length := by omega
 have e : cs.take off ++ vk kk j v 0 ((cs.drop off).take n) ++ cs.drop (off + n) = zg cs (off + j.toNat) (.int kk v) := by
  obtain ⟨e1, e2⟩ := Vm (j := j) (v := v) 0 _ l hl
  have e1' : (vk kk j v 0 ((cs.drop off).take n)).length = n := by rw [e1]; simp; omega
  apply List.ext_getElem?
  intro q
  simp only [zg, List.getElem?_append, List.length_append, List.length_take, List.getElem?_take, List.getElem?_drop, List.getElem?_set, e1']
  rw [show min off cs.length = off by omega]
  by_cases hq1 : q < off
  ·simp [hq1, show q < off + n by omega, show ¬ off + j.toNat = q by omega]
  ·by_cases hq2 : q < off + n
   ·simp only [hq1, hq2, if_true, if_false]
    have hq4 : q - off < ((cs.drop off).take n).length := by simp; omega
    rw [List.getElem?_eq_getElem (by rw [e1']; omega), e2 _ hq4 (by rw [e1']; omega)]
    simp only [List.getElem_take, List.getElem_drop, Nat.zero_add]
    by_cases hq3 : off + j.toNat = q
    ·rw [if_pos (by omega), if_pos hq3, if_pos hlt]
    ·rw [if_neg (by omega), if_neg hq3, List.getElem?_eq_getElem (by omega)]
     congr 2
     omega
   ·simp only [hq1, hq2, if_false, show ¬ off + j.toNat = q by omega]
    congr 1
    omega
 rw [e]
 exact MR hE h hi hc hv hf hb (by simp [jc]; omega)
theorem ZR {kk : IntKind} {kv : Kd} (n : Int) (z : kv.T) : ∀ (l : List ((Kd.int kk).T × kv.T)) (es : List MapEntry) (q : Nat), es.length = l.length → (∀ i (h : i < l.length) (h' : i < es.length), es[i].key = .int kk l[i].1) →
  ∃ r, Instr.findNow (.int kk) (.int kk n) es q = some r ∧ (match r with | none => gZ l n z = l ++ [(n, z)] | some p => ∃ i, i < l.length ∧ p.1 = q + i ∧ gZ l n z = l.set i (n, z))
 | [], [], q, _, _ => ⟨none, rfl, rfl⟩
 | [], _ :: _, q, h, _ => by simp at h
 | _ :: _, [], q, h, _ => by simp at h
 | p :: l, e :: es, q, hl, hk => by
   have h0 : e.key = .int kk p.1 := hk 0 (by simp) (by simp)
   by_cases hn : n = p.1
   ·refine ⟨some (q, e.val), ?_, 0, by simp, rfl, ?_⟩
    ·simp only [Instr.findNow, h0, jd, decide_eq_true hn]
    ·simp [gZ, Kd.beq, hn]
   ·obtain ⟨r, h1, h2⟩ := ZR n z l es (q + 1) (by simpa using hl) (fun i h h' => hk (i + 1) (by simpa using h) (by simpa using h'))
    have e2 : gZ (kk := .int kk) (kv := kv) (p :: l) n z = p :: gZ (kk := .int kk) (kv := kv) l n z := by
     simp [gZ, Kd.beq, hn]
    refine ⟨r, ?_, ?_⟩
    ·simp only [Instr.findNow, h0, jd, decide_eq_false hn]
     exact h1
    ·rw [e2]
     cases r with
     | none => rw [h2]; rfl
     | some p' =>
       obtain ⟨i, a, b, c⟩ := h2
       exact ⟨i + 1, by simpa using a, by omega, by rw [c]; rfl⟩
theorem NH {kk : IntKind} {n : Int} : ∀ (ks : List AV) (es : List MapEntry), es.length = ks.length → (∀ i (h : i < ks.length) (h' : i < es.length), VR G.D G.σ w ks[i] es[i].key) → (ks.all (Up kk n)) = true →
  ∀ e ∈ es, ∃ m, e.key = .int kk m ∧ m ≠ n
 | _, [], _, _, _ => fun e he => by simp at he
 | [], _ :: _, h, _, _ => by simp at h
 | k :: ks, e :: es, hl, hk, ha => by
   simp only [List.all_cons, Bool.and_eq_true] at ha
   have h0 := hk 0 (by simp) (by simp)
   simp only [List.getElem_cons_zero] at h0
   have ha1 := ha.1
   unfold Up at ha1
   intro e' he'
   rcases List.mem_cons.1 he' with rfl | he'
   ·split at ha1
    ·rename_i k' m
     simp only [Bool.and_eq_true, decide_eq_true_eq, bnot, Bool.not_eq_true', decide_eq_false_iff_not] at ha1
     obtain ⟨rfl, hne⟩ := ha1
     exact ⟨m, h0.int_inv, fun hh => hne hh.symm⟩
    ·simp at ha1
   ·exact NH ks es (by simpa using hl) (fun i h h' => hk (i + 1) (by simpa using h) (by simpa using h')) ha.2 e' he'
theorem Qf {kk : IntKind} {n : Int} : ∀ (es : List MapEntry) (q : Nat), (∀ e ∈ es, ∃ m, e.key = .int kk m ∧ m ≠ n) → Instr.findNow (.int kk) (.int kk n) es q = some none
 | [], q, _ => rfl
 | e :: es, q, h => by
   obtain ⟨m, hm, hne⟩ := h e (by simp)
   simp only [Instr.findNow, hm, jd, decide_eq_false (fun hh : n = m => hne hh.symm)]
   exact Qf es (q + 1) fun e' he' => h e' (List.mem_cons_of_mem _ he')
theorem vU {mt kt et : TypeId} {kk : IntKind} (hm : P.underlying mt = some (.map kt et)) (hd : P.underlying kt = some (.int kk)) {c : Nat} {es : Array MapEntry} {clock : Nat} (hb : w.heap[c]? = some (.map es clock)) {n : Int} {r : Option (Nat × Value)}
  (hf : Instr.findNow (.int kk) (.int kk n) es.toList 0 = some r) (hkeys : ∀ p, r = some p → ∃ h : p.1 < es.size, es[p.1].key = .int kk n) (v : Value) :
  (Instr.mapUpdate mt (.map (some c)) (.int kk n) v).run P w = .ok () { w with heap := w.heap.setIfInBounds c (match r with
   | some p => .map (es.modify p.1 fun e => { e with key := .int kk n, val := v }) clock
   | none => .map (es.push { key := .int kk n, val := v, born := clock }) (clock + 1)) } := by
 unfold Instr.mapUpdate
 simp only [Sem.run_bind, run_underlying hm w, Result.andThen_ok, MapKept.run_getObj_map hb, MapKept.run_checkKey (d := .int kk) (k := .int kk n) hd rfl, MapKept.run_findKey hd hf]
 cases r with
 | none => exact MapKept.run_setObj_map _ hb
 | some p =>
   obtain ⟨hlt, hk⟩ := hkeys p rfl
   have hs : (Instr.keyThatStays (((es[p.1]?).map (·.key)).getD (.int kk n)) (.int kk n)).run P w = .ok (.int kk n) w := by
    rw [Array.getElem?_eq_getElem hlt, Option.map_some, Option.getD_some, hk]
    simp [Instr.keyThatStays, Instr.sameBits]
   simp only [Sem.run_bind, hs, Result.andThen_ok]
   exact MapKept.run_setObj_map _ hb
theorem gT (w : GW) (c : Nat) (o : Obj) : (∀ k, k ≠ c → ({ w with heap := w.heap.setIfInBounds c o } : GW).heap[k]? = w.heap[k]?) ∧ ({ w with heap := w.heap.setIfInBounds c o } : GW).heap.size = w.heap.size ∧ (({ w with heap := w.heap.setIfInBounds c o } : GW).os = w.os ∧ ({ w with heap := w.heap.setIfInBounds c o } : GW).tape = w.tape ∧ ({ w with heap := w.heap.setIfInBounds c o } : GW).output = w.output) :=
 ⟨fun k hk => by simp [Ne.symm hk], by simp, rfl, rfl, rfl⟩
theorem qg2 (hE : EnvOK P E) (h : Rel E base w0 ok en G s a w) {mt kt et : TypeId} {kk : IntKind} (hm : P.underlying mt = some (.map kt et)) (hd : P.underlying kt = some (.int kk)) {b : Nat} {u : Value} (hu : VR G.D G.σ w (.mref b) u) {kv : Kd} {l : List ((Kd.int kk).T × kv.T)} (hb : s.M[b]? = some (.map (.int kk) kv l)) {n : Int} {x : Value} {z : kv.T} (hx : DR G.D w (kv.of z) x) :
  ∃ w', (Instr.mapUpdate mt u (.int kk n) x).run P w = .ok () w' ∧ Rel E base w0 ok en G { s with M := s.M.set b (.map (.int kk) kv (gZ l n z)) } a w' := by
 obtain ⟨c, hc, rfl⟩ := hu.mref_inv
 obtain ⟨c', es, clock, e1, e2, e3, e4⟩ := h.mem.blocks b _ hb
 rw [hc] at e1
 cases e1
 have hkey : ∀ i (h : i < l.length) (h' : i < es.toList.length), es.toList[i].key = .int kk l[i].1 := fun i h h' => by
  have := (e4 i h (by simpa using h')).1
  generalize hk : es.toList[i].key = y
  have hk2 : es[i].key = y := by simpa using hk
  rw [hk2] at this
  cases this; rfl
 obtain ⟨r, hf, hr⟩ := ZR (kv := kv) n z l es.toList 0 (by simpa using e3) hkey
 obtain ⟨r2, hf2, hr2⟩ := QQ (kv := kv) n l es.toList 0 (by simpa using e3) hkey
 rw [hf] at hf2
 cases hf2
 have hlt : c < w.heap.size := (Array.getElem?_eq_some_iff.1 e2).1
 have hkeys : ∀ p, r = some p → ∃ h : p.1 < es.size, es[p.1].key = .int kk n := by
  intro p hp
  subst hp
  obtain ⟨i, a1, a2, _, _, a4, a5⟩ := hr2
  have hpi : p.1 = i := by omega
  have := hkey i a1 a2
  rw [a5] at this
  subst hpi
  exact ⟨by simpa using a2, by simpa using this⟩
 refine ⟨_, vU hm hd e2 hf hkeys x, ?_⟩
 obtain ⟨g1, g2, g3⟩ := gT w c (match r with
   | some p => .map (es.modify p.1 fun e => { e with key := .int kk n, val := x }) clock
   | none => .map (es.push { key := .int kk n, val := x, born := clock }) (clock + 1))
 have hmut : mutC (G.σ b) (.map (.int kk) kv l) = some c := by rw [hc]; rfl
 refine h.write hb hmut g1 g2 g3 ?_ (by intro c' h'; rw [hc] at h'; cases h'; rfl)
 have hD : ∀ k, G.D k → G.D k ∧ ({ w with heap := w.heap.setIfInBounds c (match r with
   | some p => .map (es.modify p.1 fun e => { e with key := .int kk n, val := x }) clock
   | none => .map (es.push { key := .int kk n, val := x, born := clock }) (clock + 1)) } : GW).heap[k]? = w.heap[k]? := fun k hk => ⟨hk, g1 k fun e' => (h.mem.own b _ c hb hmut).2.2 (e' ▸ hk)⟩
 cases r with
 | none =>
   rw [hr]
   refine ⟨c, _, _, hc, by simp [hlt]; exact ⟨rfl, rfl⟩, by simp [e3], fun i h1 h2 => ?_⟩
   simp only [List.getElem_append, Array.getElem_push]
   by_cases hi : i < l.length
   ·simp only [hi, dite_true, show i < es.size by omega]
    exact ⟨(e4 i hi (by omega)).1.mono hD, (e4 i hi (by omega)).2.mono hD⟩
   ·have : i = l.length := by simp at h1; omega
    subst this
    simp only [Nat.lt_irrefl, dite_false, show ¬ l.length < es.size by omega, Nat.sub_self, List.getElem_singleton]
    exact ⟨(DR.int kk n : DR G.D w (.int kk n) (.int kk n)).mono hD, hx.mono hD⟩
 | some p =>
   obtain ⟨i, a1, a2, a3⟩ := hr
   obtain ⟨p1, p2⟩ := p
   have hpi : p1 = i := by simpa using a2
   subst hpi
   rw [a3]
   refine ⟨c, _, _, hc, by simp [hlt]; exact ⟨rfl, rfl⟩, by simp [e3], fun q h1 h2 => ?_⟩
   simp only [List.getElem_set, Array.getElem_modify]
   by_cases hq : p1 = q
   ·subst hq
    simp only [if_true]
    exact ⟨(DR.int kk n : DR G.D w (.int kk n) (.int kk n)).mono hD, hx.mono hD⟩
   ·simp only [hq, if_false]
    simp only [List.length_set] at h1
    exact ⟨(e4 q h1 (by omega)).1.mono hD, (e4 q h1 (by omega)).2.mono hD⟩
theorem map_any (hE : EnvOK P E) (h : Rel E base w0 ok en G s a w) {mt kt et : TypeId} {kk : IntKind} (hm : P.underlying mt = some (.map kt et)) (hd : P.underlying kt = some (.int kk)) {b : Nat} {u : Value} (hu : VR G.D G.σ w (.mref b) u) {ks vs : List AV} (hb : s.M[b]? = some (.amap ks vs)) {n : Int} {x : Value} {z : AV} (hx : VR G.D G.σ w z x) (hnew : (ks.all (Up kk n)) = true) :
  ∃ w', (Instr.mapUpdate mt u (.int kk n) x).run P w = .ok () w' ∧ Rel E base w0 ok en G { s with M := s.M.set b (.amap (ks ++ [.int kk n]) (vs ++ [z])) } a w' := by
 obtain ⟨c, hc, rfl⟩ := hu.mref_inv
 obtain ⟨c', es, clock, l, kk0, e1, e2, ⟨p1, p2, p3⟩, e3, e3', e4, e5⟩ := h.mem.blocks b _ hb
 rw [hc] at e1
 cases e1
 have hnl := NH (G := G) (w := w) (kk := kk) (n := n) ks l e3 e4 hnew
 have hf := Qf (kk := kk) (n := n) es.toList 0 (fun e he => hnl e (p1.mem_iff.2 he))
 have hlt : c < w.heap.size := (Array.getElem?_eq_some_iff.1 e2).1
 refine ⟨_, vU hm hd e2 hf (fun p hp => by cases hp) x, ?_⟩
 obtain ⟨g1, g2, g3⟩ := gT w c (.map (es.push { key := .int kk n, val := x, born := clock }) (clock + 1))
 have hmut : mutC (G.σ b) (.amap ks vs) = some c := by rw [hc]; rfl
 refine h.write hb hmut g1 g2 g3 ?_ (by intro c' h'; rw [hc] at h'; cases h'; rfl)
 have hD : ∀ k, G.D k → G.D k ∧ ({ w with heap := w.heap.setIfInBounds c (.map (es.push { key := .int kk n, val := x, born := clock }) (clock + 1)) } : GW).heap[k]? = w.heap[k]? := fun k hk => ⟨hk, g1 k fun e' => (h.mem.own b _ c hb hmut).2.2 (e' ▸ hk)⟩
 refine ⟨c, _, _, l ++ [{ key := .int kk n, val := x, born := clock }], kk, hc, by simp [hlt]; exact ⟨rfl, rfl⟩, ⟨by rw [Array.toList_push]; exact p1.append_right _, fun e he => ?_, ?_⟩, by simp [e3], by simp [e3'], fun i h1 h2 => ?_, fun i h1 h2 => ?_⟩
 ·rcases List.mem_append.1 he with he | he
  ·obtain ⟨m, hm', _⟩ := hnl e he
   exact ⟨m, hm'⟩
  ·simp only [List.mem_singleton] at he
   subst he
   exact ⟨n, rfl⟩
 ·rw [List.map_append, List.nodup_append]
  refine ⟨p3, by simp, fun a ha b hb' => ?_⟩
  obtain ⟨e, he, rfl⟩ := List.mem_map.1 ha
  obtain ⟨m, hm', hne⟩ := hnl e he
  simp only [List.map_cons, List.map_nil, List.mem_singleton] at hb'
  subst hb'
  rw [hm']
  intro heq
  cases heq
  exact hne rfl
 ·simp only [List.getElem_append]
  by_cases hi : i < ks.length
  ·simp only [hi, dite_true, show i < l.length by omega]
   exact (e4 i hi (by omega)).grow hD (fun _ _ => rfl)
  ·have : i = ks.length := by simp at h1; omega
   subst this
   simp only [Nat.lt_irrefl, dite_false, show ¬ ks.length < l.length by omega, Nat.sub_self, List.getElem_singleton, e3]
   exact .data _ _ (.int kk n)
 ·simp only [List.getElem_append]
  by_cases hi : i < vs.length
  ·simp only [hi, dite_true, show i < l.length by omega]
   exact (e5 i hi (by omega)).grow hD (fun _ _ => rfl)
  ·have : i = vs.length := by simp at h1; omega
   subst this
   simp only [Nat.lt_irrefl, dite_false, show ¬ vs.length < l.length by omega, Nat.sub_self, List.getElem_singleton, e3']
   exact hx.grow hD (fun _ _ => rfl)
end Go.Sx
namespace Go.Sx
open Go
open Go.RowKit (Below)
variable {P : Program} {E : Env} {base : Nat} {w0 : GW} {ok : Nat → Prop} {en : Ent} {G G' : Gam} {s : St} {a : Act} {w w' : GW} {R : Type} {M : Mem}
structure Src (P : Program) (D : Nat → Prop) (w : GW) (kd : Kd) (x : Value) (l2 : List kd.T) (news : List Value) : Prop where
 len : ∀ w', (Builtin.lenOf x).run P w' = .ok l2.length w'
 first : ∀ n, n ≤ l2.length → ∀ w' : GW, w'.heap = w.heap → (Builtin.firstCells kd.size n x).run P w' = .ok (news.take (n * kd.size)).toArray w'
 size : news.length = l2.length * kd.size
 one : ∀ v ∈ news, v.oneCell' = true
 get : ∀ i (h : i < l2.length) j (hj : j < (kd.cells l2[i]).length), DR D w ((kd.cells l2[i])[j]) (news.getD (i * kd.size + j) undef)
theorem Kx {D : Nat → Prop} {kd : Kd} {l2 : List kd.T} {A : Option Addr} {cap : Nat} (hA : ∀ i (h : i < l2.length), ∃ a, A = some a ∧ At (DR D w) w (a.add (i * kd.size)) (kd.cells l2[i])) : ∃ news, Src P D w kd (.slice A l2.length cap) l2 news := by
 cases A with
 | none =>
   have : l2 = [] := by
    cases l2 with
    | nil => rfl
    | cons y r => obtain ⟨a, h, _⟩ := hA 0 (by simp); cases h
   subst this
   exact ⟨[], fun _ => rfl, fun n hn w' _ => by simp [Builtin.firstCells], by simp, by simp, fun i h => by simp at h⟩
 | some ad =>
   let f : Nat → Value := fun q => (w.cell? (ad.add q)).getD undef
   have hf : ∀ i (h : i < l2.length) j (hj : j < (kd.cells l2[i]).length), w.cell? (ad.add (i * kd.size + j)) = some (f (i * kd.size + j)) ∧ (f (i * kd.size + j)).oneCell' = true ∧ DR D w ((kd.cells l2[i])[j]) (f (i * kd.size + j)) := by
    intro i h j hj
    obtain ⟨a, e, hat⟩ := hA i h
    cases e
    obtain ⟨x, h1, h2, h3⟩ := hat j hj
    rw [jk] at h1
    have : f (i * kd.size + j) = x := by simp [f, h1]
    rw [this]
    exact ⟨h1, h2, h3⟩
   have hq : ∀ q, q < l2.length * kd.size → w.cell? (ad.add q) = some (f q) ∧ (f q).oneCell' = true := by
    intro q hq
    have hs : 0 < kd.size := by rcases Nat.eq_zero_or_pos kd.size with h | h; · rw [h] at hq; simp at hq
                                ·exact h
    have hi : q / kd.size < l2.length := by rw [Nat.div_lt_iff_lt_mul hs]; exact hq
    have hj := Nat.mod_lt q hs
    have e : q / kd.size * kd.size + q % kd.size = q := by rw [Nat.mul_comm]; exact Nat.div_add_mod q kd.size
    have := hf (q / kd.size) hi (q % kd.size) (by rw [Kd.cells_length]; exact hj)
    rw [e] at this
    exact ⟨this.1, this.2.1⟩
   refine ⟨(List.range (l2.length * kd.size)).map f, fun _ => rfl, fun n hn w' hw' => ?_, by simp, ?_, fun i h j hj => ?_⟩
   ·have hle : n * kd.size ≤ l2.length * kd.size := Nat.mul_le_mul_right _ hn
    have := run_loadCells (P := P) w' ad (n * kd.size) f (fun j hj => by
     have := (hq j (by omega)).1
     unfold World.cell? at this ⊢
     rw [hw']; exact this)
    simp only [Builtin.firstCells]
    rw [this]
    congr 2
    rw [← List.map_take, List.take_range, Nat.min_eq_left hle]
   ·intro v hv
    simp only [List.mem_map, List.mem_range] at hv
    obtain ⟨q, hq', rfl⟩ := hv
    exact (hq q hq').2
   ·have hj' : j < kd.size := jm h hj
    have hlt : i * kd.size + j < l2.length * kd.size := by
     have : (i + 1) * kd.size ≤ l2.length * kd.size := Nat.mul_le_mul_right _ (by omega)
     rw [Nat.add_mul] at this; omega
    simp only [List.getD_eq_getElem?_getD, List.getElem?_map, List.getElem?_range hlt, Option.map_some, Option.getD_some]
    exact (hf i h j hj).2.2
theorem dr_at {D : Nat → Prop} {e : Kd} {l : List e.T} {A : Option Addr} {n cap : Nat} (h : DR D w (.sl e l) (.slice A n cap)) : n = l.length ∧ ∀ i (h : i < l.length), ∃ a, A = some a ∧ At (DR D w) w (a.add (i * e.size)) (e.cells l[i]) := by
 generalize hx : Value.slice A n cap = x at h
 cases h with
 | sl _ _ A' cap' cv hcap hA hone hr =>
   injection hx with h1 h2 h3
   subst h1
   refine ⟨h2, fun i hi => ?_⟩
   obtain ⟨a, ha, hD, hc⟩ := hA i hi
   refine ⟨a, ha, fun j hj => ?_⟩
   have hj' := jm hi hj
   exact ⟨cv i j, by rw [jk]; exact hc j hj', hone i j hi hj', hr i hi j hj⟩
theorem src_str {D : Nat → Prop} (st : Str) : ∃ news, Src P D w (.int .u8) (.string ⟨st.toArray⟩) (u8s st) news := by
 refine ⟨st.map fun b => .int .u8 (b.toNat : Int), fun w' => ?_, fun n hn w' _ => ?_, by simp [u8s, Kd.size], ?_, fun i h j hj => ?_⟩
 ·simp [Builtin.lenOf, u8s, ByteArray.size]
 ·simp only [Builtin.firstCells, Kd.size, Nat.mul_one, Sem.run_pure]
  congr 1
  simp [ByteArray.data_extract]
 ·intro v hv
  simp only [List.mem_map] at hv
  obtain ⟨b, _, rfl⟩ := hv
  rfl
 ·have hj0 : j = 0 := by simp [Kd.cells] at hj; exact hj
  subst hj0
  have hi : i < st.length := by simpa [u8s] using h
  simp only [Kd.size, Nat.mul_one, Nat.add_zero, List.getD_eq_getElem?_getD, List.getElem?_map, List.getElem?_eq_getElem hi, Option.map_some, Option.getD_some, Kd.cells, List.getElem_cons_zero]
  have : (u8s st)[i] = (st[i].toNat : Int) := by simp [u8s]
  rw [this]
  exact .int _ _
theorem zT (hm : MemOK base ok G w M) {kd : Kd} {y : AV} {x : Value} (hv : VR G.D G.σ w y x) {l2 : List kd.T} (h : zw M kd y = some l2) : ∃ news, Src P G.D w kd x l2 news := by
 have own : ∀ {b c len cap sz : Nat} {A : Option Nat} {l : List kd.T}, (M[b]? = some (.vec kd l) ∨ M[b]? = some (.fvec kd l)) → G.σ b = .hdr A len cap sz → len = l.length ∧ sz = kd.size ∧ ∀ i (h : i < l.length), ∃ c, A = some c ∧ At (DR G.D w) w ((blkA c).add (i * kd.size)) (kd.cells l[i]) := by
  intro b c len cap sz A l hb hσ
  cases A with
  | some c =>
    obtain ⟨h1, h2, h3⟩ := At.of_vec hm hb hσ
    exact ⟨h1, h2, fun i hi => ⟨c, rfl, h3 i hi⟩⟩
  | none =>
    rcases hb with hb | hb
    ·obtain ⟨A', cap', e1, e2, e3, e4⟩ := hm.blocks b _ hb
     rw [hσ] at e1; cases e1
     have := (e3 rfl).1
     subst this
     exact ⟨rfl, rfl, fun i hi => by simp at hi⟩
    ·obtain ⟨A', cap', e1, e2⟩ := hm.blocks b _ hb
     rw [hσ] at e1; cases e1
     obtain ⟨_, h2⟩ := dr_at e2
     refine ⟨rfl, rfl, fun i hi => ?_⟩
     obtain ⟨a, ha, _⟩ := h2 i hi
     cases ha
 have vec : ∀ {b : Nat} {l : List kd.T}, (M[b]? = some (.vec kd l) ∨ M[b]? = some (.fvec kd l)) → VR G.D G.σ w (.vec b) x → ∃ news, Src P G.D w kd x l news := by
  intro b l hb hv
  obtain ⟨A, len, cap, sz, hσ, rfl⟩ := hv.vec_inv
  obtain ⟨e1, e2, e3⟩ := own (c := 0) hb hσ
  subst e1
  exact Kx fun i hi => by obtain ⟨c, hc, h⟩ := e3 i hi; subst hc; exact ⟨blkA c, rfl, h⟩
 have vsl : ∀ {b : Nat} {lo hi : Int} {l : List kd.T}, (M[b]? = some (.vec kd l) ∨ M[b]? = some (.fvec kd l)) → VR G.D G.σ w (.vsl b lo hi) x → ∃ news, Src P G.D w kd x (ldrop (ltake l hi) lo) news := by
  intro b lo hi l hb hv
  obtain ⟨A, len, cap, sz, B, cap', hσ, h0, h01, hlen, hB, hc, rfl⟩ := hv.vsl_inv
  obtain ⟨e1, e2, e3⟩ := own (c := 0) hb hσ
  subst e1
  have hll : (ldrop (ltake l hi) lo).length = (hi - lo).toNat := by simp [ldrop, ltake]; omega
  rw [← hll]
  refine Kx fun i hi' => ?_
  rw [hll] at hi'
  obtain ⟨c, hcA, hat⟩ := e3 (lo.toNat + i) (by omega)
  subst hcA
  refine ⟨(blkA c).add (lo.toNat * sz), by rw [hB (by omega)]; rfl, ?_⟩
  rw [e2, jk, ← Nat.add_mul]
  have : (ldrop (ltake l hi) lo)[i]'(by rw [hll]; exact hi') = l[lo.toNat + i] := by simp [ldrop, ltake]
  rw [this]
  exact hat
 unfold zw at h
 split at h
 ·split at h
  ·rename_i b _ e' l hb
   split at h
   ·rename_i he; subst he; cases h; exact vec (.inl hb) hv
   ·simp at h
  ·rename_i b _ e' l hb
   split at h
   ·rename_i he; subst he; cases h; exact vec (.inr hb) hv
   ·simp at h
  ·simp at h
 ·split at h
  ·rename_i b lo hi _ e' l hb
   split at h
   ·rename_i he; subst he; cases h; exact vsl (.inl hb) hv
   ·simp at h
  ·rename_i b lo hi _ e' l hb
   split at h
   ·rename_i he; subst he; cases h; exact vsl (.inr hb) hv
   ·simp at h
  ·simp at h
 ·rename_i st
  split at h
  ·rename_i he; subst he; cases h
   rw [hv.str_inv]
   exact src_str st
  ·simp at h
 ·have has := jj h
  have hdr : DR G.D w (.sl kd l2) x := by
   cases hv with
   | data _ _ hd => exact has _ _ _ hd
   | _ => simp [AV.asSl] at h
  obtain ⟨A, cap, hcap, rfl⟩ := hdr.sl_inv
  exact Kx (dr_at hdr).2
end Go.Sx
namespace Go.Sx
open Go
open Go.RowKit (Below)
variable {P : Program} {E : Env} {base : Nat} {w0 : GW} {ok : Nat → Prop} {en : Ent} {G G' : Gam} {s : St} {a : Act} {w w' : GW} {R : Type} {M : Mem}
theorem Ri {i b : Nat} (h : i ≠ b) : Nat.beq i b = false := by
 cases e : Nat.beq i b with
 | false => rfl
 | true => exact absurd (Nat.eq_of_beq_eq_true e) h
def Vt : TypeDesc → Bool
 | .slice _ => true
 | .string => true
 | _ => false
theorem VI {t u ty e : TypeId} {i : TypeInfo} (ht : P.underlying t = some (.slice e)) {du : TypeDesc} (hu : P.underlying u = some du) (hdu : Vt du = true) (hi : P.info? e = some i)
  {c sLen sCap n : Nat} {x : Value} {news : List Value} (hlen : (Builtin.lenOf x).run P w = .ok n w) (hfirst : (Builtin.firstCells i.size n x).run P w = .ok news.toArray w) (hroom : sLen + n ≤ sCap)
  {vs : Array Value} {bt : TypeId} (hb : w.heap[c]? = some (.cells vs bt (0, 0))) (hfit : sLen * i.size + news.length ≤ vs.size) (h1 : ∀ v ∈ news, v.oneCell' = true) :
  (Builtin.append_ #[t, u] ty #[.slice (some (blkA c)) sLen sCap, x]).run P w = .ok (.slice (some (blkA c)) (sLen + n) sCap) (w.setRow c (vs.toList.take (sLen * i.size) ++ news ++ vs.toList.drop (sLen * i.size + news.length)).toArray) := by
 have hst := run_storeCells_at P c (sLen * i.size) bt news 0 vs w hb (by simpa using hfit) h1
 have e2 : (blkA c).add (sLen * i.size) = ⟨c, sLen * i.size, none⟩ := by rw [blkA, add_lit]; simp
 simp only [Nat.add_zero] at hst
 cases du <;> simp [Vt] at hdu <;>
  simp [Builtin.append_, run_underlying ht, run_underlying hu, sizeOf, typeInfo, hi, hlen, hfirst, hroom, e2, hst]
theorem Qr {t u ty e : TypeId} {i : TypeInfo} (ht : P.underlying t = some (.slice e)) {du : TypeDesc} (hu : P.underlying u = some du) (hdu : Vt du = true) (hi : P.info? e = some i)
  {sLen sCap n : Nat} {x : Value} {news : List Value} (hlen : (Builtin.lenOf x).run P w = .ok n w) (hfirst : (Builtin.firstCells i.size n x).run P w = .ok news.toArray w) (hroom : sLen + n ≤ sCap) :
  (Builtin.append_ #[t, u] ty #[.slice none sLen sCap, x]).run P w = .ok (.slice none (sLen + n) sCap) w := by
 cases du <;> simp [Vt] at hdu <;>
  simp [Builtin.append_, run_underlying ht, run_underlying hu, sizeOf, typeInfo, hi, hlen, hfirst, hroom]
theorem Qs {t u ty e : TypeId} {i : TypeInfo} {z : Value} (ht : P.underlying t = some (.slice e)) {du : TypeDesc} (hu : P.underlying u = some du) (hdu : Vt du = true) (hi : P.info? e = some i) (hz : i.zero = some z) (hby : 0 < i.bytes)
  {A : Option Addr} {sLen sCap n : Nat} {x : Value} {olds news : List Value} (hlen : (Builtin.lenOf x).run P w = .ok n w) (hfirst : (Builtin.firstCells i.size n x).run P w.drew = .ok news.toArray w.drew)
  (hold : (Builtin.firstCells i.size sLen (.slice A sLen sCap)).run P w.drew = .ok olds.toArray w.drew) (hgrow : sCap < sLen + n) (hfit : (sLen + n) * i.bytes ≤ 140737488355328) :
  (Builtin.append_ #[t, u] ty #[.slice A sLen sCap, x]).run P w = .ok (.slice (some (blkA w.heap.size)) (sLen + n) (grownCap w (sLen + n) sCap e))
    (w.drew.alloc (.cells (olds.toArray ++ news.toArray ++ Builtin.zeroCells z.cells (grownCap w (sLen + n) sCap e - (sLen + n))) e)) := by
 have hn : ¬ (sLen + n ≤ sCap) := by omega
 have hby' : ¬ i.bytes = 0 := by omega
 have h48' : ¬ (281474976710656 < Builtin.nextslicecap (sLen + n) sCap * i.bytes) := by
  have := growslice_fits hgrow hfit
  omega
 cases du <;> simp [Vt] at hdu <;>
 ·simp [Builtin.append_, run_underlying ht, run_underlying hu, sizeOf, typeInfo, zeroValue, hi, hz, hlen, hn, hby', h48', Question.forced, hfirst, hold, newRow, grownCap, blkA]
  try (congr 2; apply Array.ext'; simp [List.append_assoc])
theorem K1 {t u ty e : TypeId} {i : TypeInfo} {z : Value} {kk : IntKind} (ht : P.underlying t = some (.slice e)) (hu : P.underlying u = some (.int kk)) (hi : P.info? e = some i) (hz : i.zero = some z) (hby : 0 < i.bytes) (hsz : 0 < i.size)
  {n : Nat} (hpos : 0 < n) (hfit : n * i.bytes ≤ 140737488355328) :
  (Builtin.append_ #[t, u] ty #[.slice none 0 0, .int .i64 n]).run P w = .ok (.slice (some (blkA w.heap.size)) n (grownCap w n 0 e))
    (w.drew.alloc (.cells (Builtin.zeroCells z.cells n ++ Builtin.zeroCells z.cells (grownCap w n 0 e - n)) e)) := by
 have hn63 : n ≤ 140737488355328 := by
  have : n * 1 ≤ n * i.bytes := Nat.mul_le_mul_left _ hby
  omega
 have hw : IntKind.i64.wrap (n : Int) = n := IntWalk.i64_in _ ⟨by omega, by omega⟩
 have hl0 : ¬ ((n : Int) < 0) := by omega
 have hl48 : ¬ ((n : Int) * (i.bytes : Int) > 2 ^ 48) := by
  have : ((n * i.bytes : Nat) : Int) ≤ ((140737488355328 : Nat) : Int) := Int.ofNat_le.2 hfit
  rw [Int.natCast_mul] at this
  omega
 have hns : ¬ (n * i.size = 0) := by
  have := Nat.mul_pos hpos hsz
  omega
 have hroom : ¬ (0 + n ≤ 0) := by omega
 have hby' : ¬ i.bytes = 0 := by omega
 have h48' : ¬ (281474976710656 < Builtin.nextslicecap n 0 * i.bytes) := by
  have := growslice_fits (old := 0) hpos hfit
  omega
 have hmax : ¬ ((n : Int) > IntKind.i64.max) := by
  have : IntKind.i64.max = 9223372036854775807 := rfl
  omega
 simp [Builtin.append_, run_underlying ht, run_underlying hu, sizeOf, typeInfo, zeroValue, hi, hz, asInt, asIntOf, hw, hl0, hl48, hns, hroom, hby', h48', hmax, Question.forced, Builtin.firstCells, newRow, grownCap, blkA]
 rw [if_neg (by omega), if_neg (by omega), if_neg (by omega)]
theorem jr (b : Nat) : ∀ (cs : List AV), (AV.kills b cs).length = cs.length ∧ ∀ i (h : i < cs.length) (h' : i < (AV.kills b cs).length), (AV.kills b cs)[i] = AV.kill b cs[i]
 | [] => ⟨rfl, fun i h => by simp at h⟩
 | v :: r => by
   obtain ⟨h1, h2⟩ := jr b r
   have e : AV.kills b (v :: r) = AV.kill b v :: AV.kills b r := by rw [AV.kills]
   rw [e]
   refine ⟨by simp [h1], fun i h h' => ?_⟩
   cases i with
   | zero => rfl
   | succ i => exact h2 i (by simpa using h) (by simpa using h')
theorem qhb {D : Nat → Prop} {b : Nat} {v : AV} {x : Value} (h : DR D w v x) : DR D w (AV.kill b v) x := by
 induction h with
 | agg cs vs hl ho hh ih =>
   obtain ⟨h1, h2⟩ := jr b cs
   rw [AV.kill]
   exact .agg _ vs (by omega) ho fun i a1 a2 => by rw [h2 i (by omega) a1]; exact ih i (by omega) a2
 | tup cs vs hl hh ih =>
   obtain ⟨h1, h2⟩ := jr b cs
   rw [AV.kill]
   exact .tup _ vs (by omega) fun i a1 a2 => by rw [h2 i (by omega) a1]; exact ih i (by omega) a2
 | int k n => exact .int k n
 | bool c => exact .bool c
 | str c => exact .str c
 | sl e l A cap cv h1 h2 h3 h4 => exact .sl e l A cap cv h1 h2 h3 h4
 | slc e l A cv h2 h3 h4 => exact .slc e l A cv h2 h3 h4
 | nilsl => exact .nilsl
 | nilp => exact .nilp
 | nilf => exact .nilf
 | nilm => exact .nilm
 | nili => exact .nili
 | err t v => exact .err t v
theorem Qc {D : Nat → Prop} {σ σ' : Nat → SB} {b : Nat} {A : Option Nat} {len cap sz : Nat} (hb : σ b = .hdr A len cap sz) (hσ : ∀ i, i ≠ b → σ' i = σ i) (hD : ∀ c, D c → D c ∧ w'.heap[c]? = w.heap[c]?) {v : AV} {x : Value} (h : VR D σ w v x) : VR D σ' w' (AV.kill b v) x := by
 have hcell : ∀ (a : Addr) (n : Nat), D a.block → w'.cell? (a.add n) = w.cell? (a.add n) := by
  intro a n h
  have := (hD _ h).2
  unfold World.cell?
  rw [add_block, this]
 have blk : ∀ {i c : Nat}, σ i = .blk c → σ' i = .blk c := by
  intro i c hi
  rw [hσ i (fun e => by rw [e, hb] at hi; cases hi)]; exact hi
 induction h with
 | data v x hd => exact .data _ _ ((qhb hd).mono hD)
 | junk x => exact .junk x
 | undef => exact .undef
 | ptr i off c hi => exact .ptr i off c (blk hi)
 | pidx i off n j c hi h0 h1 => exact .pidx i off n j c (blk hi) h0 h1
 | dref cs off a cv hd hc => exact .dref cs off a cv hd fun j hj => by rw [hcell _ _ hd]; exact ⟨(hc j hj).1, (hc j hj).2.1, (hc j hj).2.2.mono hD⟩
 | didx cs off n i a cv hd h0 h1 hc => exact .didx cs off n i a cv hd h0 h1 fun j hj => by rw [hcell _ _ hd]; exact ⟨(hc j hj).1, (hc j hj).2.1, (hc j hj).2.2.mono hD⟩
 | vec i A len cap sz hi =>
   by_cases e : i = b
   ·subst e; rw [AV.kill, Nat.beq_refl]; exact .junk _
   ·rw [AV.kill, show Nat.beq i b = false from Ri e]; exact .vec i A len cap sz (by rw [hσ i e]; exact hi)
 | vsl i lo hi A len cap sz h h0 h1 h2 B cap' hB hc hz =>
   by_cases e : i = b
   ·subst e; rw [AV.kill, Nat.beq_refl]; exact .junk _
   ·rw [AV.kill, show Nat.beq i b = false from Ri e]; exact .vsl i lo hi A len cap sz (by rw [hσ i e]; exact h) h0 h1 h2 B cap' hB hc hz
 | vref i j off c len cap sz h h0 h1 =>
   by_cases e : i = b
   ·subst e; rw [AV.kill, Nat.beq_refl]; exact .junk _
   ·rw [AV.kill, show Nat.beq i b = false from Ri e]; exact .vref i j off c len cap sz (by rw [hσ i e]; exact h) h0 h1
 | csl i off n c hi cap hc => exact .csl i off n c (blk hi) cap hc
 | agg cs vs hl ho hh ih =>
   obtain ⟨h1, h2⟩ := jr b cs
   rw [AV.kill]
   exact .agg _ vs (by omega) ho fun i a1 a2 => by rw [h2 i (by omega) a1]; exact ih i (by omega) a2
 | tup cs vs hl hh ih =>
   obtain ⟨h1, h2⟩ := jr b cs
   rw [AV.kill]
   exact .tup _ vs (by omega) fun i a1 a2 => by rw [h2 i (by omega) a1]; exact ih i (by omega) a2
 | func f x y u v hx hy hh hh' ih ih' =>
   obtain ⟨h1, h2⟩ := jr b x
   obtain ⟨h3, h4⟩ := jr b y
   rw [AV.kill]
   exact .func f _ _ u v (by omega) (by omega) (fun i a1 a2 => by rw [h2 i (by omega) a1]; exact ih i (by omega) a2) (fun i a1 a2 => by rw [h4 i (by omega) a1]; exact ih' i (by omega) a2)
 | mref i c hi => exact .mref i c (blk hi)
 | gp g off => exact .gp g off
theorem qkl {D : Nat → Prop} {σ σ' : Nat → SB} {b : Nat} {A : Option Nat} {len cap sz : Nat} (hb : σ b = .hdr A len cap sz) (hσ : ∀ i, i ≠ b → σ' i = σ i) (hD : ∀ c, D c → D c ∧ w'.heap[c]? = w.heap[c]?) {sb : SB} {x : Blk} (h : BR D σ w sb x)
  (hh : ∀ c, mutC sb x = some c → w'.heap[c]? = w.heap[c]?) : BR D σ' w' sb (Blk.kill b x) := by
 cases x with
 | cells cs =>
   obtain ⟨c, vs, t, rfl, h2, h3, h4⟩ := h
   obtain ⟨k1, k2⟩ := jr b cs
   refine ⟨c, vs, t, rfl, by rw [hh c rfl]; exact h2, by rw [k1]; exact h3, fun i a1 a2 => ?_⟩
   rw [k2 i (by omega) a1]
   exact ⟨(h4 i (by omega) a2).1, Qc hb hσ hD (h4 i (by omega) a2).2⟩
 | amap ks vs =>
   obtain ⟨c, es, clock, l, kk, rfl, h2, h3, h4, h4', h5, h6⟩ := h
   obtain ⟨k1, k2⟩ := jr b ks
   obtain ⟨k3, k4⟩ := jr b vs
   refine ⟨c, es, clock, l, kk, rfl, by rw [hh c rfl]; exact h2, h3, by omega, by omega, fun i a1 a2 => ?_, fun i a1 a2 => ?_⟩
   ·rw [k2 i (by omega) a1]; exact Qc hb hσ hD (h5 i (by omega) a2)
   ·rw [k4 i (by omega) a1]; exact Qc hb hσ hD (h6 i (by omega) a2)
 | gmap =>
   obtain ⟨c, es, clock, rfl, h2⟩ := h
   exact ⟨c, es, clock, rfl, by rw [hh c rfl]; exact h2⟩
 | dead => trivial
 | vec e l =>
   obtain ⟨A, cap, rfl, h2, h3, h4⟩ := h
   refine ⟨A, cap, rfl, h2, h3, fun c hc => ?_⟩
   obtain ⟨vs, t, h5, h6, h7, h8⟩ := h4 c hc
   exact ⟨vs, t, by rw [hh c (by simp [mutC, hc])]; exact h5, h6, h7, fun i hi j hj => (h8 i hi j hj).mono hD⟩
 | fvec e l => obtain ⟨A, cap, rfl, h2⟩ := h; exact ⟨A, cap, rfl, h2.mono hD⟩
 | map kk kv l =>
   obtain ⟨c, es, clock, rfl, h2, h3, h4⟩ := h
   exact ⟨c, es, clock, rfl, by rw [hh c rfl]; exact h2, h3, fun i h1 h2 => ⟨(h4 i h1 h2).1.mono hD, (h4 i h1 h2).2.mono hD⟩⟩
theorem Bm (sb : SB) (b : Nat) (x : Blk) : mutC sb (Blk.kill b x) = mutC sb x := by cases x <;> cases sb <;> rfl
theorem Rel.rehdr (h : Rel E base w0 ok en G s a w) {b : Nat} {kd : Kd} {l l' : List kd.T} {A : Option Nat} {len cap sz : Nat} (hb : s.M[b]? = some (.vec kd l)) (hσ : G.σ b = .hdr A len cap sz) (hlock : s.lock.any (Nat.beq b) = false) {sb : SB}
  (hbel : w'.os = w.os ∧ w'.tape = w.tape ∧ w'.output = w.output) (hsize : w.heap.size ≤ w'.heap.size) (hother : ∀ k, k < w.heap.size → A ≠ some k → w'.heap[k]? = w.heap[k]?)
  (hbr : BR G.D (G.up b sb).σ w' sb (.vec kd l')) (hmut : ∀ c, mutC sb (.vec kd l') = some c → A = some c ∨ (w.heap.size ≤ c ∧ c < w'.heap.size)) :
  Rel E base w0 ok en (G.up b sb) { s.kill b with M := (s.kill b).M.set b (.vec kd l') } a w' := by
 have hbl : b < s.M.length := (List.getElem?_eq_some_iff.1 hb).1
 have hown : ∀ c, A = some c → base ≤ c ∧ c < w.heap.size ∧ ¬ G.D c := fun c hc => h.mem.own b _ c hb (by rw [hσ]; exact hc)
 have hup : ∀ i, i ≠ b → (G.up b sb).σ i = G.σ i := fun i hi => by simp [Gam.up, hi]
 have hupb : (G.up b sb).σ b = sb := Gam.up_self ..
 have hD : ∀ c, G.D c → G.D c ∧ w'.heap[c]? = w.heap[c]? := fun c hc => ⟨hc, hother c (h.mem.dlt c hc) fun e => (hown c e).2.2 hc⟩
 have hbase : Below base w w' := ⟨hbel.1, hbel.2.1, hbel.2.2, hsize, fun k hk => hother k (by have := h.base; omega) fun e => by have := (hown k e).1; omega⟩
 have hget : ∀ j y, ((s.kill b).M.set b (.vec kd l'))[j]? = some y → (j ≠ b ∧ ∃ y0, s.M[j]? = some y0 ∧ y = Blk.kill b y0) ∨ (j = b ∧ y = .vec kd l') := by
  intro j y hj
  rw [List.getElem?_set] at hj
  by_cases e : b = j
  ·subst e
   simp [St.kill, hbl] at hj; exact .inr ⟨rfl, hj.symm⟩
  ·simp only [e, if_false, St.kill, List.getElem?_map, Option.map_eq_some_iff] at hj
   obtain ⟨y0, h1, h2⟩ := hj
   exact .inl ⟨fun q => e q.symm, y0, h1, h2.symm⟩
 have hkeep : ∀ j y0 c, j ≠ b → s.M[j]? = some y0 → mutC (G.σ j) y0 = some c → w'.heap[c]? = w.heap[c]? := by
  intro j y0 c hne hj hc
  refine hother c (h.mem.own j y0 c hj hc).2.1 fun e => ?_
  exact hne (h.mem.apart b j _ y0 c hb (by rw [hσ]; exact e) hj hc)
 refine ⟨h.defers, ?_, ?_, ⟨?_, ?_, ?_, ?_, h.mem.dok, ?_⟩, h.below.trans hbase, h.glob.mono hD, Nat.le_trans h.base hsize, fun c hc => ⟨(h.grow c hc).1, ?_⟩, fun i hi hn => ?_, ?_, h.fr⟩
 ·show a.tmps.size = (AV.kills b s.T).length
  rw [(jr b s.T).1]; exact h.size
 ·intro t v ht
  have ht' : (AV.kills b s.T)[t]? = some v := ht
  obtain ⟨hlt, rfl⟩ := List.getElem?_eq_some_iff.1 ht'
  have hlt' : t < s.T.length := by rw [(jr b s.T).1] at hlt; exact hlt
  rw [(jr b s.T).2 t hlt' hlt]
  exact Qc hσ hup hD (h.val t _ (List.getElem?_eq_getElem hlt'))
 ·intro j y hj
  rcases hget j y hj with ⟨hne, y0, h1, rfl⟩ | ⟨rfl, rfl⟩
  ·rw [hup j hne]
   exact qkl hσ hup hD (h.mem.blocks j y0 h1) fun c hc => hkeep j y0 c hne h1 hc
  ·rw [hupb]; exact hbr
 ·intro j y c hj hc
  rcases hget j y hj with ⟨hne, y0, h1, rfl⟩ | ⟨rfl, rfl⟩
  ·rw [hup j hne, Bm] at hc
   obtain ⟨a1, a2, a3⟩ := h.mem.own j y0 c h1 hc
   exact ⟨a1, by omega, a3⟩
  ·rw [hupb] at hc
   rcases hmut c hc with e | ⟨e1, e2⟩
   ·obtain ⟨a1, a2, a3⟩ := hown c e; exact ⟨a1, by omega, a3⟩
   ·exact ⟨by have := h.base; omega, e2, fun hd => by have := h.mem.dlt c hd; omega⟩
 ·intro j j' y y' c hj hc hj' hc'
  have key : ∀ j y, ((s.kill b).M.set b (.vec kd l'))[j]? = some y → mutC ((G.up b sb).σ j) y = some c → (j ≠ b ∧ ∃ y0, s.M[j]? = some y0 ∧ mutC (G.σ j) y0 = some c) ∨ (j = b ∧ (A = some c ∨ w.heap.size ≤ c)) := by
   intro j y hj hc
   rcases hget j y hj with ⟨hne, y0, h1, rfl⟩ | ⟨rfl, rfl⟩
   ·rw [hup j hne, Bm] at hc
    exact .inl ⟨hne, y0, h1, hc⟩
   ·rw [hupb] at hc
    rcases hmut c hc with e | ⟨e1, _⟩
    ·exact .inr ⟨rfl, .inl e⟩
    ·exact .inr ⟨rfl, .inr e1⟩
  rcases key j y hj hc with ⟨n1, y0, h1, h2⟩ | ⟨e1, h1⟩
  ·rcases key j' y' hj' hc' with ⟨n2, y2, h3, h4⟩ | ⟨e2, h3⟩
   ·exact h.mem.apart j j' y0 y2 c h1 h2 h3 h4
   ·rcases h3 with h3 | h3
    ·have := h.mem.apart b j _ y0 c hb (by rw [hσ]; exact h3) h1 h2
     omega
    ·have := (h.mem.own j y0 c h1 h2).2.1
     omega
  ·rcases key j' y' hj' hc' with ⟨n2, y2, h3, h4⟩ | ⟨e2, h3⟩
   ·rcases h1 with h1 | h1
    ·have := h.mem.apart b j' _ y2 c hb (by rw [hσ]; exact h1) h3 h4
     omega
    ·have := (h.mem.own j' y2 c h3 h4).2.1
     omega
   ·omega
 ·intro c hc; have := h.mem.dlt c hc; omega
 ·intro i hi
  have hi' : s.M.length ≤ i := by simpa [St.kill] using hi
  rw [hup i (by omega)]
  exact h.mem.out i hi'
 ·rw [(hD c (h.grow c hc).1).2]; exact (h.grow c hc).2
 ·obtain ⟨e1, e2⟩ := h.held i hi hn
  have : i ≠ b := by
   intro e
   subst e
   have : s.lock.any (Nat.beq i) = true := List.any_eq_true.2 ⟨i, hi, Nat.beq_refl i⟩
   rw [hlock] at this; cases this
  exact ⟨by rw [hup i this]; exact e1, e2⟩
 ·have := h.lo
  simpa [St.kill] using this
end Go.Sx
namespace Go.Sx
open Go
open Go.RowKit (Below)
variable {P : Program} {E : Env} {base : Nat} {w0 : GW} {ok : Nat → Prop} {en : Ent} {G G' : Gam} {s : St} {a : Act} {w w' : GW} {R : Type} {M : Mem}
theorem Yj (a b : List Value) (q : Nat) : (a ++ b).getD q undef = if q < a.length then a.getD q undef else b.getD (q - a.length) undef := by
 simp only [List.getD_eq_getElem?_getD, List.getElem?_append]
 split <;> rfl
theorem BS {D : Nat → Prop} {kd : Kd} {l l2 : List kd.T} {olds news rest : List Value} (ho : olds.length = l.length * kd.size) (hn : news.length = l2.length * kd.size)
  (h1 : ∀ i (h : i < l.length) j (hj : j < (kd.cells l[i]).length), DR D w ((kd.cells l[i])[j]) (olds.getD (i * kd.size + j) undef))
  (h2 : ∀ i (h : i < l2.length) j (hj : j < (kd.cells l2[i]).length), DR D w ((kd.cells l2[i])[j]) (news.getD (i * kd.size + j) undef)) :
  ∀ i (h : i < (l ++ l2).length) j (hj : j < (kd.cells (l ++ l2)[i]).length), DR D w ((kd.cells (l ++ l2)[i])[j]) ((olds ++ news ++ rest).toArray.getD (i * kd.size + j) undef) := by
 intro i h j hj
 have hj' : j < kd.size := jm h hj
 have e0 : (olds ++ news ++ rest).toArray.getD (i * kd.size + j) undef = (olds ++ news ++ rest).getD (i * kd.size + j) undef := by simp
 rw [e0, List.append_assoc, Yj]
 by_cases hi : i < l.length
 ·have hlt : i * kd.size + j < olds.length := by
   have : (i + 1) * kd.size ≤ l.length * kd.size := Nat.mul_le_mul_right _ (by omega)
   rw [Nat.add_mul] at this; omega
  rw [if_pos hlt]
  have e : (l ++ l2)[i] = l[i] := List.getElem_append_left hi
  have := h1 i hi j (by rw [Kd.cells_length]; exact hj')
  simp only [e]
  exact this
 ·have hge : ¬ i * kd.size + j < olds.length := by
   have : l.length * kd.size ≤ i * kd.size := Nat.mul_le_mul_right _ (by omega)
   omega
  have hi2 : i - l.length < l2.length := by simp at h; omega
  rw [if_neg hge, Yj, if_pos (by
   have : (i - l.length + 1) * kd.size ≤ l2.length * kd.size := Nat.mul_le_mul_right _ (by omega)
   rw [Nat.add_mul, Nat.sub_mul] at this
   have : l.length * kd.size ≤ i * kd.size := Nat.mul_le_mul_right _ (by omega)
   omega)]
  have e : (l ++ l2)[i] = l2[i - l.length] := List.getElem_append_right (by omega)
  have := h2 (i - l.length) hi2 j (by rw [Kd.cells_length]; exact hj')
  simp only [e]
  rw [show i * kd.size + j - olds.length = (i - l.length) * kd.size + j by
   rw [ho, Nat.sub_mul]
   have : l.length * kd.size ≤ i * kd.size := Nat.mul_le_mul_right _ (by omega)
   omega]
  exact this
theorem GA {kd : Kd} {z : Value} (hz : zall (kd.cells kd.zero) z.cells.toList = true) (n : Nat) : (Builtin.zeroCells z.cells n).size = n * kd.size ∧ ∀ v ∈ (Builtin.zeroCells z.cells n).toList, v.oneCell' = true := by
 obtain ⟨hl, hh⟩ := zM (D := fun _ => False) (w := default) hz
 have hs : z.cells.size = kd.size := by rw [Kd.cells_length] at hl; simpa using hl.symm
 refine ⟨by simp [Builtin.zeroCells, hs], fun v hv => ?_⟩
 simp only [Builtin.zeroCells, Array.toList_map, List.mem_map] at hv
 obtain ⟨q, hq, rfl⟩ := hv
 have hq' : q < n * z.cells.size := by simpa using hq
 have hpos : 0 < z.cells.size := by
  rcases Nat.eq_zero_or_pos z.cells.size with h | h
  ·rw [h] at hq'; simp at hq'
  ·exact h
 have hlt := Nat.mod_lt q hpos
 rw [getElem!_pos z.cells _ hlt]
 have := (hh (q % z.cells.size) (by rw [hl]; simpa using hlt) (by simpa using hlt)).2
 simpa using this
theorem R6 {d : TypeDesc} {s : Sh} (hs : shOK P d s = true) (h : Zr s = true) : Vt d = true := by
 cases s <;> simp [Zr] at h
 ·rw [gj hs]; rfl
 ·rw [j5 hs]; rfl
theorem B2 {kd : Kd} {l l2 : List kd.T} {xb x : Value} {olds news : List Value} (hs1 : Src P G.D w kd xb l olds) (hs2 : Src P G.D w kd x l2 news) {z : Value} (hz : zall (kd.cells kd.zero) z.cells.toList = true) {cap : Nat} (hcap : l.length + l2.length ≤ cap) :
  (olds.toArray ++ news.toArray ++ Builtin.zeroCells z.cells (cap - (l.length + l2.length))).size = cap * kd.size ∧ (∀ v ∈ (olds.toArray ++ news.toArray ++ Builtin.zeroCells z.cells (cap - (l.length + l2.length))).toList, v.oneCell' = true) ∧
  ∀ i (h : i < (l ++ l2).length) j (hj : j < (kd.cells (l ++ l2)[i]).length), DR G.D w ((kd.cells (l ++ l2)[i])[j]) ((olds.toArray ++ news.toArray ++ Builtin.zeroCells z.cells (cap - (l.length + l2.length))).getD (i * kd.size + j) undef) := by
 obtain ⟨z1, z2⟩ := GA hz (cap - (l.length + l2.length))
 have e : olds.toArray ++ news.toArray ++ Builtin.zeroCells z.cells (cap - (l.length + l2.length)) = (olds ++ news ++ (Builtin.zeroCells z.cells (cap - (l.length + l2.length))).toList).toArray := by
  apply Array.ext'; simp
 refine ⟨?_, ?_, ?_⟩
 ·have h1 := hs1.size
  have h2 := hs2.size
  simp only [Array.size_append, List.size_toArray, z1, h1, h2, Nat.sub_mul, Nat.add_mul]
  have : (l.length + l2.length) * kd.size ≤ cap * kd.size := Nat.mul_le_mul_right _ hcap
  rw [Nat.add_mul] at this
  omega
 ·intro v hv
  rw [e] at hv
  simp only [List.mem_append] at hv
  rcases hv with (hv | hv) | hv
  ·exact hs1.one v hv
  ·exact hs2.one v hv
  ·exact z2 v hv
 ·rw [e]
  exact BS hs1.size hs2.size hs1.get hs2.get
theorem Step.of_drew {slot : Nat} {b : Option Blk} (h : Step G w.drew slot b G' w') : Step G w slot b G' w' :=
 ⟨⟨h.below.os, h.below.tape, h.below.output, h.below.size, h.below.block⟩, h.keep, h.new, h.σ, h.slot⟩
theorem Qm (hE : EnvOK P E) {t u : TypeId} {it iu ei : TyI} {et : TypeId} (ht : E.t t = some it) (hsh : it.sh = .sl et) (hu : E.t u = some iu) (hsu : Zr iu.sh = true) (hei : E.t et = some ei) {kd : Kd} (hkd : ei.kd = some kd) :
  P.underlying t = some (.slice et) ∧ (∃ du, P.underlying u = some du ∧ Vt du = true) ∧ ∃ n z, P.info? et = some n ∧ n.size = kd.size ∧ n.bytes = ei.bytes ∧ n.zero = some z ∧ zall (kd.cells kd.zero) z.cells.toList = true := by
 obtain ⟨d, hd, hs, _⟩ := (hE.ty t it ht).und
 rw [hsh] at hs
 rw [j5 hs] at hd
 obtain ⟨du, hdu, hsu', _⟩ := (hE.ty u iu hu).und
 obtain ⟨n, z, h1, h2, h3, h4, _, _, h5⟩ := (hE.ty et ei hei).info
 obtain ⟨h6, h7⟩ := h5 kd hkd
 exact ⟨hd, ⟨du, hdu, R6 hsu' hsu⟩, n, z, h1, by omega, h3, h4, h7⟩
theorem Yi (hE : EnvOK P E) (h : Rel E base w0 ok en G s a w) {t u ty : TypeId} {it iu ei : TyI} {et : TypeId} (ht : E.t t = some it) (hsh : it.sh = .sl et) (hu : E.t u = some iu) (hsu : Zr iu.sh = true) (hei : E.t et = some ei) {kd : Kd} (hkd : ei.kd = some kd) (hby : 0 < ei.bytes)
  {b : Nat} {l l2 : List kd.T} {v x : Value} {y : AV} (hv : VR G.D G.σ w (.vec b) v) (hb : s.M[b]? = some (.vec kd l)) (hx : VR G.D G.σ w y x) (hl2 : zw s.M kd y = some l2) (hlock : s.lock.any (Nat.beq b) = false) (hfit : ((l.length : Int) + (l2.length : Int)) * (ei.bytes : Int) < 140737488355329) :
  ∃ r w' sb, (Builtin.append_ #[t, u] ty #[v, x]).run P w = .ok r w' ∧ Rel E base w0 ok en (G.up b sb) { s.kill b with M := (s.kill b).M.set b (.vec kd (l ++ l2)) } a w' ∧ VR (G.up b sb).D (G.up b sb).σ w' (.vec b) r := by
 obtain ⟨hd, ⟨du, hdu, hni⟩, ni, z, hn1, hn2, hn3, hn4, hz⟩ := Qm hE ht hsh hu hsu hei hkd
 obtain ⟨news, hsrc⟩ := zT (P := P) h.mem hx hl2
 have hlb : zw s.M kd (.vec b) = some l := by
  simp [zw, hb, zq]
 obtain ⟨olds, hold⟩ := zT (P := P) h.mem hv hlb
 obtain ⟨A, len, cap, sz, hσ, rfl⟩ := hv.vec_inv
 obtain ⟨A', cap', e1, e2, e3, e4⟩ := h.mem.blocks b _ hb
 rw [hσ] at e1
 cases e1
 have hfirst : ∀ w' : GW, w'.heap = w.heap → (Builtin.firstCells ni.size l2.length x).run P w' = .ok news.toArray w' := by
  intro w' hw'
  have := hsrc.first l2.length (Nat.le_refl _) w' hw'
  rw [hn2, this]
  congr 2
  rw [← hsrc.size, List.take_length]
 have hnfit : (l.length + l2.length) * ni.bytes ≤ 140737488355328 := by
  rw [hn3]
  have : (((l.length + l2.length) * ei.bytes : Nat) : Int) < 140737488355329 := by
   rw [Int.natCast_mul, Int.natCast_add]; exact hfit
  omega
 have vnew : ∀ (w' : GW) (A : Option Nat) (len cap : Nat), VR (G.up b (.hdr A len cap kd.size)).D (G.up b (.hdr A len cap kd.size)).σ w' (.vec b) (.slice (A.map blkA) len cap) := fun w' A len cap => .vec b A len cap kd.size (Gam.up_self ..)
 by_cases hroom : l.length + l2.length ≤ cap
 ·cases A with
  | none =>
    obtain ⟨rfl, rfl⟩ := e3 rfl
    have h0 : l2 = [] := by simpa using hroom
    subst h0
    refine ⟨_, _, .hdr none 0 0 kd.size, Qr hd hdu hni hn1 (hsrc.len w) (hfirst w rfl) hroom, ?_, vnew w none 0 0⟩
    exact h.rehdr hb hσ hlock ⟨rfl, rfl, rfl⟩ (Nat.le_refl _) (fun _ _ _ => rfl) ⟨none, 0, rfl, by simp, by simp, by simp⟩ (by intro c hc; cases hc)
  | some c =>
    obtain ⟨vs, bt, e5, e6, e7, e8⟩ := e4 c rfl
    have hnl := hsrc.size
    have hcapm : (l.length + l2.length) * kd.size ≤ cap * kd.size := Nat.mul_le_mul_right _ hroom
    rw [Nat.add_mul] at hcapm
    have hfit' : l.length * ni.size + news.length ≤ vs.size := by rw [hn2, hnl, e6]; exact hcapm
    refine ⟨_, _, .hdr (some c) (l.length + l2.length) cap kd.size, VI hd hdu hni hn1 (hsrc.len w) (hfirst w rfl) hroom e5 hfit' hsrc.one, ?_, vnew _ (some c) _ _⟩
    rw [hn2]
    generalize hrow : (vs.toList.take (l.length * kd.size) ++ news ++ vs.toList.drop (l.length * kd.size + news.length)).toArray = row
    obtain ⟨g1, g2, g3⟩ := kT w c row
    have hnd : ¬ G.D c := (h.mem.own b _ c hb (by rw [hσ]; rfl)).2.2
    have hD : ∀ k, G.D k → G.D k ∧ (w.setRow c row).heap[k]? = w.heap[k]? := fun k hk => ⟨hk, g1 k fun e => hnd (e ▸ hk)⟩
    refine h.rehdr hb hσ hlock g3 (by omega) (fun k _ hne => g1 k fun e => hne (by rw [e])) ⟨some c, cap, by simp, by simpa using hroom, by simp, fun c' hc' => ?_⟩ (fun c' hc' => .inl hc')
    cases hc'
    refine ⟨row, bt, setRow_heap w c vs _ bt _ e5, ?_, ?_, fun i hi j hj => ?_⟩
    ·rw [← hrow]
     simp only [List.size_toArray, List.length_append, List.length_take, List.length_drop, Array.length_toList, e6, hnl]
     rw [Nat.min_eq_left (by omega)]
     omega
    ·intro v hv
     rw [← hrow] at hv
     simp only [List.mem_append] at hv
     rcases hv with (hv | hv) | hv
     ·exact e7 v (List.mem_of_mem_take hv)
     ·exact hsrc.one v hv
     ·exact e7 v (List.mem_of_mem_drop hv)
    ·refine DR.mono hD ?_
     rw [← hrow]
     refine BS (l := l) (l2 := l2) (olds := vs.toList.take (l.length * kd.size)) (by simp; omega) hnl (fun i hi j hj => ?_) hsrc.get i hi j hj
     have hj' := jm hi hj
     have hlt : i * kd.size + j < l.length * kd.size := by
      have : (i + 1) * kd.size ≤ l.length * kd.size := Nat.mul_le_mul_right _ (by omega)
      rw [Nat.add_mul] at this; omega
     have := e8 i hi j hj
     simp only [List.getD_eq_getElem?_getD, List.getElem?_take, hlt, if_true]
     simpa using this
 ·have hgrow : cap < l.length + l2.length := by omega
  have hfo : (Builtin.firstCells ni.size l.length (.slice (A.map blkA) l.length cap)).run P w.drew = .ok olds.toArray w.drew := by
   have := hold.first l.length (Nat.le_refl _) w.drew rfl
   rw [hn2, this]
   congr 2
   rw [← hold.size, List.take_length]
  have hrun := Qs (ty := ty) hd hdu hni hn1 hn4 (by omega) (hsrc.len w) (hfirst w.drew rfl) hfo hgrow hnfit
  have hge := grownCap_ge w (l.length + l2.length) cap et
  generalize grownCap w (l.length + l2.length) cap et = gc at hrun hge
  obtain ⟨r1, r2, r3⟩ := B2 hold hsrc hz hge
  refine ⟨_, _, .hdr (some w.heap.size) (l.length + l2.length) gc kd.size, hrun, ?_, vnew _ (some w.heap.size) _ _⟩
  generalize olds.toArray ++ news.toArray ++ Builtin.zeroCells z.cells (gc - (l.length + l2.length)) = row at r1 r2 r3 ⊢
  have hD : ∀ k, G.D k → G.D k ∧ (w.drew.alloc (.cells row et)).heap[k]? = w.heap[k]? := fun k hk => ⟨hk, vW w.drew _ (h.mem.dlt k hk)⟩
  refine h.rehdr hb hσ hlock ⟨rfl, rfl, rfl⟩ (by show w.heap.size ≤ (w.heap.push _).size; simp) (fun k hk _ => vW w.drew _ hk) ⟨some w.heap.size, gc, by simp, by simpa using hge, by simp, fun c' hc' => ?_⟩ (fun c' hc' => ?_)
  ·cases hc'
   exact ⟨row, et, j4 w.drew _, r1, r2, fun i hi j hj => (r3 i hi j hj).mono hD⟩
  ·simp [mutC] at hc'
   subst hc'
   exact .inr ⟨Nat.le_refl _, by show w.heap.size < (w.heap.push _).size; simp⟩
theorem qdg (hE : EnvOK P E) (h : Rel E base w0 ok en G s a w) {t u ty : TypeId} {it iu ei : TyI} {et : TypeId} (ht : E.t t = some it) (hsh : it.sh = .sl et) (hu : E.t u = some iu) (hsu : Zr iu.sh = true) (hei : E.t et = some ei) {kd : Kd} (hkd : ei.kd = some kd) (hby : 0 < ei.bytes)
  {b : Nat} {hi : Int} {l l2 : List kd.T} {v x : Value} (hv : VR G.D G.σ w (.vsl b 0 hi) v) (hb : s.M[b]? = some (.vec kd l)) (hx : VR G.D G.σ w (.sl kd l2) x) (hlock : s.lock.any (Nat.beq b) = false)
  (hfit : (((ltake l hi).length : Int) + (l2.length : Int)) * (ei.bytes : Int) < 140737488355329) :
  ∃ r w' G', (Builtin.append_ #[t, u] ty #[v, x]).run P w = .ok r w' ∧ Rel E base w0 ok en G' { (s.cutV b kd (ltake l hi)).kill b with M := ((s.cutV b kd (ltake l hi)).kill b).M.set b (.vec kd (ltake l hi ++ l2)) } a w' ∧ VR G'.D G'.σ w' (.vec b) r := by
 obtain ⟨A, len, cap, sz, hσ, h0, hle, rfl⟩ := hv.vsl_inv0
 obtain ⟨A', cap', e1, e2, e3, e4⟩ := h.mem.blocks b _ hb
 rw [hσ] at e1
 cases e1
 have hbl : b < s.M.length := (List.getElem?_eq_some_iff.1 hb).1
 have hlen : (ltake l hi).length = hi.toNat := by simp [ltake]; omega
 have h1 : Rel E base w0 ok en (G.up b (.hdr A hi.toNat cap kd.size)) (s.cutV b kd (ltake l hi)) a w := by
  refine h.rehdr hb hσ hlock ⟨rfl, rfl, rfl⟩ (Nat.le_refl _) (fun _ _ _ => rfl) ⟨A, cap, by rw [hlen], by rw [hlen]; omega, fun hA => ?_, fun c hc => ?_⟩ (fun c hc => .inl (by cases A <;> simp [mutC] at hc ⊢; exact hc))
  ·obtain ⟨q1, q2⟩ := e3 hA
   exact ⟨by rw [q1]; simp [ltake], q2⟩
  ·obtain ⟨vs, bt, e5, e6, e7, e8⟩ := e4 c hc
   refine ⟨vs, bt, e5, e6, e7, fun i hi' j hj => ?_⟩
   have hil : i < l.length := by rw [hlen] at hi'; omega
   have e : (ltake l hi)[i] = l[i] := by simp [ltake]
   have := e8 i hil j (by rw [Kd.cells_length]; rw [Kd.cells_length] at hj; exact hj)
   simp only [e]
   exact this
 have hb1 : (s.cutV b kd (ltake l hi)).M[b]? = some (.vec kd (ltake l hi)) := by
  simp [St.cutV, St.kill, hbl]
 have hv1 : VR (G.up b (.hdr A hi.toNat cap kd.size)).D (G.up b (.hdr A hi.toNat cap kd.size)).σ w (.vec b) (.slice (A.map blkA) hi.toNat cap) := .vec b A _ cap kd.size (Gam.up_self ..)
 have hx1 : VR (G.up b (.hdr A hi.toNat cap kd.size)).D (G.up b (.hdr A hi.toNat cap kd.size)).σ w (.sl kd l2) x := .data _ _ hx.sl_inv
 obtain ⟨r, w', sb, g1, g2, g3⟩ := Yi (ty := ty) hE h1 ht hsh hu hsu hei hkd hby hv1 hb1 hx1 (by simp [zw, AV.asSl, zq]) hlock hfit
 exact ⟨r, w', _, g1, g2, g3⟩
theorem Rel.cut (h : Rel E base w0 ok en G s a w) {kd : Kd} {b : Nat} {hi : Int} {l : List kd.T} {v : Value} (hv : VR G.D G.σ w (.vsl b 0 hi) v) (hb : s.M[b]? = some (.vec kd l)) (hlock : s.lock.any (Nat.beq b) = false) :
  ∃ G', Rel E base w0 ok en G' (s.cutV b kd (ltake l hi)) a w ∧ VR G'.D G'.σ w (.vec b) v := by
 obtain ⟨A, len, cap, sz, hσ, h0, hle, rfl⟩ := hv.vsl_inv0
 obtain ⟨A', cap', e1, e2, e3, e4⟩ := h.mem.blocks b _ hb
 rw [hσ] at e1
 cases e1
 have hlen : (ltake l hi).length = hi.toNat := by simp [ltake]; omega
 refine ⟨G.up b (.hdr A hi.toNat cap kd.size), ?_, .vec b A _ cap kd.size (Gam.up_self ..)⟩
 refine h.rehdr hb hσ hlock ⟨rfl, rfl, rfl⟩ (Nat.le_refl _) (fun _ _ _ => rfl) ⟨A, cap, by rw [hlen], by rw [hlen]; omega, fun hA => ?_, fun c hc => ?_⟩ (fun c hc => .inl (by cases A <;> simp [mutC] at hc ⊢; exact hc))
 ·obtain ⟨q1, q2⟩ := e3 hA
  exact ⟨by rw [q1]; simp [ltake], q2⟩
 ·obtain ⟨vs, bt, e5, e6, e7, e8⟩ := e4 c hc
  refine ⟨vs, bt, e5, e6, e7, fun i hi' j hj => ?_⟩
  have hil : i < l.length := by rw [hlen] at hi'; omega
  have e : (ltake l hi)[i] = l[i] := by simp [ltake]
  have := e8 i hil j (by rw [Kd.cells_length]; rw [Kd.cells_length] at hj; exact hj)
  simp only [e]
  exact this
theorem Ke (hE : EnvOK P E) (h : Rel E base w0 ok en G s a w) {t u ty : TypeId} {it iu ei : TyI} {et : TypeId} (ht : E.t t = some it) (hsh : it.sh = .sl et) (hu : E.t u = some iu) (hsu : Zr iu.sh = true) (hei : E.t et = some ei) {kd : Kd} (hkd : ei.kd = some kd) (hby : 0 < ei.bytes)
  {l l2 : List kd.T} {A : Option Addr} {x : Value} {yb y : AV} (hv : VR G.D G.σ w yb (.slice A l.length l.length)) (hlb : zw s.M kd yb = some l) (hx : VR G.D G.σ w y x) (hl2 : zw s.M kd y = some l2) (hpos : 0 < l2.length) (hfit : ((l.length : Int) + (l2.length : Int)) * (ei.bytes : Int) < 140737488355329) :
  ∃ r w' G', (Builtin.append_ #[t, u] ty #[.slice A l.length l.length, x]).run P w = .ok r w' ∧ Rel E base w0 ok en G' { s with M := s.M ++ [.vec kd (l ++ l2)] } a w' ∧ VR G'.D G'.σ w' (.vec s.M.length) r := by
 obtain ⟨hd, ⟨du, hdu, hni⟩, ni, z, hn1, hn2, hn3, hn4, hz⟩ := Qm hE ht hsh hu hsu hei hkd
 obtain ⟨news, hsrc⟩ := zT (P := P) h.mem hx hl2
 obtain ⟨olds, hold⟩ := zT (P := P) h.mem hv hlb
 have hfirst : ∀ w' : GW, w'.heap = w.heap → (Builtin.firstCells ni.size l2.length x).run P w' = .ok news.toArray w' := by
  intro w' hw'
  have := hsrc.first l2.length (Nat.le_refl _) w' hw'
  rw [hn2, this]
  congr 2
  rw [← hsrc.size, List.take_length]
 have hnfit : (l.length + l2.length) * ni.bytes ≤ 140737488355328 := by
  rw [hn3]
  have : (((l.length + l2.length) * ei.bytes : Nat) : Int) < 140737488355329 := by
   rw [Int.natCast_mul, Int.natCast_add]; exact hfit
  omega
 have hgrow : l.length < l.length + l2.length := by omega
 have hfo : (Builtin.firstCells ni.size l.length (.slice A l.length l.length)).run P w.drew = .ok olds.toArray w.drew := by
  have := hold.first l.length (Nat.le_refl _) w.drew rfl
  rw [hn2, this]
  congr 2
  rw [← hold.size, List.take_length]
 have hrun := Qs (ty := ty) hd hdu hni hn1 hn4 (by omega) (hsrc.len w) (hfirst w.drew rfl) hfo hgrow hnfit
 have hge := grownCap_ge w (l.length + l2.length) l.length et
 generalize grownCap w (l.length + l2.length) l.length et = gc at hrun hge
 obtain ⟨r1, r2, r3⟩ := B2 hold hsrc hz hge
 have hslot := h.mem.out s.M.length (Nat.le_refl _)
 have hD : ∀ k, G.D k → G.D k ∧ w.drew.heap[k]? = w.heap[k]? := fun k hk => ⟨hk, rfl⟩
 have hstep := Step.vec (w := w.drew) hslot h.mem.dlt (e := kd) (l := l ++ l2) (vs := olds.toArray ++ news.toArray ++ Builtin.zeroCells z.cells (gc - (l.length + l2.length))) (cap := gc) et (by simpa using hge) r1 r2 (fun i hi j hj => (r3 i hi j hj).mono hD)
 refine ⟨_, _, _, hrun, h.push hstep.of_drew, ?_⟩
 have := VR.vec_new (D := G.D) (w' := w.drew.alloc (.cells (olds.toArray ++ news.toArray ++ Builtin.zeroCells z.cells (gc - (l.length + l2.length))) et)) G s.M.length w.heap.size (l ++ l2).length gc kd.size
 rw [List.length_append] at this
 rw [List.length_append]
 exact this
theorem append_nil (hE : EnvOK P E) (h : Rel E base w0 ok en G s a w) {t u ty : TypeId} {it iu ei : TyI} {et : TypeId} (ht : E.t t = some it) (hsh : it.sh = .sl et) (hu : E.t u = some iu) (hsu : Zr iu.sh = true) (hei : E.t et = some ei) {kd : Kd} (hkd : ei.kd = some kd) (hby : 0 < ei.bytes)
  {l2 : List kd.T} {x : Value} {y : AV} (hx : VR G.D G.σ w y x) (hl2 : zw s.M kd y = some l2) (hfit : (l2.length : Int) * (ei.bytes : Int) < 140737488355329) :
  ∃ r w' G', (Builtin.append_ #[t, u] ty #[.slice none 0 0, x]).run P w = .ok r w' ∧ Rel E base w0 ok en G' { s with M := s.M ++ [.vec kd l2] } a w' ∧ VR G'.D G'.σ w' (.vec s.M.length) r := by
 by_cases h0 : 0 < l2.length
 ·have := Ke (ty := ty) hE h ht hsh hu hsu hei hkd hby (l := []) (l2 := l2) (A := none) (yb := .nilsl) (.data _ _ .nilsl) rfl hx hl2 h0 (by simpa using hfit)
  exact this
 ·have : l2 = [] := List.length_eq_zero_iff.1 (by omega)
  subst this
  obtain ⟨hd, ⟨du, hdu, hni⟩, ni, z, hn1, hn2, hn3, hn4, hz⟩ := Qm hE ht hsh hu hsu hei hkd
  obtain ⟨news, hsrc⟩ := zT (P := P) h.mem hx hl2
  have hfirst : (Builtin.firstCells ni.size 0 x).run P w = .ok news.toArray w := by
   have := hsrc.first 0 (Nat.le_refl _) w rfl
   rw [hn2, this]
   have hn : news = [] := List.length_eq_zero_iff.1 (by have := hsrc.size; simpa using this)
   simp [hn]
  have hslot := h.mem.out s.M.length (Nat.le_refl _)
  refine ⟨_, _, _, Qr hd hdu hni hn1 (hsrc.len w) hfirst (Nat.le_refl _), h.push (Step.nilvec hslot kd), ?_⟩
  exact VR.vec (σ := (G.up s.M.length (.hdr none 0 0 kd.size)).σ) s.M.length none 0 0 kd.size (Gam.up_self ..)
theorem MA {D : Nat → Prop} {kd : Kd} {z : Value} (hz : zall (kd.cells kd.zero) z.cells.toList = true) (n : Int) (a b : Nat) (hab : n.toNat ≤ a) : ∀ q (hq : q < (lrep n kd.zero).length) j (hj : j < (kd.cells (lrep n kd.zero)[q]).length), DR D w ((kd.cells (lrep n kd.zero)[q])[j]) ((Builtin.zeroCells z.cells a ++ Builtin.zeroCells z.cells b).getD (q * kd.size + j) undef) := by
 intro q hq j hj
 have hlen : (lrep n kd.zero).length = n.toNat := by simp [lrep]
 obtain ⟨hzl, hzz⟩ := zM (D := D) (w := w) hz
 have hzs : z.cells.size = kd.size := by rw [Kd.cells_length] at hzl; simpa using hzl.symm
 have hj' : j < kd.size := jm hq hj
 have hq' : q < a := by rw [hlen] at hq; omega
 have hin : q * kd.size + j < a * kd.size := by
  have : (q + 1) * kd.size ≤ a * kd.size := Nat.mul_le_mul_right _ (by omega)
  rw [Nat.add_mul] at this
  omega
 have e0 : (Builtin.zeroCells z.cells a ++ Builtin.zeroCells z.cells b).getD (q * kd.size + j) undef = z.cells[(q * kd.size + j) % z.cells.size]! := by
  rw [Array.getD_eq_getD_getElem?, Array.getElem?_append_left (by simp [Builtin.zeroCells, hzs]; exact hin)]
  simp [Builtin.zeroCells, hzs, hin]
 rw [e0, hzs]
 have e : (q * kd.size + j) % kd.size = j := by rw [Nat.mul_comm, Nat.mul_add_mod, Nat.mod_eq_of_lt hj']
 rw [e, getElem!_pos z.cells j (by omega)]
 have hlz : (lrep n kd.zero)[q] = kd.zero := by simp [lrep]
 have h9 := (hzz j (by rw [Kd.cells_length]; exact hj') (by simpa [hzs] using hj')).1
 simp only [hlz]
 simpa using h9
theorem Rj (hE : EnvOK P E) (h : Rel E base w0 ok en G s a w) {t u ty : TypeId} {it iu ei : TyI} {et : TypeId} {kk : IntKind} (ht : E.t t = some it) (hsh : it.sh = .sl et) (hu : E.t u = some iu) (hsu : iu.sh = .int kk) (hei : E.t et = some ei) {kd : Kd} (hkd : ei.kd = some kd) (hby : 0 < ei.bytes) (hks : 0 < kd.size)
  {n : Int} (h0 : 0 ≤ n) (hfit : n * (ei.bytes : Int) < 140737488355329) :
  ∃ r w' G', (Builtin.append_ #[t, u] ty #[.slice none 0 0, .int .i64 n]).run P w = .ok r w' ∧ Rel E base w0 ok en G' { s with M := s.M ++ [.vec kd (lrep n kd.zero)] } a w' ∧ VR G'.D G'.σ w' (.vec s.M.length) r := by
 obtain ⟨d, hd, hs, _⟩ := (hE.ty t it ht).und
 rw [hsh] at hs
 rw [j5 hs] at hd
 obtain ⟨du, hdu, hsu', _⟩ := (hE.ty u iu hu).und
 rw [hsu] at hsu'
 rw [vj hsu'] at hdu
 obtain ⟨ni, z, hn1, hn2, hn3, hn4, _, _, hz2⟩ := (hE.ty et ei hei).info
 obtain ⟨hz1, hz⟩ := hz2 kd hkd
 have hslot := h.mem.out s.M.length (Nat.le_refl _)
 obtain ⟨m, rfl⟩ := Int.eq_ofNat_of_zero_le h0
 have hll : (lrep (m : Int) kd.zero).length = m := by simp [lrep]
 rcases Nat.eq_zero_or_pos m with hm | hm
 ·subst hm
  have hrun : (Builtin.append_ #[t, u] ty #[.slice none 0 0, .int .i64 ((0 : Nat) : Int)]).run P w = .ok (.slice none 0 0) w := by
   have hw : IntKind.i64.wrap (0 : Int) = 0 := rfl
   simp [Builtin.append_, run_underlying hd, run_underlying hdu, sizeOf, typeInfo, zeroValue, hn1, hn4, asInt, asIntOf, hw]
  refine ⟨_, _, _, hrun, h.push (Step.nilvec hslot kd), ?_⟩
  exact VR.vec (σ := (G.up s.M.length (.hdr none 0 0 kd.size)).σ) s.M.length none 0 0 kd.size (Gam.up_self ..)
 ·have hfitN : m * ni.bytes ≤ 140737488355328 := by
   rw [hn3]
   have : ((m * ei.bytes : Nat) : Int) < 140737488355329 := by rw [Int.natCast_mul]; exact hfit
   omega
  have hrun := K1 (w := w) (ty := ty) hd hdu hn1 hn4 (by omega) (by omega) hm hfitN
  have hge := grownCap_ge w m 0 et
  generalize grownCap w m 0 et = gc at hrun hge
  have hgc : m ≤ gc := hge
  obtain ⟨z1, z2⟩ := GA hz m
  obtain ⟨z3, z4⟩ := GA hz (gc - m)
  have hD : ∀ k, G.D k → G.D k ∧ w.drew.heap[k]? = w.heap[k]? := fun k hk => ⟨hk, rfl⟩
  have hstep := Step.vec (w := w.drew) hslot h.mem.dlt (e := kd) (l := lrep (m : Int) kd.zero) (vs := Builtin.zeroCells z.cells m ++ Builtin.zeroCells z.cells (gc - m)) (cap := gc) et (by rw [hll]; exact hgc)
   (by rw [Array.size_append, z1, z3, ← Nat.add_mul]; congr 1; omega) (fun v hv => by
    rw [Array.toList_append, List.mem_append] at hv
    rcases hv with hv | hv
    ·exact z2 v hv
    ·exact z4 v hv) (MA hz (m : Int) m (gc - m) (by simp))
  refine ⟨_, _, _, hrun, h.push hstep.of_drew, ?_⟩
  have := VR.vec_new (D := G.D) (w' := w.drew.alloc (.cells (Builtin.zeroCells z.cells m ++ Builtin.zeroCells z.cells (gc - m)) et)) G s.M.length w.heap.size (lrep (m : Int) kd.zero).length gc kd.size
  rw [hll] at this ⊢
  exact this
end Go.Sx
namespace Go.Sx
open Go
open Go.RowKit (Below)
variable {P : Program} {E : Env} {base : Nat} {w0 : GW} {ok : Nat → Prop} {en : Ent} {G G' : Gam} {s : St} {a : Act} {w w' : GW} {R : Type} {M : Mem}
theorem fit2 {α β : Type} {l : List α} {l2 : List β} {b : Nat} {c : Int} (h : ilt (imul (iadd (qh l) (qh l2)) b) c = true) : ((l.length : Int) + (l2.length : Int)) * (b : Int) < c := by
 have h1 : (qh l + qh l2) * (b : Int) < c := of_decide_eq_true h
 rw [ilen_eq, ilen_eq] at h1
 exact h1
theorem fit1 {β : Type} {l2 : List β} {b : Nat} {c : Int} (h : ilt (imul (qh l2) b) c = true) : (l2.length : Int) * (b : Int) < c := by
 have h1 : qh l2 * (b : Int) < c := of_decide_eq_true h
 rw [ilen_eq] at h1
 exact h1
theorem fit0 {β : Type} {l2 : List β} (h : ilt 0 (qh l2) = true) : 0 < l2.length := by
 have h1 : (0 : Int) < qh l2 := of_decide_eq_true h
 rw [ilen_eq] at h1
 omega
theorem qi1 {t u ty e : TypeId} {i : TypeInfo} (ht : P.underlying t = some (.slice e)) (hi : P.info? e = some i) {c len cap n m : Nat} {x : Value} {cs : List Value} (hlen : (Builtin.lenOf x).run P w = .ok n w) (hm : Nat.min n len = m) (hfirst : (Builtin.firstCells i.size m x).run P w = .ok cs.toArray w)
  {vs : Array Value} {bt : TypeId} (hb : w.heap[c]? = some (.cells vs bt (0, 0))) (hfit : cs.length ≤ vs.size) (h1 : ∀ v ∈ cs, v.oneCell' = true) :
  (Builtin.copy_ #[t, u] ty #[.slice (some (blkA c)) len cap, x]).run P w = .ok (goInt m) (w.setRow c (cs ++ vs.toList.drop cs.length).toArray) := by
 have hst := run_storeCells_at P c 0 bt cs 0 vs w hb (by simpa using hfit) h1
 simp only [Nat.zero_add, List.take_zero, List.nil_append] at hst
 simp [Builtin.copy_, run_underlying ht, sizeOf, typeInfo, hi, hlen, hm, hfirst, blkA, hst]
theorem Yv {t u ty e : TypeId} {i : TypeInfo} (ht : P.underlying t = some (.slice e)) (hi : P.info? e = some i) {len cap n m : Nat} {x : Value} {cs : List Value} (hlen : (Builtin.lenOf x).run P w = .ok n w) (hm : Nat.min n len = m) (hfirst : (Builtin.firstCells i.size m x).run P w = .ok cs.toArray w) :
  (Builtin.copy_ #[t, u] ty #[.slice none len cap, x]).run P w = .ok (goInt m) w := by
 simp [Builtin.copy_, run_underlying ht, sizeOf, typeInfo, hi, hlen, hm, hfirst]
theorem qc1 (hE : EnvOK P E) (h : Rel E base w0 ok en G s a w) {t u ty : TypeId} {it ei : TyI} {et : TypeId} (ht : E.t t = some it) (hsh : it.sh = .sl et) (hei : E.t et = some ei) {kd : Kd} (hkd : ei.kd = some kd)
  {b : Nat} {l l2 : List kd.T} {v x : Value} {y : AV} (hv : VR G.D G.σ w (.vec b) v) (hb : s.M[b]? = some (.vec kd l)) (hx : VR G.D G.σ w y x) (hl2 : zw s.M kd y = some l2) :
  ∃ w', (Builtin.copy_ #[t, u] ty #[v, x]).run P w = .ok (.int .i64 (imin (qh l2) (qh l))) w' ∧ Rel E base w0 ok en G { s with M := s.M.set b (.vec kd (lapp (ltake l2 (qh l)) (ldrop l (qh l2)))) } a w' := by
 obtain ⟨d, hd, hs, _⟩ := (hE.ty t it ht).und
 rw [hsh] at hs
 rw [j5 hs] at hd
 obtain ⟨n, z, hn1, hn2, hn3, hn4, _, _, h5⟩ := (hE.ty et ei hei).info
 have hks := (h5 kd hkd).1
 have hnk : n.size = kd.size := by omega
 obtain ⟨news, hsrc⟩ := zT (P := P) h.mem hx hl2
 obtain ⟨A, len, cap, sz, hσ, rfl⟩ := hv.vec_inv
 obtain ⟨A', cap', e1, e2, e3, e4⟩ := h.mem.blocks b _ hb
 rw [hσ] at e1
 cases e1
 have hmin : goInt (Nat.min l2.length l.length) = .int .i64 (imin (qh l2) (qh l)) := by
  simp only [ilen_eq]; unfold goInt imin
  congr 1
  have : Nat.min l2.length l.length = if l.length < l2.length then l.length else l2.length := by
   show min l2.length l.length = _
   split <;> omega
  rw [this]
  split
  ·rename_i h; rw [if_pos (by omega)]
  ·rename_i h; rw [if_neg (by omega)]
 have hle : Nat.min l2.length l.length ≤ l2.length := Nat.min_le_left _ _
 have hle' : Nat.min l2.length l.length ≤ l.length := Nat.min_le_right _ _
 have hmm : Nat.min l2.length l.length = l2.length ∨ Nat.min l2.length l.length = l.length := by
  show min l2.length l.length = l2.length ∨ min l2.length l.length = l.length
  omega
 have hfirst := hsrc.first _ hle w rfl
 rw [← hnk] at hfirst
 cases A with
 | none =>
   obtain ⟨rfl, rfl⟩ := e3 rfl
   refine ⟨w, ?_, ?_⟩
   ·have := Yv (u := u) (ty := ty) hd hn1 (len := 0) (cap := 0) (hsrc.len w) rfl hfirst
    exact this.trans (by rw [← hmin]; rfl)
   ·have e : s.M.set b (.vec kd (lapp (ltake l2 (qh ([] : List kd.T))) (ldrop ([] : List kd.T) (qh l2)))) = s.M := by
     apply List.ext_getElem?
     intro q
     rw [List.getElem?_set]
     by_cases hq : b = q
     ·subst hq
      have := (List.getElem?_eq_some_iff.1 hb).1
      have e0 : lapp (ltake l2 (qh ([] : List kd.T))) (ldrop ([] : List kd.T) (qh l2)) = [] := by simp [lapp, ltake, ldrop, ilen_eq]
      rw [e0, if_pos rfl, if_pos this, hb]
     ·simp [hq]
    rw [e]; exact h
 | some c =>
   obtain ⟨vs, bt, e5, e6, e7, e8⟩ := e4 c rfl
   generalize hm : Nat.min l2.length l.length = m at hmin hle hle' hmm hfirst
   have hcl : (news.take (m * n.size)).length = m * kd.size := by
    have h1 : m * kd.size ≤ l2.length * kd.size := Nat.mul_le_mul_right _ hle
    rw [List.length_take, hsrc.size, hnk, Nat.min_eq_left h1]
   have hfit : (news.take (m * n.size)).length ≤ vs.size := by
    rw [hcl, e6]; exact Nat.mul_le_mul_right _ (by omega)
   have hone : ∀ v ∈ news.take (m * n.size), v.oneCell' = true := fun v hv => hsrc.one v (List.mem_of_mem_take hv)
   have hrun := qi1 (u := u) (ty := ty) (len := l.length) (cap := cap) hd hn1 (hsrc.len w) hm hfirst e5 hfit hone
   rw [hmin] at hrun
   refine ⟨_, hrun, ?_⟩
   ·rw [hcl]
    generalize hrow : (news.take (m * n.size) ++ vs.toList.drop (m * kd.size)).toArray = row
    obtain ⟨g1, g2, g3⟩ := kT w c row
    have hmut : mutC (G.σ b) (.vec kd l) = some c := by rw [hσ]; rfl
    have hD : ∀ k, G.D k → G.D k ∧ (w.setRow c row).heap[k]? = w.heap[k]? := fun k hk => ⟨hk, g1 k fun e => (h.mem.own b _ c hb hmut).2.2 (e ▸ hk)⟩
    have hlist : lapp (ltake l2 (qh l)) (ldrop l (qh l2)) = l2.take m ++ l.drop m := by
     simp only [ilen_eq]; unfold lapp ltake ldrop
     simp only [Int.toNat_natCast]
     rcases hmm with e | e
     ·rw [e, List.take_of_length_le (by omega), List.take_of_length_le (by omega)]
     ·rw [e, List.drop_of_length_le (by omega), List.drop_of_length_le (by omega)]
    rw [hlist]
    have hll : (l2.take m ++ l.drop m).length = l.length := by simp; omega
    refine h.write hb hmut g1 g2 g3 ⟨some c, cap, by rw [hll]; exact hσ, by rw [hll]; exact e2, by simp, fun c' hc' => ?_⟩ (by intro c' h'; rw [hσ] at h'; cases h'; rfl)
    cases hc'
    refine ⟨row, bt, setRow_heap w c vs _ bt _ e5, ?_, ?_, fun i hi j hj => ?_⟩
    ·rw [← hrow]
     simp only [List.size_toArray, List.length_append, List.length_drop, Array.length_toList, hcl, e6]
     have : m * kd.size ≤ cap * kd.size := Nat.mul_le_mul_right _ (by omega)
     omega
    ·intro v hv
     rw [← hrow] at hv
     simp only [List.mem_append] at hv
     rcases hv with hv | hv
     ·exact hone v hv
     ·exact e7 v (List.mem_of_mem_drop hv)
    ·refine DR.mono hD ?_
     have hj' : j < kd.size := jm hi hj
     have e0 : row.getD (i * kd.size + j) undef = (news.take (m * n.size) ++ vs.toList.drop (m * kd.size)).getD (i * kd.size + j) undef := by rw [← hrow]; simp
     rw [e0, Yj, hcl]
     by_cases him : i < m
     ·have hlt : i * kd.size + j < m * kd.size := by
       have : (i + 1) * kd.size ≤ m * kd.size := Nat.mul_le_mul_right _ (by omega)
       rw [Nat.add_mul] at this; omega
      rw [if_pos hlt]
      have e : (l2.take m ++ l.drop m)[i] = l2[i]'(by omega) := by
       rw [List.getElem_append_left (by simp; omega), List.getElem_take]
      have := hsrc.get i (by omega) j (by rw [Kd.cells_length]; exact hj')
      simp only [e]
      rw [List.getD_eq_getElem?_getD, List.getElem?_take, hnk, if_pos hlt, ← List.getD_eq_getElem?_getD]
      exact this
     ·have hge : m * kd.size ≤ i * kd.size := Nat.mul_le_mul_right _ (by omega)
      rw [if_neg (by omega)]
      have hi' : i < l.length := by rw [hll] at hi; exact hi
      have e : (l2.take m ++ l.drop m)[i] = l[i] := by
       rw [List.getElem_append_right (by simp; omega), List.getElem_drop]
       congr 1
       simp
       omega
      have := e8 i hi' j (by rw [Kd.cells_length]; exact hj')
      simp only [e]
      rw [List.getD_eq_getElem?_getD, List.getElem?_drop, show m * kd.size + (i * kd.size + j - m * kd.size) = i * kd.size + j by omega]
      simpa using this
def Wild (P : Program) (E : Env) (base : Nat) (w0 : GW) (ok : Nat → Prop) (en : Ent) (o : Oper) (a : Act) (k : St → Option R) (r : R) (res : Result Next) : Prop :=
 ∃ nx w' x G' s', res = .ok nx w' ∧ ((nx = .skip ∧ x = undef) ∨ nx = .value x) ∧ k s' = some r ∧ Rel E base w0 ok en G' s' (a.put o.dst x) w'
theorem GB {o : Oper} {k : St → Option R} {r : R} {m : Sem Unit} {s' : St} (hrun : m.run P w = .ok () w') (hk : k (s'.put o.dst .junk) = some r) (h : Rel E base w0 ok en G' s' a w') : Wild P E base w0 ok en o a k r ((do m; pure Next.skip : Sem Next).run P w) :=
 ⟨.skip, w', undef, G', _, by simp only [Sem.run_bind, hrun, Result.andThen_ok, Sem.run_pure], .inl ⟨rfl, rfl⟩, hk, h.put (.junk _) _⟩
theorem Kr {o : Oper} {k : St → Option R} {r : R} {m : Sem Value} {x : Value} {v : AV} {s' : St} (hrun : m.run P w = .ok x w') (hk : k (s'.put o.dst v) = some r) (h : Rel E base w0 ok en G' s' a w') (hv : VR G'.D G'.σ w' v x) : Wild P E base w0 ok en o a k r ((do pure (.value (← m)) : Sem Next).run P w) :=
 ⟨.value x, w', x, G', _, by simp only [Sem.run_bind, hrun, Result.andThen_ok, Sem.run_pure], .inr rfl, hk, h.put hv _⟩
theorem qmd {kd : Kd} {ei : TyI} {us : Sh} {x y : AV} {d : Option Nat} {k : St → Option R} {r : R} (h : appZ kd ei us x y s d k = some r) :
  ∃ kk n, us = .int kk ∧ x = .nilsl ∧ y = .int .i64 n ∧ 0 < ei.bytes ∧ 0 < kd.size ∧ 0 ≤ n ∧ n * (ei.bytes : Int) < 140737488355329 ∧ k (({ s with M := s.M ++ [.vec kd (lrep n kd.zero)] } : St).put d (.vec s.M.length)) = some r := by
 unfold appZ at h
 split at h
 ·rename_i kk n
  replace h := qr h
  obtain ⟨hb, h⟩ := h
  rw [Bool.and_eq_true] at hb
  replace h := qB h
  obtain ⟨h0, h⟩ := h
  replace h := qB h
  obtain ⟨hfit, h⟩ := h
  exact ⟨kk, n, rfl, rfl, rfl, Nat.le_of_ble_eq_true hb.1, Nat.le_of_ble_eq_true hb.2, of_decide_eq_true h0, of_decide_eq_true hfit, h⟩
 ·cases h
theorem M1 {α : Type} {b : Bool} {x y r : Option α} (h : (bif b then x else y) = r) : (b = true ∧ x = r) ∨ (b = false ∧ y = r) := by
 cases b
 ·exact .inr ⟨rfl, h⟩
 ·exact .inl ⟨rfl, h⟩
theorem Uq (hE : EnvOK P E) (h : Rel E base w0 ok en G s a w) {o : Oper} {k : St → Option R} {r : R} {t : TypeId} {m x v : Operand}
  (hk : (match E.t t with
  | none => none
  | some i => match i.sh with
    | .map kt _ => match (E.t kt).map TyI.sh, evO s.T m, evO s.T x with
      | some (.int kk), .mref b, .int kk' n => bif decide (kk' = kk) then (match (frz s.M (evO s.T v))[b]? with
        | some (.map (.int kk1) kv l) => bif decide (kk1 = kk) then ((km (frz s.M (evO s.T v)) (evO s.T v)).bind fun z => (z.as kv).bind fun z => k (({ s with M := (frz s.M (evO s.T v)).set b (.map (.int kk1) kv (gZ l n z)) } : St).put o.dst .junk)) else none
        | some (.amap ks vs) => bif ks.all (Up kk n) && oneA (evO s.T v) then k (({ s with M := (frz s.M (evO s.T v)).set b (.amap (ks ++ [.int kk n]) (vs ++ [evO s.T v])) } : St).put o.dst .junk) else none
        | _ => none) else none
      | _, _, _ => none
    | _ => none) = some r) : Wild P E base w0 ok en o a k r ((do Instr.mapUpdate t (a.eval m) (a.eval x) (a.eval v); pure Next.skip : Sem Next).run P w) := by
 split at hk
 ·simp at hk
 ·rename_i i hi
  obtain ⟨d, hd, hs, _⟩ := (hE.ty t i hi).und
  split at hk
  ·rename_i kt et hsh
   rw [hsh] at hs
   rw [Zv hs] at hd
   split at hk
   ·rename_i kk b kk' n hkt hm hx
    obtain ⟨ki, hki, hks⟩ := Option.map_eq_some_iff.1 hkt
    obtain ⟨d2, hd2, hs2, _⟩ := (hE.ty kt ki hki).und
    rw [hks] at hs2
    rw [vj hs2] at hd2
    replace hk := qr hk
    obtain ⟨hc, hk⟩ := hk
    have hkk : kk' = kk := by simpa using hc
    subst hkk
    obtain ⟨G1, h1, hσ1⟩ := h.frz (evO s.T v)
    have hev := qR (G := G1) (w := w) (a := a) h1.val
    have hmm := hev m
    have hxx := hev x
    have hvv := hev v
    simp only at hmm hxx hvv
    rw [hm] at hmm
    rw [hx] at hxx
    rw [hxx.int_inv]
    split at hk
    ·rename_i kk1 kv l hb
     replace hk := qr hk
     obtain ⟨hc, hk⟩ := hk
     have hkk : kk1 = kk' := by simpa using hc
     subst hkk
     obtain ⟨z, hz, hk⟩ := Option.bind_eq_some_iff.1 hk
     obtain ⟨z', hz', hk⟩ := Option.bind_eq_some_iff.1 hk
     obtain ⟨w', g1, g2⟩ := qg2 hE h1 hd hd2 hmm hb (n := n) (AV.as_as hz' _ _ _ (kl h1.mem hvv hz))
     exact GB g1 hk g2
    ·rename_i ks vs hb
     replace hk := qr hk
     obtain ⟨hc, hk⟩ := hk
     simp only [Bool.and_eq_true] at hc
     obtain ⟨w', g1, g2⟩ := map_any hE h1 hd hd2 hmm hb (n := n) hvv hc.1
     exact GB g1 hk g2
    ·simp at hk
   ·simp at hk
  ·simp at hk
theorem Rx (hE : EnvOK P E) (h : Rel E base w0 ok en G s a w) {o : Oper} {k : St → Option R} {r : R} (hk : qip E o s k = some r) : Wild P E base w0 ok en o a k r ((execOp a.eval o).run P w) := by
 have hev := qR (G := G) (w := w) (a := a) h.val
 unfold qip at hk
 split at hk
 ·rename_i t ad x ho
  rw [show execOp a.eval o = (do Instr.storeAt t (a.eval ad) (a.eval x); pure .skip) by unfold execOp; rw [ho]]
  split at hk
  ·simp at hk
  ·rename_i i hi
   replace hk := qr hk
   obtain ⟨hf, hk⟩ := hk
   split at hk
   ·rename_i b off had
    have hu := hev ad
    rw [had] at hu
    split at hk
    ·rename_i cs hb
     obtain ⟨cs', hs, hk⟩ := Option.bind_eq_some_iff.1 hk
     obtain ⟨w', g1, g2⟩ := YO hE h hi hu (hev x) hf hb hs
     exact GB g1 hk g2
    ·simp at hk
   ·rename_i b j off had
    obtain ⟨G1, h1, hσ1⟩ := h.frz (evO s.T x)
    have hev1 := qR (G := G1) (w := w) (a := a) h1.val
    have hu := hev1 ad
    simp only at hu
    rw [had] at hu
    split at hk
    ·rename_i e l hb
     obtain ⟨y, hy, hk⟩ := Option.bind_eq_some_iff.1 hk
     obtain ⟨v, hv, hk⟩ := Option.bind_eq_some_iff.1 hk
     obtain ⟨cs, hcs, hk⟩ := Option.bind_eq_some_iff.1 hk
     obtain ⟨y', hy', hk⟩ := Option.bind_eq_some_iff.1 hk
     obtain ⟨w', g1, g2⟩ := MP hE h1 hi hu (hev1 x) hf hb hy hv hcs hy'
     exact GB g1 hk g2
    ·simp at hk
   ·rename_i b off n j had
    have hu := hev ad
    rw [had] at hu
    split at hk
    ·rename_i cs kk v hb hx
     replace hk := qr hk
     obtain ⟨hle, hk⟩ := hk
     obtain ⟨l, hl, hk⟩ := Option.bind_eq_some_iff.1 hk
     have hxx := hev x
     rw [hx] at hxx hf
     obtain ⟨w', g1, g2⟩ := MQ hE h hi hu hxx hf hb (Nat.le_of_ble_eq_true hle) hl
     exact GB g1 hk g2
    ·simp at hk
   ·simp at hk
 ·rename_i t m x v ho
  rw [show execOp a.eval o = (do Instr.mapUpdate t (a.eval m) (a.eval x) (a.eval v); pure .skip) by unfold execOp; rw [ho]]
  exact Uq hE h hk
 ·rename_i t m x v ho
  rw [show execOp a.eval o = (do Instr.mapUpdate t (a.eval m) (a.eval x) (a.eval v); pure .skip) by unfold execOp; rw [ho]]
  exact Uq hE h hk
 ·rename_i c ho
  have hex : ∀ {b : Builtin} {f : Sem Value}, c.callee = .builtin b → (builtin b c.argTypes o.type (c.args.map fun | .const _ => true | _ => false) (c.args.map a.eval) = (do pure (.value (← f)))) → execOp a.eval o = (do pure (.value (← f))) := by
   intro b f hc hs
   unfold execOp
   rw [ho]
   simp only [resolve, hc, pure_bind, invoke]
   exact hs
  split at hk
  ·rename_i hc
   split at hk
   ·rename_i x y t u hxy htu
    have eA : c.args.map a.eval = #[a.eval x, a.eval y] := by apply Array.ext'; rw [Array.toList_map, hxy]; rfl
    have eT : c.argTypes = #[t, u] := by apply Array.ext'; rw [htu]
    rw [hex (f := Builtin.append_ #[t, u] o.type #[a.eval x, a.eval y]) hc (by rw [eA, eT]; rfl)]
    split at hk
    ·rename_i et us ht hu
     obtain ⟨it, hit, hsh⟩ := Option.map_eq_some_iff.1 ht
     obtain ⟨iu, hiu, hsu⟩ := Option.map_eq_some_iff.1 hu
     split at hk
     ·rename_i ei hei
      split at hk
      ·rename_i kd hkd
       rcases M1 hk with ⟨hc2, hk⟩ | ⟨_, hk⟩
       rotate_left
       ·obtain ⟨kk, n, e1, hx, hy, b1, b2, h0, hfit, hk⟩ := qmd hk
        have hxx := hev x
        rw [hx] at hxx
        have hyy := hev y
        rw [hy] at hyy
        rw [hxx.nilsl_inv, hyy.int_inv]
        obtain ⟨rr, w', G', g1, g2, g3⟩ := Rj (ty := o.type) hE h hit hsh hiu (hsu.trans e1) hei hkd b1 b2 h0 hfit
        exact Kr g1 hk g2 g3
       simp only [Bool.and_eq_true] at hc2
       have hby : 0 < ei.bytes := Nat.le_of_ble_eq_true hc2.2
       have hsrc : Zr iu.sh = true := by rw [hsu]; exact hc2.1
       split at hk
       ·rename_i b hx
        have hxx := hev x
        rw [hx] at hxx
        split at hk
        ·rename_i e' l hb
         split at hk
         ·rename_i he
          subst he
          obtain ⟨l2, hl2, hk⟩ := Option.bind_eq_some_iff.1 hk
          replace hk := J0 hk
          obtain ⟨hlk, hk⟩ := hk
          replace hk := qB hk
          obtain ⟨hfit, hk⟩ := hk
          obtain ⟨rr, w', sb, g1, g2, g3⟩ := Yi (ty := o.type) hE h hit hsh hiu hsrc hei hkd hby hxx hb (hev y) hl2 hlk (fit2 hfit)
          exact Kr g1 hk g2 g3
         ·simp at hk
        ·simp at hk
       ·rename_i e' l hx
        have hxx := hev x
        rw [hx] at hxx
        split at hk
        ·rename_i he
         subst he
         obtain ⟨l2, hl2, hk⟩ := Option.bind_eq_some_iff.1 hk
         replace hk := qB hk
         obtain ⟨hpos, hk⟩ := hk
         replace hk := qB hk
         obtain ⟨hfit, hk⟩ := hk
         obtain ⟨A, hA⟩ := hxx.slc_inv.slc_inv
         rw [hA] at hxx ⊢
         have hpos' : 0 < l2.length := fit0 hpos
         obtain ⟨rr, w', G', g1, g2, g3⟩ := Ke (ty := o.type) (yb := .slc _ l) hE h hit hsh hiu hsrc hei hkd hby hxx (by simp [zw, AV.asSl, zq]) (hev y) hl2 hpos' (fit2 hfit)
         exact Kr g1 hk g2 g3
        ·simp at hk
       ·rename_i b lo hi hx
        have hxx := hev x
        rw [hx] at hxx
        split at hk
        ·rename_i e' l e2 l2 hb hy
         have hyy := hev y
         rw [hy] at hyy
         split at hk
         ·rename_i he
          obtain ⟨rfl, rfl⟩ := he
          replace hk := J0 hk
          obtain ⟨hlk, hk⟩ := hk
          replace hk := qB hk
          obtain ⟨hlo, hk⟩ := hk
          obtain rfl : lo = 0 := by simpa [ieq] using hlo
          replace hk := qB hk
          obtain ⟨hfit, hk⟩ := hk
          obtain ⟨rr, w', G', g1, g2, g3⟩ := qdg (ty := o.type) hE h hit hsh hiu hsrc hei hkd hby hxx hb hyy hlk (fit2 hfit)
          exact Kr g1 hk g2 g3
         ·simp at hk
        ·simp at hk
       ·rename_i hx
        have hxx := hev x
        rw [hx] at hxx
        obtain ⟨l2, hl2, hk⟩ := Option.bind_eq_some_iff.1 hk
        replace hk := qB hk
        obtain ⟨hfit, hk⟩ := hk
        rw [hxx.nilsl_inv]
        obtain ⟨rr, w', G', g1, g2, g3⟩ := append_nil (ty := o.type) hE h hit hsh hiu hsrc hei hkd hby (hev y) hl2 (fit1 hfit)
        exact Kr g1 hk g2 g3
       ·simp at hk
      ·simp at hk
     ·simp at hk
    ·simp at hk
   ·simp at hk
  ·rename_i hc
   split at hk
   ·rename_i x y t u hxy htu
    have eA : c.args.map a.eval = #[a.eval x, a.eval y] := by apply Array.ext'; rw [Array.toList_map, hxy]; rfl
    have eT : c.argTypes = #[t, u] := by apply Array.ext'; rw [htu]
    rw [hex (f := Builtin.copy_ #[t, u] o.type #[a.eval x, a.eval y]) hc (by rw [eA, eT]; rfl)]
    split at hk
    ·rename_i et ht
     obtain ⟨it, hit, hsh⟩ := Option.map_eq_some_iff.1 ht
     split at hk
     ·rename_i ei hei
      split at hk
      ·rename_i kd b hkd hx
       have hxx := hev x
       rw [hx] at hxx
       split at hk
       ·rename_i e' l hb
        split at hk
        ·rename_i he
         subst he
         obtain ⟨l2, hl2, hk⟩ := Option.bind_eq_some_iff.1 hk
         obtain ⟨w', g1, g2⟩ := qc1 (u := u) (ty := o.type) hE h hit hsh hei hkd hxx hb (hev y) hl2
         exact Kr g1 hk g2 (.data _ _ (.int _ _))
        ·simp at hk
       ·simp at hk
      ·simp at hk
     ·simp at hk
    ·simp at hk
   ·simp at hk
  ·simp at hk
 ·simp at hk
end Go.Sx
