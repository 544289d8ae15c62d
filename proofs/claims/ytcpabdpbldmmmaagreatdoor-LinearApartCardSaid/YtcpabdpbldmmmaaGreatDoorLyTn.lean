/-
  Worlds: trades (plain).
-/
import Derived.Test.YtcpabdpbldmmmaaGreatDoorLyTm
set_option linter.unusedVariables false
set_option linter.unusedSimpArgs false
namespace Go.Sx
open Go Go.Proofs
def kZ (a b p f : Int) : Int × Int × Int :=
 if p < 0 then (a, (b, 1)) else if f < 0 then (a, (b, 1)) else if a < p then (a, (b, 10)) else if b < f then (a, (b, 10))
 else if 1073741824 < a - p + f then (a, (b, 11)) else if 1073741824 < b - f + p then (a, (b, 11)) else (a - p + f, (b - f + p, 0))
theorem qij (n : Int) : cisF n = some (decide (0 ≤ n ∧ n ≤ 1073741824)) := JC n
theorem qfg {a b : Int} (ha : 0 ≤ a ∧ a ≤ 1073741824) (hb : 0 ≤ b ∧ b ≤ 1073741824) (p f : Int) : Bh a b p f = some (kZ a b p f) := by
 unfold Bh kZ
 by_cases h1 : p < 0
 ·rw [qk h1, if_pos h1]
 rw [qu h1, if_neg h1]
 by_cases h2 : f < 0
 ·rw [qk h2, if_pos h2]
 rw [qu h2, if_neg h2]
 by_cases h3 : a < p
 ·rw [qk h3, if_pos h3]
 rw [qu h3, if_neg h3]
 by_cases h4 : b < f
 ·rw [qk h4, if_pos h4]
 rw [qu h4, if_neg h4]
 have e1 : wrap .i64 (isub (wrap .i64 (iadd a f)) p) = a - p + f := by
  show wrap .i64 (wrap .i64 (a + f) - p) = _
  rw [qO (n := a + f) (by omega) (by omega), qO (by omega) (by omega)]
  omega
 have e2 : wrap .i64 (isub (wrap .i64 (iadd b p)) f) = b - f + p := by
  show wrap .i64 (wrap .i64 (b + p) - f) = _
  rw [qO (n := b + p) (by omega) (by omega), qO (by omega) (by omega)]
  omega
 rw [e1, e2, JC, qg, qv]
 by_cases h5 : 1073741824 < a - p + f
 ·rw [if_neg (by omega), if_pos h5]
 rw [if_pos (by omega), if_neg h5, JC, qg, qv]
 by_cases h6 : 1073741824 < b - f + p
 ·rw [if_neg (by omega), if_pos h6]
 rw [if_pos (by omega), if_neg h6]
theorem qh5 {a b : Int} (ha : 0 ≤ a ∧ a ≤ 1073741824) (hb : 0 ≤ b ∧ b ≤ 1073741824) (p f : Int) : Ky a b p f = some (kZ a b p f) := by
 unfold Ky kZ
 by_cases h1 : p < 0
 ·rw [qk h1, if_pos h1]
 rw [qu h1, if_neg h1]
 by_cases h2 : f < 0
 ·rw [qk h2, if_pos h2]
 rw [qu h2, if_neg h2]
 by_cases h3 : a < p
 ·rw [qk h3, if_pos h3]
 rw [qu h3, if_neg h3]
 by_cases h4 : b < f
 ·rw [qk h4, if_pos h4]
 rw [qu h4, if_neg h4]
 have e1 : wrap .i64 (iadd (wrap .i64 (isub a p)) f) = a - p + f := by
  show wrap .i64 (wrap .i64 (a - p) + f) = _
  rw [qO (n := a - p) (by omega) (by omega), qO (by omega) (by omega)]
 have e2 : wrap .i64 (iadd (wrap .i64 (isub b f)) p) = b - f + p := by
  show wrap .i64 (wrap .i64 (b - f) + p) = _
  rw [qO (n := b - f) (by omega) (by omega), qO (by omega) (by omega)]
 rw [e1, e2, qij, qg, qv]
 by_cases h5 : 1073741824 < a - p + f
 ·rw [if_neg (by omega), if_pos h5]
 rw [if_pos (by omega), if_neg h5, qij, qg, qv]
 by_cases h6 : 1073741824 < b - f + p
 ·rw [if_neg (by omega), if_pos h6]
 rw [if_pos (by omega), if_neg h6]
theorem swap_ok {a b : Int} (ha : 0 ≤ a ∧ a ≤ 1073741824) (hb : 0 ≤ b ∧ b ≤ 1073741824) (p f : Int) (h : (kZ a b p f).2.2 = 0) :
  (0 ≤ (kZ a b p f).1 ∧ (kZ a b p f).1 ≤ 1073741824) ∧ (0 ≤ (kZ a b p f).2.1 ∧ (kZ a b p f).2.1 ≤ 1073741824) := by
 unfold kZ at h ⊢
 by_cases h0 : p < 0
 ·rw [if_pos h0] at h
  dsimp only at h
  omega
 rw [if_neg h0] at h ⊢
 by_cases h1 : f < 0
 ·rw [if_pos h1] at h
  dsimp only at h
  omega
 rw [if_neg h1] at h ⊢
 by_cases h2 : a < p
 ·rw [if_pos h2] at h
  dsimp only at h
  omega
 rw [if_neg h2] at h ⊢
 by_cases h3 : b < f
 ·rw [if_pos h3] at h
  dsimp only at h
  omega
 rw [if_neg h3] at h ⊢
 by_cases h4 : 1073741824 < a - p + f
 ·rw [if_pos h4] at h
  dsimp only at h
  omega
 rw [if_neg h4] at h ⊢
 by_cases h5 : 1073741824 < b - f + p
 ·rw [if_pos h5] at h
  dsimp only at h
  omega
 rw [if_neg h5] at h ⊢
 dsimp only
 omega
def jk (w : World) (p : Int) (c : Cmd) : List Place := pkW (pkW w.where_ c.gives ⟨1, c.who⟩ c.gives.length) c.wants ⟨1, p⟩ c.wants.length
def jt (c : Cmd) : Int := (c.wants.length : Int) - (c.gives.length : Int)
def z0 (w : World) (p : Int) (c : Cmd) : Int × Int × Int := kZ (gi w.coins p) (gi w.coins c.who) c.pay c.fee
def qaq (w : World) (p : Int) (c : Cmd) : World :=
 ⟨w.desc, w.at_, lset (lset w.coins p (z0 w p c).1) c.who (z0 w p c).2.1, jk w p c⟩
open Classical in
noncomputable def zy (w : World) (p : Int) (c : Cmd) : World × Int :=
 if ¬ (0 ≤ c.who ∧ c.who < (w.at_.length : Int)) then (w, 3)
 else if ¬ ∀ x ∈ c.gives ++ c.wants, vx w x then (w, 3)
 else if c.who = p then (w, 12)
 else if ¬ gi w.at_ c.who = gi w.at_ p then (w, 5)
 else if ¬ (c.gives ++ c.wants).Nodup then (w, 13)
 else if ¬ ((∀ x ∈ c.gives, upW w.where_ x.toNat = ⟨1, p⟩) ∧ ∀ x ∈ c.wants, upW w.where_ x.toNat = ⟨1, c.who⟩) then (w, 5)
 else if jl w ⟨1, p⟩ < jt c ∨ jl w ⟨1, c.who⟩ < - jt c then (w, 9)
 else if ¬ (z0 w p c).2.2 = 0 then (w, (z0 w p c).2.2)
 else (qaq w p c, 0)
theorem pk_mv (ws : List Place) (t : Place) (l : List Int) : ∀ k, k ≤ l.length → pkW ws l t k = mvW ws ((l.take k).map Int.toNat) t
 | 0, _ => rfl
 | k + 1, h => by
   show (pkW ws l t k).set (gi l (k : Int)).toNat t = _
   rw [pk_mv ws t l k (by omega), List.take_add_one, List.getElem?_eq_getElem (by omega)]
   simp only [Option.toList_some, List.map_append, List.map_cons, List.map_nil]
   unfold mvW
   rw [List.foldl_append, zN (by omega)]
   rfl
theorem Kf (ws : List Place) (t : Place) (l : List Int) : pkW ws l t l.length = mvW ws (l.map Int.toNat) t := by
 rw [pk_mv ws t l l.length (Nat.le_refl _), List.take_of_length_le (Nat.le_refl _)]
theorem Ki {l : List Int} (h : l.Nodup) (hn : ∀ x ∈ l, 0 ≤ x) : (l.map Int.toNat).Nodup := by
 unfold List.Nodup at h ⊢
 rw [List.pairwise_map]
 refine h.imp_of_mem fun {a b} ha hb hab e => hab ?_
 have := hn a ha
 have := hn b hb
 omega
theorem J8 {w : World} {p : Int} {c : Cmd} (hin : ∀ x ∈ c.gives ++ c.wants, vx w x) (hne : ¬ c.who = p) (hnd : (c.gives ++ c.wants).Nodup)
  (hg : ∀ x ∈ c.gives, upW w.where_ x.toNat = ⟨1, p⟩) (hw : ∀ x ∈ c.wants, upW w.where_ x.toNat = ⟨1, c.who⟩) :
  (manyW (jk w p c) ⟨1, p⟩ : Int) = manyW w.where_ ⟨1, p⟩ + jt c ∧ (manyW (jk w p c) ⟨1, c.who⟩ : Int) = manyW w.where_ ⟨1, c.who⟩ - jt c ∧
  ∀ q, q ≠ ⟨1, p⟩ → q ≠ ⟨1, c.who⟩ → manyW (jk w p c) q = manyW w.where_ q := by
 rw [List.nodup_append] at hnd
 obtain ⟨n1, n2, n3⟩ := hnd
 have ne1 : (⟨1, p⟩ : Place) ≠ ⟨1, c.who⟩ := fun e => hne (by cases e; rfl)
 have i1 : ∀ i ∈ c.gives.map Int.toNat, i < w.where_.length ∧ upW w.where_ i = ⟨1, p⟩ := fun i hi => by
  obtain ⟨x, hx, rfl⟩ := List.mem_map.1 hi
  have := hin x (List.mem_append_left _ hx)
  exact ⟨by unfold vx at this; omega, hg x hx⟩
 have i2 : ∀ i ∈ c.wants.map Int.toNat, i < (mvW w.where_ (c.gives.map Int.toNat) ⟨1, c.who⟩).length ∧ upW (mvW w.where_ (c.gives.map Int.toNat) ⟨1, c.who⟩) i = ⟨1, c.who⟩ := fun i hi => by
  obtain ⟨x, hx, rfl⟩ := List.mem_map.1 hi
  have hx0 := hin x (List.mem_append_right _ hx)
  refine ⟨by rw [Mr]; unfold vx at hx0; omega, ?_⟩
  rw [Rh]
  ·exact hw x hx
  ·intro hm
   obtain ⟨y, hy, e⟩ := List.mem_map.1 hm
   have hy0 := hin y (List.mem_append_left _ hy)
   unfold vx at hx0 hy0
   exact n3 y hy x hx (by omega)
 have m1 := BA ⟨1, p⟩ ⟨1, c.who⟩ ne1 (c.gives.map Int.toNat) w.where_ (Ki n1 fun x hx => (hin x (List.mem_append_left _ hx)).1) i1
 have m2 := BA ⟨1, c.who⟩ ⟨1, p⟩ ne1.symm (c.wants.map Int.toNat) _ (Ki n2 fun x hx => (hin x (List.mem_append_right _ hx)).1) i2
 unfold jk jt
 rw [Kf, Kf]
 rw [List.length_map] at m1 m2
 obtain ⟨a1, a2, a3⟩ := m1
 obtain ⟨b1, b2, b3⟩ := m2
 refine ⟨by omega, by omega, fun q q1 q2 => ?_⟩
 rw [b3 q q2 q1, a3 q q1 q2]
theorem Mt {t : Place} : ∀ (l : List Nat) (ws : List Place) (q : Place), q ∈ mvW ws l t → q = t ∨ q ∈ ws
 | [], _, _, h => .inr h
 | i :: l, ws, q, h => by
   rw [Zl] at h
   rcases Mt l _ q h with e | e
   ·exact .inl e
   ·exact gW e
theorem MR {t : Place} (ht : t.kind ≠ 2) : ∀ (l : List Nat) (ws : List Place) (j d : Nat), (∀ i ∈ l, i < ws.length) → Dep ws (upW ws j) d → ∃ d', d' ≤ d ∧ Dep (mvW ws l t) (upW (mvW ws l t) j) d'
 | [], _, _, d, _, h => ⟨d, Nat.le_refl _, h⟩
 | i :: l, ws, j, d, hl, h => by
   rw [Zl]
   obtain ⟨d1, h1, h2⟩ := qbp (it := i) (hl i List.mem_cons_self) ht h
   obtain ⟨d2, h3, h4⟩ := MR ht l (ws.set i t) j d1 (fun k hk => by rw [List.length_set]; exact hl k (List.mem_cons_of_mem _ hk)) h2
   exact ⟨d2, by omega, h4⟩
theorem ZP (w : World) (p : Int) (c : Cmd) : (jk w p c).length = w.where_.length := by
 unfold jk
 rw [Q6, Q6]
theorem DH {w : World} (h : RightP w) {p : Int} (p0 : 0 ≤ p) (p1 : p < (w.at_.length : Int)) (c : Cmd) : RightP (zy w p c).1 := by
 unfold zy
 split
 ·exact h
 rename_i hq
 split
 ·exact h
 rename_i hin
 split
 ·exact h
 rename_i hne
 split
 ·exact h
 split
 ·exact h
 rename_i hnd
 split
 ·exact h
 rename_i hown
 split
 ·exact h
 rename_i hroom
 split
 ·exact h
 rename_i hswap
 have hq := Classical.not_not.1 hq
 have hin := Classical.not_not.1 hin
 have hnd := Classical.not_not.1 hnd
 have hown := Classical.not_not.1 hown
 have hswap := Classical.not_not.1 hswap
 obtain ⟨m1, m2, m3⟩ := J8 hin hne hnd hown.1 hown.2
 have hcl := h.coins_len
 have hal := h.at_len
 have hs := swap_ok (h.coins_ok _ (vp p0 (by omega))) (h.coins_ok _ (vp hq.1 (by omega))) c.pay c.fee hswap
 have hmem : ∀ q ∈ jk w p c, q = ⟨1, p⟩ ∨ q = ⟨1, c.who⟩ ∨ q ∈ w.where_ := fun q hq => by
  unfold jk at hq
  rw [Kf, Kf] at hq
  rcases Mt _ _ q hq with e | e
  ·exact .inl e
  ·exact .inr (Mt _ _ q e)
 exact {
  may := h.may
  at_len := h.at_len
  coins_len := by
   show (lset (lset w.coins p _) c.who _).length = _
   rw [show lset (lset w.coins p (z0 w p c).1) c.who (z0 w p c).2.1 = ((w.coins.set p.toNat (z0 w p c).1).set c.who.toNat (z0 w p c).2.1) from rfl, List.length_set, List.length_set]
   exact h.coins_len
  where_len := by
   show (jk w p c).length = _
   rw [ZP]
   exact h.where_len
  at_ok := h.at_ok
  coins_ok := fun x hx => by
   rcases gW hx with e | e
   ·rw [e]; exact hs.2
   ·rcases gW e with e | e
    ·rw [e]; exact hs.1
    ·exact h.coins_ok x e
  where_ok := fun q hq' => by
   rcases hmem q hq' with e | e | e
   ·rw [e]; exact ZA h p0 p1
   ·rw [e]; exact ZA h hq.1 hq.2
   ·exact h.where_ok q e
  deep := fun q hq' => by
   obtain ⟨j, hj, e⟩ := qgq hq'
   have hj' : j < w.where_.length := by rw [← ZP w p c]; exact hj
   obtain ⟨d, h1, h2⟩ := h.deep _ (ZO hj')
   obtain ⟨d1, h3, h4⟩ := MR (t := ⟨1, c.who⟩) (by decide : (1 : Int) ≠ 2) (c.gives.map Int.toNat) w.where_ j d (fun i hi => by
    obtain ⟨x, hx, rfl⟩ := List.mem_map.1 hi
    have := hin x (List.mem_append_left _ hx)
    unfold vx at this
    omega) h2
   obtain ⟨d2, h5, h6⟩ := MR (t := ⟨1, p⟩) (by decide : (1 : Int) ≠ 2) (c.wants.map Int.toNat) _ j d1 (fun i hi => by
    obtain ⟨x, hx, rfl⟩ := List.mem_map.1 hi
    have := hin x (List.mem_append_right _ hx)
    unfold vx at this
    rw [Mr]
    omega) h4
   refine ⟨d2, by omega, ?_⟩
   rw [← e]
   show Dep (jk w p c) (upW (jk w p c) j) d2
   unfold jk
   rw [Kf, Kf]
   exact h6
  many := fun q hq' => by
   have hroom := not_or.1 hroom
   unfold jl at hroom
   show ((manyW (jk w p c) q : Nat) : Int) ≤ capW w q.kind
   by_cases e1 : q = ⟨1, p⟩
   ·subst e1
    rw [m1]
    have := hroom.1
    omega
   ·by_cases e2 : q = ⟨1, c.who⟩
    ·subst e2
     rw [m2]
     have := hroom.2
     omega
    ·rw [m3 q e1 e2]
     rcases hmem q hq' with e | e | e
     ·exact absurd e e1
     ·exact absurd e e2
     ·exact h.many q e }
end Go.Sx
