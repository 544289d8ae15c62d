/-
  Answers: which may be, by reply.May.
-/
import Derived.Test.YtcpildkbkjeijaaDoorRyTd
set_option linter.unusedVariables false
set_option linter.unusedSimpArgs false
namespace Go.Sx
open Go Go.Proofs
open Go.Lib (decDigits nDigits)
noncomputable def bareR (r : Reply) : Reply :=
  if r.err ≠ 0 then errR r.err
  else if r.kind = 1 ∨ r.kind = 2 then ⟨0, r.kind, r.room, [], [], 0⟩
  else if r.kind = 9 then ⟨0, r.kind, r.room, r.players, r.items, 0⟩
  else if r.kind = 10 then ⟨0, r.kind, 0, [], r.items, r.coins⟩
  else ⟨0, r.kind, 0, [], [], 0⟩
theorem rbare_eq (r : Reply) : rbareF r = some (bareR r) := by
  unfold rbareF bareR
  simp only [cnd_it, bnot_d]
  by_cases h : r.err = 0
  · rw [if_neg (not_not_intro h), if_neg (not_not_intro h)]
    by_cases h1 : r.kind = 1
    · simp [h1]
    · by_cases h2 : r.kind = 2
      · simp [h2]
      · by_cases h9 : r.kind = 9
        · simp [h9]
        · by_cases h10 : r.kind = 10
          · simp [h10]
          · simp [h1, h2, h9, h10]
  · rw [if_pos h, if_pos h]
theorem bare_err {r : Reply} (h : r.err ≠ 0) : bareR r = errR r.err := by unfold bareR; rw [if_pos h]
theorem bare_ok {r : Reply} (h : r.err = 0) (hk : 1 ≤ r.kind ∧ r.kind ≤ 10) : r = bareR r ↔ ((r.kind = 1 ∨ r.kind = 2 ∨ r.kind = 9) ∨ r.room = 0) ∧ (r.kind = 9 ∨ r.players = []) ∧ (9 ≤ r.kind ∨ r.items = []) ∧ (r.kind = 10 ∨ r.coins = 0) := by
  obtain ⟨err, kind, room, players, items, coins⟩ := r
  simp only at h hk
  subst h
  unfold bareR
  obtain rfl | rfl | rfl | rfl | rfl | rfl | rfl | rfl | rfl | rfl := ten hk.1 hk.2 <;> simp <;> grind
theorem tail_eq (r : Reply) (hp : r.players.length ≤ 1000000000) (hi : r.items.length ≤ 1000000000) (g : Bool) (hg : g = true ↔ (∀ n ∈ r.players, FitC n) ∧ ∀ s ∈ r.items, SeenOK s) :
    cnd (ieq r.err 0) (obind (cnameF r.kind) (fun x_2 => cnd (seq x_2 (([] : List UInt8))) (some false) (cnd (ilt r.err 0) (some false) (cnd (ilt 13 r.err) (some false) (cnd g (obind (rbareF r) (fun x_3 => obind (rsameF r x_3) (fun x_4 => cnd x_4 (cnd (ile 0 r.room) (cnd (ile r.room 1073741824) (cnd (ile 0 r.coins) (cnd (ile r.coins 1073741824) (cnd (ile (ilen r.players) 16) (some (ile (ilen r.items) 16)) (some false)) (some false)) (some false)) (some false)) (some false)) (some false)))) (some false))))))
      (cnd (ilt r.err 0) (some false) (cnd (ilt 13 r.err) (some false) (cnd g (obind (rbareF r) (fun x_3 => obind (rsameF r x_3) (fun x_4 => cnd x_4 (cnd (ile 0 r.room) (cnd (ile r.room 1073741824) (cnd (ile 0 r.coins) (cnd (ile r.coins 1073741824) (cnd (ile (ilen r.players) 16) (some (ile (ilen r.items) 16)) (some false)) (some false)) (some false)) (some false)) (some false)) (some false)))) (some false)))) = some (mayR r) := by
  rw [rbare_eq, cname_eq]
  simp only [obind_some]
  rw [rsame_eq r _ hp hi]
  simp only [obind_some]
  by_cases h0 : r.err = 0
  · rw [cnd_t (b := ieq r.err 0) (decide_eq_true h0), cnd_f (b := ilt r.err 0) (decide_eq_false (by omega)), cnd_f (b := ilt 13 r.err) (decide_eq_false (by omega))]
    by_cases hk : 1 ≤ r.kind ∧ r.kind ≤ 10
    · have hb := bare_ok h0 hk
      rw [cnd_f (b := seq (nameP r.kind) []) (by
        obtain h | h | h | h | h | h | h | h | h | h := ten hk.1 hk.2 <;> rw [h] <;> rfl)]
      cases g with
      | false =>
        have hno : ¬ MayR r := fun m => by
          have := hg.2 ⟨(m.2.2 h0).2.2.2.2.2.1, (m.2.2 h0).2.2.2.2.2.2.1⟩
          cases this
        rw [mayR_f hno]
        rfl
      | true =>
        obtain ⟨g1, g2⟩ := hg.1 rfl
        have key : mayR r = decide (r = bareR r ∧ FitC r.room ∧ FitC r.coins ∧ r.players.length ≤ 16 ∧ r.items.length ≤ 16) := by
          rw [Bool.eq_iff_iff, mayR_iff, decide_eq_true_iff, hb]
          constructor
          · intro m
            obtain ⟨a, b, c, d, e, f, g, h⟩ := m.2.2 h0
            exact ⟨h, b, c, d, e⟩
          · rintro ⟨h, b, c, d, e⟩
            exact ⟨by omega, fun z => absurd h0 z, fun _ => ⟨hk, b, c, d, e, g1, g2, h⟩⟩
        rw [key, cnd_t rfl]
        have e1 : (ilen r.players ≤ 16) = (r.players.length ≤ 16) := propext ⟨fun h => by rw [ilen_eq] at h; omega, fun h => by rw [ilen_eq]; omega⟩
        have e2 : (ilen r.items ≤ 16) = (r.items.length ≤ 16) := propext ⟨fun h => by rw [ilen_eq] at h; omega, fun h => by rw [ilen_eq]; omega⟩
        have : ∀ p q r s t u : Bool, cnd p (cnd q (cnd r (cnd s (cnd t (some u) (some false)) (some false)) (some false)) (some false)) (some false) = some (p && (q && (r && (s && (t && u))))) := by
          intro p q r s t u
          cases p <;> cases q <;> cases r <;> cases s <;> cases t <;> rfl
        rw [this]
        by_cases hX : r = bareR r
        · rw [cnd_t (decide_eq_true hX)]
          congr 1
          rw [Bool.eq_iff_iff, decide_eq_true_iff]
          simp only [Bool.and_eq_true, ile, decide_eq_true_eq, e1, e2, FitC]
          exact ⟨fun ⟨a, b, c, d, e, f⟩ => ⟨hX, ⟨a, b⟩, ⟨c, d⟩, e, f⟩, fun ⟨_, ⟨a, b⟩, ⟨c, d⟩, e, f⟩ => ⟨a, b, c, d, e, f⟩⟩
        · rw [cnd_f (decide_eq_false hX), decide_eq_false fun h => hX h.1]
    · rw [name_no hk, cnd_t (b := seq [] []) rfl, mayR_f fun m => hk (m.2.2 h0).1]
  · rw [cnd_f (b := ieq r.err 0) (decide_eq_false h0)]
    by_cases h1 : r.err < 0
    · rw [cnd_t (b := ilt r.err 0) (decide_eq_true h1), may_out (.inl h1)]
    rw [cnd_f (b := ilt r.err 0) (decide_eq_false h1)]
    by_cases h2 : 13 < r.err
    · rw [cnd_t (b := ilt 13 r.err) (decide_eq_true h2), may_out (.inr h2)]
    rw [cnd_f (b := ilt 13 r.err) (decide_eq_false h2), bare_err h0, may_err (by omega)]
    by_cases he : r = errR r.err
    · have hgt : g = true := hg.2 (by rw [he]; exact ⟨fun n h => by simp at h, fun n h => by simp at h⟩)
      rw [hgt, cnd_t rfl, cnd_t (decide_eq_true he), decide_eq_true he, he]
      rfl
    · rw [cnd_f (b := decide (r = errR r.err)) (decide_eq_false he), cnd_same, decide_eq_false he]
theorem rmay_eq (r : Reply) (hp : r.players.length ≤ 1000000000) (hi : r.items.length ≤ 1000000000) : rmayF r = some (mayR r) := by
  unfold rmayF
  have hpl := rmay_players r hp
  have hit := fun g => rmay_items g r hi
  simp only [tupR] at hpl hit
  rw [hpl]
  cases hf : fb r.players 0 with
  | some k =>
    have h0 := fb_ge _ _ _ hf
    simp only [obind_some, scase, hit]
    refine tail_eq r hp hi _ ?_
    rw [okL_t]
    simp only [bnot, ile, decide_eq_true h0]
    exact ⟨fun h => absurd h.1 (by simp), fun h => by rw [(fb_all _ _).2 h.1] at hf; cases hf⟩
  | none =>
    simp only [obind_some, scase, hit]
    refine tail_eq r hp hi _ ?_
    rw [okL_t]
    exact ⟨fun h => ⟨(fb_all _ _).1 hf, h.2⟩, fun h => ⟨rfl, h.2⟩⟩
end Go.Sx
