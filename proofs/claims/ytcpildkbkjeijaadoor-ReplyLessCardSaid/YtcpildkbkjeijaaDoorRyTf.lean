/-
  Answers: their texts, as reply.Put puts them.
-/
import Derived.Test.YtcpildkbkjeijaaDoorRyTe
set_option linter.unusedVariables false
set_option linter.unusedSimpArgs false
namespace Go.Sx
open Go Go.Proofs
open Go.Lib (decDigits nDigits)
abbrev ERR : Str := [101, 114, 114, 111, 114]
abbrev PLAY : Str := [112, 108, 97, 121, 101, 114, 115]
abbrev ITEMS : Str := [105, 116, 101, 109, 115]
abbrev placesL : List Str := [[105, 110], [119, 105, 116, 104], [98, 111, 120]]
def placeW (k : Int) : Str := placesL.getD k.toNat []
def itemW (s : Seen) : List Str := [Lib.itoa s.item, placeW s.at_.kind, Lib.itoa s.at_.id]
def itemsW (l : List Seen) : List Str := (l.map itemW).flatten
def wordsR (r : Reply) : List Str :=
  if r.err ≠ 0 then [ERR, Lib.itoa r.err]
  else if r.kind = 1 ∨ r.kind = 2 then [nameP r.kind, Lib.itoa r.room]
  else if r.kind = 9 then nameP r.kind :: Lib.itoa r.room :: PLAY :: (numsP r.players ++ ITEMS :: itemsW r.items)
  else if r.kind = 10 then nameP r.kind :: Lib.itoa r.coins :: ITEMS :: itemsW r.items
  else [nameP r.kind]
def textR (r : Reply) : Str := Lib.join (wordsR r) [32]
theorem words_err {r : Reply} (h : r.err ≠ 0) : wordsR r = [ERR, Lib.itoa r.err] := if_pos h
theorem words_12 {r : Reply} (h : r.err = 0) (k : r.kind = 1 ∨ r.kind = 2) : wordsR r = [nameP r.kind, Lib.itoa r.room] := by
  unfold wordsR; rw [if_neg (not_not_intro h), if_pos k]
theorem words_9 {r : Reply} (h : r.err = 0) (k : r.kind = 9) : wordsR r = nameP r.kind :: Lib.itoa r.room :: PLAY :: (numsP r.players ++ ITEMS :: itemsW r.items) := by
  unfold wordsR; rw [if_neg (not_not_intro h), if_neg (by omega), if_pos k]
theorem words_10 {r : Reply} (h : r.err = 0) (k : r.kind = 10) : wordsR r = nameP r.kind :: Lib.itoa r.coins :: ITEMS :: itemsW r.items := by
  unfold wordsR; rw [if_neg (not_not_intro h), if_neg (by omega), if_neg (by omega), if_pos k]
theorem words_38 {r : Reply} (h : r.err = 0) (k : ¬ (r.kind = 1 ∨ r.kind = 2) ∧ r.kind ≠ 9 ∧ r.kind ≠ 10) : wordsR r = [nameP r.kind] := by
  unfold wordsR; rw [if_neg (not_not_intro h), if_neg k.1, if_neg k.2.1, if_neg k.2.2]
theorem three {k : Int} (h : 0 ≤ k) (h' : k < 3) : k = 0 ∨ k = 1 ∨ k = 2 := by omega
theorem place_plain {k : Int} (h : 0 ≤ k) (h' : k < 3) : Plain (placeW k) ∧ (placeW k).length ≤ 18 := by
  obtain rfl | rfl | rfl := three h h' <;> exact ⟨by unfold Plain; decide, by decide⟩
theorem item_plain {s : Seen} (h : SeenOK s) : ∀ w ∈ itemW s, Plain w ∧ w.length ≤ 18 := by
  intro w hw
  simp only [itemW, List.mem_cons, List.not_mem_nil, or_false] at hw
  rcases hw with rfl | rfl | rfl
  · exact itoa_plain h.1
  · exact place_plain h.2.2.1 h.2.2.2
  · exact itoa_plain h.2.1
theorem items_plain {l : List Seen} (h : ∀ s ∈ l, SeenOK s) : ∀ w ∈ itemsW l, Plain w ∧ w.length ≤ 18 := by
  intro w hw
  obtain ⟨x, hx, hw⟩ := List.mem_flatten.1 hw
  obtain ⟨s, hs, rfl⟩ := List.mem_map.1 hx
  exact item_plain (h s hs) w hw
theorem items_cons (s : Seen) (l : List Seen) : itemsW (s :: l) = itemW s ++ itemsW l := rfl
theorem items_len (l : List Seen) : (itemsW l).length = 3 * l.length := by
  induction l with
  | nil => rfl
  | cons s l ih => rw [items_cons, List.length_append, ih, List.length_cons]; simp [itemW]; omega
theorem nums_len (l : List Int) : (numsP l).length = l.length := List.length_map _
theorem fit_err {r : Reply} (h : MayR r) : FitC r.err := by have := h.1; exact ⟨by omega, by omega⟩
theorem words_ok {r : Reply} (h : MayR r) : ∀ w ∈ wordsR r, Plain w ∧ w.length ≤ 18 := by
  intro w hw
  by_cases he : r.err = 0
  · obtain ⟨hk, hr, hc, hp, hi, hps, his, _⟩ := h.2.2 he
    have hn := name_plain hk
    by_cases k1 : r.kind = 1 ∨ r.kind = 2
    · rw [words_12 he k1] at hw
      simp only [List.mem_cons, List.not_mem_nil, or_false] at hw
      rcases hw with rfl | rfl
      · exact hn
      · exact itoa_plain hr
    · by_cases k9 : r.kind = 9
      · rw [words_9 he k9] at hw
        simp only [List.mem_cons, List.mem_append] at hw
        rcases hw with rfl | rfl | rfl | hm | rfl | hm
        · exact hn
        · exact itoa_plain hr
        · exact lit_plain (by decide)
        · exact nums_plain hps w hm
        · exact lit_plain (by decide)
        · exact items_plain his w hm
      · by_cases k10 : r.kind = 10
        · rw [words_10 he k10] at hw
          simp only [List.mem_cons] at hw
          rcases hw with rfl | rfl | rfl | hm
          · exact hn
          · exact itoa_plain hc
          · exact lit_plain (by decide)
          · exact items_plain his w hm
        · rw [words_38 he ⟨k1, k9, k10⟩] at hw
          simp only [List.mem_cons, List.not_mem_nil, or_false] at hw
          rw [hw]
          exact hn
  · rw [words_err he] at hw
    simp only [List.mem_cons, List.not_mem_nil, or_false] at hw
    rcases hw with rfl | rfl
    · exact lit_plain (by decide)
    · exact itoa_plain (fit_err h)
theorem words_cnt {r : Reply} (h : MayR r) : (wordsR r).length ≤ 70 := by
  by_cases he : r.err = 0
  · obtain ⟨hk, hr, hc, hp, hi, hps, his, _⟩ := h.2.2 he
    have l1 := nums_len r.players
    have l2 := items_len r.items
    unfold wordsR
    repeat' split
    all_goals simp [l1, l2]
    all_goals omega
  · rw [words_err he]; simp
theorem text_short {r : Reply} (h : MayR r) : (textR r).length ≤ 1330 := by
  have h1 := join_len 18 (wordsR r) (fun w hw => (words_ok h w hw).2)
  have h2 := words_cnt h
  have : (wordsR r).length * (18 + 1) ≤ 70 * 19 := Nat.mul_le_mul_right _ h2
  unfold textR
  omega
theorem words_text {r : Reply} (h : MayR r) : wordsL (textR r) = wordsR r := words_join _ fun w hw => (words_ok h w hw).1
theorem joinF_ok {r : Reply} (h : MayR r) : joinF (wordsR r) = some (textR r) := join_eq _ (by have := words_cnt h; omega) (by have := text_short h; unfold textR at this; omega)
theorem rput_loop (r : Reply) (o : List Str) (hl : r.players.length ≤ 16) (hf : ∀ n ∈ r.players, FitC n) (ho : o.length ≤ 100) :
    iter rput.lr13.T bigL ((r.players, (ilen r.players, (0, ()))), (tupR r, (o, ()))) = some ((), (tupR r, (o ++ numsP r.players, ()))) := by
  rw [iter_big (fun x => (x.1.1.length - x.1.2.2.1).toNat) (fun x => (0 : Int) ≤ x.1.2.2.1 ∧ (x.1.1.length ≤ 16 ∧ ∀ n ∈ x.1.1, FitC n) ∧ x.1.2.1 = (x.1.1.length : Int) ∧ (x.2.2.1.length : Int) ≤ 100 + x.1.2.2.1)
    (fun x => some ((), (x.2.1, (x.2.2.1 ++ numsP (x.1.1.drop (x.1.2.2.1 : Int).toNat), ())))) ?_ ⟨Int.le_refl _, ⟨hl, hf⟩, ilen_eq _, by show (o.length : Int) ≤ 100 + 0; omega⟩ (by simp; omega)]
  · simp
  · rintro ⟨⟨m, k, i, _⟩, ⟨a, b, c, d, e, f, _⟩, o, _⟩ rec ⟨h0, ⟨h1, h1'⟩, h2, h3⟩ hr
    simp only at h0 h1 h1' h2 h3 ⊢
    subst h2
    unfold rput.lr13.T
    by_cases hi : i < m.length
    · have hw : wrap .i64 (iadd i 1) = i + 1 := wrap_in (n := i + 1) (by omega) (by omega)
      have hb : i.toNat < m.length := by omega
      have hfit : FitC m[i.toNat] := h1' _ (List.getElem_mem _)
      have hn := hr ((m, (m.length : Int), i + 1, ()), ((a, (b, (c, (d, (e, (f, ())))))), (lapp o [Lib.itoa m[i.toNat]], ()))) ⟨by show (0 : Int) ≤ i + 1; omega, ⟨h1, h1'⟩, rfl, by show ((o ++ [_]).length : Int) ≤ 100 + (i + 1); rw [List.length_append]; simp; omega⟩ (by simp; omega)
      simp only [lget_in h0 hi, obind_some, word_fit hfit]
      rw [cnd_t (b := ilt i (m.length : Int)) (decide_eq_true hi), lt16_len (by omega), hw, hn, List.drop_eq_getElem_cons hb, show i.toNat + 1 = (i + 1).toNat by omega]
      simp [numsP]
    · rw [cnd_f (b := ilt i (m.length : Int)) (decide_eq_false hi), drop_end hi]
      simp [numsP]
theorem lget_place {k : Int} (h : 0 ≤ k) (h' : k < 3) : lget placesL k = some (placeW k) := by
  obtain rfl | rfl | rfl := three h h' <;> rfl
theorem ritems_eq (l : List Seen) (hl : l.length ≤ 16) (hf : ∀ s ∈ l, SeenOK s) : ritemsF l = some (ITEMS :: itemsW l) := by
  unfold ritemsF
  rw [iter_big (fun x => (x.1.1.length - x.1.2.2.1).toNat) (fun x => (0 : Int) ≤ x.1.2.2.1 ∧ (x.1.1.length ≤ 16 ∧ ∀ n ∈ x.1.1, SeenOK n) ∧ x.1.2.1 = (x.1.1.length : Int) ∧ (x.2.1.length : Int) ≤ 100 + 3 * x.1.2.2.1)
    (fun x => some ((), (x.2.1 ++ itemsW (x.1.1.drop (x.1.2.2.1 : Int).toNat), ()))) ?_ ⟨Int.le_refl _, ⟨hl, hf⟩, ilen_eq _, by simp⟩ (by simp; omega)]
  · simp
  · rintro ⟨⟨m, k, i, _⟩, o, _⟩ rec ⟨h0, ⟨h1, h1'⟩, h2, h3⟩ hr
    simp only at h0 h1 h1' h2 h3 ⊢
    subst h2
    unfold ritems.lr3.T
    by_cases hi : i < m.length
    · have hw : wrap .i64 (iadd i 1) = i + 1 := wrap_in (n := i + 1) (by omega) (by omega)
      have hb : i.toNat < m.length := by omega
      obtain ⟨q1, q2, q3, q4⟩ := h1' _ (List.getElem_mem hb)
      have hn := hr ((m, (m.length : Int), i + 1, ()), (lapp o (itemW m[i.toNat]), ())) ⟨by show (0 : Int) ≤ i + 1; omega, ⟨h1, h1'⟩, rfl, by show ((o ++ itemW _).length : Int) ≤ 100 + 3 * (i + 1); rw [List.length_append]; simp [itemW]; omega⟩ (by simp; omega)
      simp only [lget_in h0 hi, obind_some, word_fit q1, word_fit q2, lget_place q3 q4]
      rw [cnd_t (b := ilt i (m.length : Int)) (decide_eq_true hi), lt16_len (by omega), hw, show ([Lib.itoa m[i.toNat].item, placeW m[i.toNat].at_.kind, Lib.itoa m[i.toNat].at_.id] : List Str) = itemW m[i.toNat] from rfl, hn, List.drop_eq_getElem_cons hb, show i.toNat + 1 = (i + 1).toNat by omega, items_cons]
      simp
    · rw [cnd_f (b := ilt i (m.length : Int)) (decide_eq_false hi), drop_end hi]
      simp [itemsW]
theorem ieq_t {a b : Int} (h : a = b) : ieq a b = true := decide_eq_true h
theorem ieq_f {a b : Int} (h : ¬ a = b) : ieq a b = false := decide_eq_false h
theorem cat16 {α β : Type} {l r : List β} {A B : α} (h : (l.length : Int) + r.length ≤ 1000000000) : cnd (ilt (imul (iadd (ilen l) (ilen r)) 16) 140737488355329) A B = A := lt_ok16 (by
  rw [ilen_eq, ilen_eq]
  show ((l.length : Int) + r.length) * 16 < 1000000000000
  omega)
theorem cat16' {α β : Type} {r : List β} {A B : α} (h : (r.length : Int) ≤ 1000000000) : cnd (ilt (imul (iadd 2 (ilen r)) 16) 140737488355329) A B = A := lt_ok16 (by
  rw [ilen_eq]
  show ((2 : Int) + r.length) * 16 < 1000000000000
  omega)
theorem rput_eq (r : Reply) (hp : r.players.length ≤ 1000000000) (hi : r.items.length ≤ 1000000000) : rputF r = some (if mayR r = true then (textR r, 0) else ([], 2)) := by
  unfold rputF
  rw [show rmayF _ = _ from rmay_eq r hp hi, obind_some]
  by_cases hm : MayR r
  · rw [mayR_t hm, if_pos rfl, cnd_f (b := bnot true) rfl]
    have hj := joinF_ok hm
    by_cases he : r.err = 0
    · obtain ⟨hk, hr, hc, hp, hi, hps, his, _⟩ := hm.2.2 he
      rw [cnd_f (b := bnot (ieq r.err 0)) (by simp [he]), cname_eq]
      simp only [obind_some, word_fit hr, word_fit hc, ritems_eq _ hi his]
      by_cases k1 : r.kind = 1
      · rw [words_12 he (.inl k1)] at hj
        rw [cnd_t (ieq_t k1), cnd_t (ieq_t k1), hj]
        rfl
      rw [cnd_f (ieq_f k1)]
      by_cases k2 : r.kind = 2
      · rw [words_12 he (.inr k2)] at hj
        rw [cnd_t (ieq_t k2), hj]
        rfl
      rw [cnd_f (ieq_f k2)]
      by_cases k9 : r.kind = 9
      · rw [words_9 he k9] at hj
        have hlp := rput_loop r [nameP r.kind, Lib.itoa r.room, PLAY] hp hps (by simp)
        simp only [tupR] at hlp
        rw [cnd_t (ieq_t k9), hlp, obind_some]
        simp only
        rw [ritems_eq _ hi his, obind_some, cat16 (by simp [nums_len, items_len]; omega)]
        rw [show lapp ([nameP r.kind, Lib.itoa r.room, PLAY] ++ numsP r.players) (ITEMS :: itemsW r.items) = nameP r.kind :: Lib.itoa r.room :: PLAY :: (numsP r.players ++ ITEMS :: itemsW r.items) by simp, hj]
        rfl
      rw [cnd_f (ieq_f k9)]
      by_cases k10 : r.kind = 10
      · rw [words_10 he k10] at hj
        rw [cnd_t (ieq_t k10), cat16' (by simp [items_len]; omega)]
        rw [show lapp [nameP r.kind, Lib.itoa r.coins] (ITEMS :: itemsW r.items) = nameP r.kind :: Lib.itoa r.coins :: ITEMS :: itemsW r.items from rfl, hj]
        rfl
      rw [words_38 he ⟨by omega, k9, k10⟩] at hj
      rw [cnd_f (ieq_f k10), hj]
      rfl
    · rw [words_err he] at hj
      rw [cnd_t (b := bnot (ieq r.err 0)) (by simp [he]), word_fit (fit_err hm), obind_some, hj]
      rfl
  · rw [mayR_f hm]
    rfl
end Go.Sx
