/-
  Answers: a text that is put is read as it was, by both readings.
-/
import Derived.Test.YtcpildkbkjeijaaDoorRyTk
set_option linter.unusedVariables false
set_option linter.unusedSimpArgs false
namespace Go.Sx
open Go Go.Proofs
open Go.Lib (decDigits nDigits)
theorem itoa_ne {n : Int} (h : FitC n) {w : Str} {c : UInt8} (hc : c ∈ w) (h9 : 57 < c.toNat) : Lib.itoa n ≠ w := fun e => by
  obtain ⟨h0, h1⟩ := h
  obtain ⟨u, rfl⟩ := Int.eq_ofNat_of_zero_le h0
  rw [itoa_nat] at e
  rw [← e] at hc
  have := (dig_mem u c hc).2
  omega
theorem itoa_items {n : Int} (h : FitC n) : Lib.itoa n ≠ ITEMS := itoa_ne h (c := 105) (by simp) (by decide)
theorem kind_nm {k : Int} (h : 1 ≤ k ∧ k ≤ 10) : kindP (nameP k) = (k, true) := by
  obtain rfl | rfl | rfl | rfl | rfl | rfl | rfl | rfl | rfl | rfl := ten h.1 h.2 <;> rfl
theorem name_err {k : Int} (h : 1 ≤ k ∧ k ≤ 10) : nameP k ≠ ERR := by
  obtain rfl | rfl | rfl | rfl | rfl | rfl | rfl | rfl | rfl | rfl := ten h.1 h.2 <;> decide
theorem nm_itoa {n : Int} (h : FitC n) : nmW (Lib.itoa n) = n := by unfold nmW; rw [numL_itoa h]
theorem tk_nums : ∀ (g : List Int) (r : List Str), (∀ n ∈ g, FitC n) → tkW (numsP g ++ ITEMS :: r) = numsP g
  | [], r, _ => tk_t r
  | n :: g, r, h => by
    show tkW (Lib.itoa n :: (numsP g ++ ITEMS :: r)) = Lib.itoa n :: numsP g
    rw [tk_f (itoa_items (h n (by simp))), tk_nums g r fun m hm => h m (List.mem_cons_of_mem _ hm)]
theorem nums_nm : ∀ (g : List Int), (∀ n ∈ g, FitC n) → (numsP g).map nmW = g
  | [], _ => rfl
  | n :: g, h => by
    show nmW (Lib.itoa n) :: (numsP g).map nmW = n :: g
    rw [nm_itoa (h n (by simp)), nums_nm g fun m hm => h m (List.mem_cons_of_mem _ hm)]
theorem kd_place {k : Int} (h : 0 ≤ k) (h' : k < 3) : kdW (placeW k) = k := by
  obtain rfl | rfl | rfl := three h h' <;> decide
theorem ix_place {k : Int} (h : 0 ≤ k) (h' : k < 3) : ixW (placeW k) = k := by
  obtain rfl | rfl | rfl := three h h' <;> decide
theorem it5_items : ∀ (l : List Seen), (∀ s ∈ l, SeenOK s) → it5 (itemsW l) = l
  | [], _ => it5_nil
  | s :: l, h => by
    obtain ⟨q1, q2, q3, q4⟩ := h s (by simp)
    show it5 (Lib.itoa s.item :: placeW s.at_.kind :: Lib.itoa s.at_.id :: itemsW l) = s :: l
    rw [it5_cons]
    show (⟨nmW (Lib.itoa s.item), ⟨kdW (placeW s.at_.kind), nmW (Lib.itoa s.at_.id)⟩⟩ : Seen) :: it5 (itemsW l) = s :: l
    rw [nm_itoa q1, nm_itoa q2, kd_place q3 q4, it5_items l fun m hm => h m (List.mem_cons_of_mem _ hm)]
theorem pl_nums : ∀ (g : List Int) (r : List Str), (∀ n ∈ g, FitC n) → plR (numsP g ++ ITEMS :: r) false = (ITEMS :: r, (false, g))
  | [], r, _ => pl_end r
  | n :: g, r, h => by
    show plR (Lib.itoa n :: (numsP g ++ ITEMS :: r)) false = _
    rw [pl_go (itoa_items (h n (by simp))), numL_itoa (h n (by simp)), Bool.not_true, pl_nums g r fun m hm => h m (List.mem_cons_of_mem _ hm)]
theorem il_items : ∀ (l : List Seen), (∀ s ∈ l, SeenOK s) → ilR (itemsW l) false = ([], (false, l))
  | [], _ => rfl
  | s :: l, h => by
    obtain ⟨q1, q2, q3, q4⟩ := h s (by simp)
    show ilR (Lib.itoa s.item :: placeW s.at_.kind :: Lib.itoa s.at_.id :: itemsW l) false = _
    rw [ilR, numL_itoa q1, numL_itoa q2, ix_place q3 q4]
    simp only [Bool.not_true, Bool.or_false, cond_false, il_items l fun m hm => h m (List.mem_cons_of_mem _ hm)]
theorem cand_words {r : Reply} (h : MayR r) : candR (wordsR r) = r := by
  by_cases he : r.err = 0
  · obtain ⟨hk, hr, hc, hp, hi, hps, his, z1, z2, z3, z4⟩ := h.2.2 he
    have hn := name_err hk
    have hkd := kind_nm hk
    by_cases k1 : r.kind = 1 ∨ r.kind = 2
    · rw [words_12 he k1]
      simp only [candR, if_neg hn, hkd, if_pos k1, hdN, nm_itoa hr]
      rw [reply_eq]
      have e2 : r.players = [] := z2.resolve_left (by omega)
      have e3 : r.items = [] := z3.resolve_left (by omega)
      have e4 : r.coins = 0 := z4.resolve_left (by omega)
      exact ⟨he.symm, rfl, rfl, e4.symm, e2.symm, e3.symm⟩
    by_cases k9 : r.kind = 9
    · rw [words_9 he k9]
      simp only [candR, if_neg hn, hkd, if_neg k1, if_pos k9, hdN, nm_itoa hr, List.drop_succ_cons, List.drop_zero, tk_nums _ _ hps, nums_nm _ hps]
      rw [reply_eq]
      have e4 : r.coins = 0 := z4.resolve_left (by omega)
      refine ⟨he.symm, k9.symm, rfl, e4.symm, rfl, ?_⟩
      show it5 ((numsP r.players ++ ITEMS :: itemsW r.items).drop ((numsP r.players).length + 1)) = r.items
      rw [List.drop_append, List.drop_eq_nil_of_le (by omega), show (numsP r.players).length + 1 - (numsP r.players).length = 1 by omega]
      exact it5_items _ his
    by_cases k10 : r.kind = 10
    · rw [words_10 he k10]
      simp only [candR, if_neg hn, hkd, if_neg k1, if_neg k9, if_pos k10, hdN, nm_itoa hc, List.drop_succ_cons, List.drop_zero]
      rw [reply_eq]
      have e1 : r.room = 0 := z1.resolve_left (by omega)
      have e2 : r.players = [] := z2.resolve_left (by omega)
      exact ⟨he.symm, k10.symm, e1.symm, rfl, e2.symm, it5_items _ his⟩
    rw [words_38 he ⟨k1, k9, k10⟩]
    simp only [candR, if_neg hn, hkd, if_neg k1, if_neg k9, if_neg k10]
    rw [reply_eq]
    have e1 : r.room = 0 := z1.resolve_left (by omega)
    have e2 : r.players = [] := z2.resolve_left (by omega)
    have e3 : r.items = [] := z3.resolve_left (by omega)
    have e4 : r.coins = 0 := z4.resolve_left (by omega)
    exact ⟨he.symm, rfl, e1.symm, e4.symm, e2.symm, e3.symm⟩
  · rw [words_err he]
    simp only [candR, if_true, hdN, nm_itoa (fit_err h)]
    exact (h.2.1 he).symm
theorem text_6 {r : Reply} (h : MayR r) : (textR r).length ≤ 1000000 := by have := text_short h; omega
theorem r5get_text {r : Reply} (h : MayR r) : r5getF (textR r) = some (r, 0) := by
  rw [r5get_eq _ (text_6 h), words_text h, cand_words h, fin_yes h rfl]
theorem nx_c {α : Type} (w : Str) (r : List Str) (B : Str → Option α) (A' : Option α) : cnd (ieq (ilen (w :: r)) 0) A' (obind (lget (w :: r) 0) (fun u => cnd (ile 1 (ilen (w :: r))) (B u) none)) = B w := by
  rw [cnd_f (ieq0c w r), lget0, obind_some, cnd_t (ile1c w r)]
theorem num_fit {n : Int} (h : FitC n) : numberF (Lib.itoa n) = some (n, true) := by
  rw [number_spec _ (by have := (itoa_plain h).2; omega), numL_itoa h]
theorem lf_ok {s : Str} {r : Reply} (h : MayR r) (e : textR r = s) (hp : r.players.length ≤ 1000000000) (hi : r.items.length ≤ 1000000000) :
    obind (rputF r) (fun x => cnd false (some (zeroR, (2 : Int))) (cnd (bnot (ieq x.2 0)) (some (zeroR, 2)) (cnd (bnot (seq x.1 s)) (some (zeroR, 2)) (some (r, 0))))) = some (r, 0) := by
  rw [leafR s r false hp hi, if_neg (by simp), fin_yes h e]
theorem rget_text {r : Reply} (h : MayR r) : rgetF (textR r) = some (r, 0) := by
  have hw : ∀ w ∈ wordsR r, w.length ≤ 1000000 := fun w hw => by have := (words_ok h w hw).2; omega
  have hwl := words_cnt h
  unfold rgetF
  rw [cut_eq _ (by have := text_6 h; omega), words_text h, obind_some]
  by_cases he : r.err = 0
  · obtain ⟨hk, hr, hc, hp, hi, hps, his, z1, z2, z3, z4⟩ := h.2.2 he
    have hn := name_err hk
    have hkd := kind_nm hk
    by_cases k1 : r.kind = 1 ∨ r.kind = 2
    · rw [words_12 he k1]
      have e2 : r.players = [] := z2.resolve_left (by omega)
      have e3 : r.items = [] := z3.resolve_left (by omega)
      have e4 : r.coins = 0 := z4.resolve_left (by omega)
      have er : (⟨0, r.kind, r.room, [], [], 0⟩ : Reply) = r := by rw [reply_eq]; exact ⟨he.symm, rfl, rfl, e4.symm, e2.symm, e3.symm⟩
      have hm := h
      rw [← er] at hm
      have ht : textR ⟨0, r.kind, r.room, [], [], 0⟩ = textR r := by rw [er]
      rw [nx_c, cnd_f (decide_eq_false hn), ckind_eq, hkd, obind_some]
      simp only [ldrop1]
      have fin := lf_ok hm ht (by simp) (by simp)
      rcases k1 with k1 | k1
      · rw [cnd_t (ieq_t k1), cnd_t (ieq_t k1), nx_c, num_fit hr, obind_some]
        exact fin.trans (by rw [er])
      · rw [cnd_f (ieq_f (b := 1) (by omega)), cnd_t (ieq_t k1)]
        try rw [cnd_f (ieq_f (b := 1) (by omega))]
        try rw [cnd_t (ieq_t k1)]
        rw [nx_c, num_fit hr, obind_some]
        exact fin.trans (by rw [er])
    by_cases k9 : r.kind = 9
    · rw [words_9 he k9] at hw hwl ⊢
      have e4 : r.coins = 0 := z4.resolve_left (by omega)
      have er : (⟨0, r.kind, r.room, r.players, r.items, 0⟩ : Reply) = r := by rw [reply_eq]; exact ⟨he.symm, rfl, rfl, e4.symm, rfl, rfl⟩
      have hm := h
      rw [← er] at hm
      have ht : textR ⟨0, r.kind, r.room, r.players, r.items, 0⟩ = textR r := by rw [er]
      have fin := lf_ok hm ht (by simp only; omega) (by simp only; omega)
      rw [nx_c, cnd_f (decide_eq_false hn), ckind_eq, hkd, obind_some]
      simp only [ldrop1]
      rw [cnd_f (ieq_f (b := 1) (by omega)), cnd_f (ieq_f (b := 2) (by omega)), cnd_t (ieq_t k9), nx_c, num_fit hr, obind_some, cnd_f (b := bnot true) rfl, nx_c]
      simp only [seq, decide_true, bnot, Bool.not_true]
      rw [gr_loop1 _ _ _ _ _ [] (fun w hx => hw w (List.mem_cons_of_mem _ (List.mem_cons_of_mem _ (List.mem_cons_of_mem _ hx)))) (by simp at hwl ⊢; omega), obind_some, pl_nums _ _ hps]
      simp only [List.nil_append]
      rw [cnd_ff, nx_c]
      simp only [ldrop1, decide_true, Bool.not_true]
      rw [gr_loop2 _ _ _ _ _ _ [] (fun w hx => hw w (List.mem_cons_of_mem _ (List.mem_cons_of_mem _ (List.mem_cons_of_mem _ (List.mem_append_right _ (List.mem_cons_of_mem _ hx)))))) (by simp at hwl ⊢; omega), obind_some, il_items _ his]
      simp only [List.nil_append]
      exact fin.trans (by rw [er])
    by_cases k10 : r.kind = 10
    · rw [words_10 he k10] at hw hwl ⊢
      have e1 : r.room = 0 := z1.resolve_left (by omega)
      have e2 : r.players = [] := z2.resolve_left (by omega)
      have er : (⟨0, r.kind, 0, [], r.items, r.coins⟩ : Reply) = r := by rw [reply_eq]; exact ⟨he.symm, rfl, e1.symm, rfl, e2.symm, rfl⟩
      have hm := h
      rw [← er] at hm
      have ht : textR ⟨0, r.kind, 0, [], r.items, r.coins⟩ = textR r := by rw [er]
      have fin := lf_ok hm ht (by simp) (by simp only; omega)
      rw [nx_c, cnd_f (decide_eq_false hn), ckind_eq, hkd, obind_some]
      simp only [ldrop1]
      rw [cnd_f (ieq_f (b := 1) (by omega)), cnd_f (ieq_f (b := 2) (by omega)), cnd_f (ieq_f k9), cnd_t (ieq_t k10), nx_c, num_fit hc, obind_some, cnd_f (b := bnot true) rfl, nx_c]
      simp only [seq, decide_true, bnot, Bool.not_true]
      rw [gr_loop3 _ _ _ _ _ [] (fun w hx => hw w (List.mem_cons_of_mem _ (List.mem_cons_of_mem _ (List.mem_cons_of_mem _ hx)))) (by simp at hwl ⊢; omega), obind_some, il_items _ his]
      simp only [List.nil_append]
      exact fin.trans (by rw [er])
    rw [words_38 he ⟨k1, k9, k10⟩]
    have e1 : r.room = 0 := z1.resolve_left (by omega)
    have e2 : r.players = [] := z2.resolve_left (by omega)
    have e3 : r.items = [] := z3.resolve_left (by omega)
    have e4 : r.coins = 0 := z4.resolve_left (by omega)
    have er : (⟨0, r.kind, 0, [], [], 0⟩ : Reply) = r := by rw [reply_eq]; exact ⟨he.symm, rfl, e1.symm, e4.symm, e2.symm, e3.symm⟩
    have hm := h
    rw [← er] at hm
    have ht : textR ⟨0, r.kind, 0, [], [], 0⟩ = textR r := by rw [er]
    rw [nx_c, cnd_f (decide_eq_false hn), ckind_eq, hkd, obind_some]
    simp only
    rw [cnd_f (ieq_f (b := 1) (by omega)), cnd_f (ieq_f (b := 2) (by omega)), cnd_f (ieq_f k9), cnd_f (ieq_f k10)]
    have fin := lf_ok hm ht (by simp) (by simp)
    exact fin.trans (by rw [er])
  · rw [words_err he]
    have er := (h.2.1 he).symm
    have hm := h
    rw [← er] at hm
    have ht : textR (errR r.err) = textR r := by rw [er]
    rw [nx_c, cnd_t (decide_eq_true rfl)]
    simp only [ldrop1]
    rw [nx_c, num_fit (fit_err h), obind_some]
    have fin := lf_ok hm ht (by simp) (by simp)
    exact fin.trans (by rw [er])
theorem text_inj {a b : Reply} (ha : MayR a) (hb : MayR b) (e : textR a = textR b) : a = b := by
  have h1 := rget_text ha
  rw [e, rget_text hb] at h1
  have := Option.some.inj h1
  exact (congrArg Prod.fst this).symm
theorem rget_or (s : Str) (hs : s.length ≤ 1000000) : rgetF s = some (zeroR, 2) ∨ ∃ r, MayR r ∧ textR r = s ∧ rgetF s = some (r, 0) := by
  obtain ⟨r, b, e⟩ := rget_shape s hs
  cases b with
  | true => exact .inl e
  | false =>
    rw [if_neg (by simp)] at e
    rcases fin_or s r with h | ⟨h1, h2, h3⟩
    · exact .inl (e.trans (by rw [h]))
    · exact .inr ⟨r, h1, h2, e.trans (by rw [h3])⟩
theorem gets_same (s : Str) (hs : s.length ≤ 1000000) : r5getF s = rgetF s := by
  rcases rget_or s hs with h | ⟨r, h1, h2, h3⟩
  · rw [h, r5get_eq s hs]
    rcases fin_or s (candR (wordsL s)) with h' | ⟨m, t, h'⟩
    · rw [h']
    · have := rget_text m
      rw [t, h] at this
      exact absurd (congrArg Prod.snd (Option.some.inj this)) (by simp)
  · rw [h3, ← h2, r5get_text h1]
end Go.Sx
