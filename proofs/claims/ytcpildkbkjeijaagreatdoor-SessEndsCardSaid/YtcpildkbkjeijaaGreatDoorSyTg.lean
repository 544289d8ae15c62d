/-
  Sessions: the plain laws' ground.
-/
import Derived.Test.YtcpildkbkjeijaaGreatDoorSyTf
import Derived.Test.YtcpildkbkjeijaaGreatDoorSyQ
set_option linter.unusedVariables false
set_option linter.unusedSimpArgs false
namespace Go.Sx
open Go Go.Proofs
open Go.Lib (decDigits nDigits)
abbrev zeroR : Reply := ⟨0, 0, 0, [], [], 0⟩
def baseS (pl : Int) (ln : List Str) (nx ph : Int) : Sess := ⟨pl, ln, nx, ph, 0, zeroC, [], 0, [], zeroR, false, 0, 0, 0, [], [], 0⟩
def phS (ln : List Str) (nx : Int) : Int := if (ln.length : Int) ≤ nx then 12 else 0
theorem srests_eq (s : Sess) : srestsF s = some (baseS s.player s.lines s.next (phS s.lines s.next)) := by
  unfold srestsF phS
  by_cases h : (s.lines.length : Int) ≤ s.next
  · rw [cnd_t (b := ile (ilen s.lines) s.next) (decide_eq_true (by rw [ilen_eq]; exact h)), if_pos h]; rfl
  · rw [cnd_f (b := ile (ilen s.lines) s.next) (decide_eq_false (by rw [ilen_eq]; exact h)), if_neg h]; rfl
theorem snew_eq (c : Script) : snewF c = some (baseS c.player c.lines 0 (phS c.lines 0)) := by
  unfold snewF
  rw [srests_eq, obind_some]
theorem sclose_eq (s : Sess) (h0 : 0 ≤ s.next) (h : s.next ≤ 1000000) : scloseF s = some (baseS s.player s.lines (s.next + 1) (phS s.lines (s.next + 1))) := by
  have hw : wrap .i64 (iadd s.next 1) = s.next + 1 := wrap_in (n := s.next + 1) (by omega) (by omega)
  unfold scloseF
  rw [srests_eq, obind_some, hw]
def anewS (s : Sess) : Sess := ⟨s.player, s.lines, s.next, 1, 0, s.cmd, [], 0, [], zeroR, false, s.tries, 0, 0, [], [], 0⟩
theorem sanew_eq (s : Sess) : sanewF s = some (anewS s) := rfl
noncomputable def opS (s : Sess) (p : Cmd × Int) : Sess := if p.2 = 0 then { s with cmd := p.1, phase := if p.1.kind = 9 ∨ p.1.kind = 10 then 9 else 1 } else { s with cmd := p.1, phase := 8, reply := ⟨p.2, 0, 0, [], [], 0⟩ }
theorem sopen_eq (s : Sess) (w : Str) (h0 : 0 ≤ s.next) (h1 : s.lines[s.next.toNat]? = some w) (hw : w.length ≤ 1000000) : sopenF s = some (opS s (getL (wordsL w))) := by
  unfold sopenF
  rw [show lget s.lines s.next = some w from by unfold lget; rw [if_pos h0]; exact h1, obind_some, lget_eq w hw, obind_some]
  generalize getL (wordsL w) = p
  obtain ⟨c, e⟩ := p
  unfold opS
  by_cases he : e = 0
  · subst he
    rw [cnd_f (b := bnot (ieq _ 0)) rfl, if_pos rfl]
    by_cases h9 : c.kind = 9
    · rw [cnd_t (b := ieq c.kind 9) (decide_eq_true h9), if_pos (.inl h9)]
    · rw [cnd_f (b := ieq c.kind 9) (decide_eq_false h9)]
      by_cases h10 : c.kind = 10
      · rw [cnd_t (b := ieq c.kind 10) (decide_eq_true h10), if_pos (.inr h10)]
      · rw [cnd_f (b := ieq c.kind 10) (decide_eq_false h10), if_neg (by rintro (h | h); exact h9 h; exact h10 h)]
  · rw [cnd_t (b := bnot (ieq e 0)) (by simp [he]), if_neg he]
/-! Lists alike. -/
theorem tequal_self (a : List Str) (ha : a.length ≤ 1000000000) : tequalF a a = some true := by
  unfold tequalF
  rw [cnd_f (b := bnot (ieq (ilen a) (ilen a))) (by simp), iter_big (fun x => (x.1.1.length - x.1.2.2.2.1).toNat) (fun x => (0 : Int) ≤ x.1.2.2.2.1 ∧ x.1.1.length ≤ 1000000000 ∧ x.1.1 = x.1.2.1 ∧ x.1.2.2.1 = (x.1.1.length : Int))
      (fun x => some (.inr ((), ()))) ?_ ⟨Int.le_refl _, ha, rfl, ilen_eq _⟩ (by simp; omega)]
  · rfl
  · rintro ⟨⟨m, k, n, i, _⟩, _⟩ rec ⟨h0, h1, h2, h3⟩ hr
    simp only at h0 h1 h2 h3 ⊢
    subst h2
    subst h3
    unfold tequal.lr4.T
    by_cases hi : i < m.length
    · have hw : wrap .i64 (i + 1) = i + 1 := wrap_in (by omega) (by omega)
      have hn := hr ((m, m, (m.length : Int), i + 1, ()), ()) ⟨by show (0 : Int) ≤ i + 1; omega, h1, rfl, rfl⟩ (by simp; omega)
      simp only [lget_in h0 hi]
      simp [hi, hw, hn]
    · simp [hi]
theorem kequal_nil : kequalF [] [] = some true := by
  unfold kequalF
  rw [cnd_f (b := bnot (ieq (ilen _) (ilen _))) rfl, iter_big (fun x => 0) (fun x => x.1.2.2.1 = 0 ∧ x.1.2.2.2.1 = 0) (fun x => some (.inr ((), ()))) ?_ ⟨rfl, rfl⟩ (by decide)]
  · rfl
  · rintro ⟨⟨m, k, n, i, _⟩, _⟩ rec ⟨h0, h1⟩ hr
    simp only at h0 h1
    subst h0
    subst h1
    rfl
theorem wequal_nil : wequalF [] [] = some true := by
  unfold wequalF
  rw [cnd_f (b := bnot (ieq (ilen _) (ilen _))) rfl, iter_big (fun x => 0) (fun x => x.1.2.2.1 = 0 ∧ x.1.2.2.2.1 = 0) (fun x => some (.inr ((), ()))) ?_ ⟨rfl, rfl⟩ (by decide)]
  · rfl
  · rintro ⟨⟨m, k, n, i, _⟩, _⟩ rec ⟨h0, h1⟩ hr
    simp only at h0 h1
    subst h0
    subst h1
    rfl
theorem pequal_nil : pequalF [] [] = some true := by
  unfold pequalF
  rw [cnd_f (b := bnot (ieq (ilen _) (ilen _))) rfl, iter_big (fun x => 0) (fun x => x.1.2.2.1 = 0 ∧ x.1.2.2.2.1 = 0) (fun x => some (.inr ((), ()))) ?_ ⟨rfl, rfl⟩ (by decide)]
  · rfl
  · rintro ⟨⟨m, k, n, i, _⟩, _⟩ rec ⟨h0, h1⟩ hr
    simp only at h0 h1
    subst h0
    subst h1
    rfl
theorem eequal_nil : eequalF [] [] = some true := by
  unfold eequalF
  rw [cnd_f (b := bnot (ieq (ilen _) (ilen _))) rfl, iter_big (fun x => 0) (fun x => x.1.2.2.1 = 0 ∧ x.1.2.2.2.1 = 0) (fun x => some (.inr ((), ()))) ?_ ⟨rfl, rfl⟩ (by decide)]
  · rfl
  · rintro ⟨⟨m, k, n, i, _⟩, _⟩ rec ⟨h0, h1⟩ hr
    simp only at h0 h1
    subst h0
    subst h1
    rfl
theorem r5seens_nil : r5seensF [] [] = some true := by
  unfold r5seensF
  rw [cnd_f (b := bnot (ieq (ilen _) (ilen _))) rfl, iter_big (fun x => 0) (fun x => x.1.1 = [] ∧ x.1.2.2.1 = 0) (fun x => some (.inr ((), ()))) ?_ ⟨rfl, rfl⟩ (by decide)]
  · rfl
  · rintro ⟨⟨m, k, i, _⟩, _⟩ rec ⟨h0, h1⟩ hr
    simp only at h0 h1
    subst h0
    subst h1
    rfl
theorem ieq_self (a : Int) : ieq a a = true := decide_eq_true rfl
theorem r5same_nil (e k r c : Int) : r5sameF ⟨e, k, r, [], [], c⟩ ⟨e, k, r, [], [], c⟩ = some true := by
  unfold r5sameF
  simp only [ieq_self, cnd_tt, r3ints_eq [] [] (by simp), obind_some, decide_true, r5seens_nil]
theorem rsame_nil (e k r c : Int) : rsameF ⟨e, k, r, [], [], c⟩ ⟨e, k, r, [], [], c⟩ = some true := by
  unfold rsameF
  simp only [ieq_self, band, Bool.and_true, cnd_tt, iequal_eq [] [] (by simp), obind_some, decide_true, eequal_nil]
theorem r3same_refl (c : Cmd) (hg : c.gives.length ≤ 1000000000) (hw : c.wants.length ≤ 1000000000) : r3sameF c c = some true := by rw [r3same_eq c c hg hw, decide_eq_true rfl]
theorem csame_refl (c : Cmd) (hg : c.gives.length ≤ 1000000000) (hw : c.wants.length ≤ 1000000000) : csameF c c = some true := by rw [csame_eq c c hg hw, decide_eq_true rfl]
/-- A session that holds nothing is the same as itself. -/
theorem ssame_self (a : Sess) (hl : a.lines.length ≤ 1000000000) (hg : a.cmd.gives.length ≤ 1000000000) (hw : a.cmd.wants.length ≤ 1000000000) (hr : a.reply = zeroR) (hf : a.foot = []) (hp : a.plan = []) (hc : a.copies = []) (hh : a.heads = []) : ssameF a a = some true := by
  unfold ssameF
  have hcs := csame_refl a.cmd hg hw
  have hrs := rsame_nil 0 0 0 0
  simp only [ieq_self, band, Bool.and_true, cnd_tt]
  rw [cnd_t (b := beq' a.stale a.stale) (by simp), show csameF ⟨a.cmd.kind, a.cmd.dir, a.cmd.item, a.cmd.box, a.cmd.who, a.cmd.gives, a.cmd.pay, a.cmd.wants, a.cmd.fee⟩ ⟨a.cmd.kind, a.cmd.dir, a.cmd.item, a.cmd.box, a.cmd.who, a.cmd.gives, a.cmd.pay, a.cmd.wants, a.cmd.fee⟩ = some true from hcs, obind_some, cnd_tt, hr, hf, hp, hc, hh]
  rw [show rsameF ⟨zeroR.err, zeroR.kind, zeroR.room, zeroR.players, zeroR.items, zeroR.coins⟩ ⟨zeroR.err, zeroR.kind, zeroR.room, zeroR.players, zeroR.items, zeroR.coins⟩ = some true from hrs, obind_some, cnd_tt, tequal_self _ hl, obind_some, cnd_f (b := bnot true) rfl, kequal_nil, obind_some, cnd_f (b := bnot true) rfl, wequal_nil, obind_some, cnd_f (b := bnot true) rfl, pequal_nil, obind_some, cnd_f (b := bnot true) rfl, iequal_eq [] [] (by simp)]
  rfl
/-! Few lines. -/
def sl : List Str → Int
  | [] => 0
  | w :: r => (w.length : Int) + sl r
theorem sl_nonneg : ∀ l : List Str, 0 ≤ sl l
  | [] => Int.le_refl _
  | w :: r => by have := sl_nonneg r; unfold sl; omega
theorem sl_each : ∀ (l : List Str), ∀ w ∈ l, (w.length : Int) ≤ sl l
  | [], w, h => by simp at h
  | a :: r, w, h => by
    have h0 := sl_nonneg r
    unfold sl
    rcases List.mem_cons.1 h with rfl | h
    · omega
    · have := sl_each r w h; omega
theorem sl_le : ∀ (l : List Str), (∀ w ∈ l, w.length ≤ 140737488351232) → sl l ≤ 140737488351232 * (l.length : Int)
  | [], _ => by simp [sl]
  | a :: r, h => by
    have := sl_le r (fun w hw => h w (List.mem_cons_of_mem _ hw))
    have := h a (by simp)
    unfold sl
    simp only [List.length_cons]
    omega
/-- A session's fields, as loops have them. -/
abbrev sT (s : Sess) : (Int × (List Str × (Int × (Int × (Int × (Int × (Int × (Int × (Int × (Int × (List Int × (Int × (List Int × (Int × (List Key × (Int × (List Write × (Int × (Int × (Int × (List Int × (List Seen × (Int × (Bool × (Int × (Int × (Int × (List Place × (List Int × (Int × Unit)))))))))))))))))))))))))))))) :=
  (s.player, (s.lines, (s.next, (s.phase, (s.step, (s.cmd.kind, (s.cmd.dir, (s.cmd.item, (s.cmd.box, (s.cmd.who, (s.cmd.gives, (s.cmd.pay, (s.cmd.wants, (s.cmd.fee, (s.foot, (s.has, (s.plan, (s.reply.err, (s.reply.kind, (s.reply.room, (s.reply.players, (s.reply.items, (s.reply.coins, (s.stale, (s.tries, (s.ver, (s.room, (s.copies, (s.heads, (s.purse, ()))))))))))))))))))))))))))))))
theorem few_loop (s : Sess) (hs : ∀ w ∈ s.lines, w.length ≤ 140737488351232) : iter r19few.lr3.T bigL (((0, (0, ())), (sT s, ()))) = some ((sl (s.lines.take 100), ()), (sT s, ())) := by
  have hb : ∀ (j : Nat), sl ((s.lines.take 100).drop j) ≤ 14073748835123200 := fun j => by
    have h1 := sl_le ((s.lines.take 100).drop j) (fun w hw => hs w (List.mem_of_mem_take (List.mem_of_mem_drop hw)))
    have h2 : ((s.lines.take 100).drop j).length ≤ 100 := by rw [List.length_drop, List.length_take]; omega
    omega
  rw [iter_big (fun x => (100 - x.1.2.1 : Int).toNat) (fun x => x.2 = (sT s, ()) ∧ (0 : Int) ≤ x.1.2.1 ∧ (x.1.2.1 : Int) ≤ 100 ∧ (0 : Int) ≤ x.1.1 ∧ x.1.1 + sl ((s.lines.take 100).drop (x.1.2.1 : Int).toNat) ≤ 14073748835123200)
    (fun x => some ((x.1.1 + sl ((s.lines.take 100).drop (x.1.2.1 : Int).toNat), ()), x.2)) ?_ ⟨rfl, Int.le_refl _, by show (0 : Int) ≤ 100; decide, Int.le_refl _, by have := hb 0; simpa using this⟩ (by simp)]
  · simp
  · rintro ⟨⟨n, i, _⟩, y⟩ rec ⟨h0, h1, h2, h3, h4⟩ hr
    simp only at h0 h1 h2 h3 h4 ⊢
    subst h0
    unfold r19few.lr3.T
    by_cases hi : i < s.lines.length
    · by_cases hi' : i < 100
      · have hb' : i.toNat < (s.lines.take 100).length := by rw [List.length_take]; omega
        have hw : wrap .i64 (iadd i 1) = i + 1 := wrap_in (n := i + 1) (by omega) (by omega)
        rw [List.drop_eq_getElem_cons hb', List.getElem_take, show i.toNat + 1 = (i + 1).toNat by omega] at h4 ⊢
        unfold sl at h4 ⊢
        have hp := sl_nonneg ((s.lines.take 100).drop (i + 1).toNat)
        have hw2 : wrap .i64 (iadd n (ilen s.lines[i.toNat])) = n + (s.lines[i.toNat].length : Int) := by
          rw [ilen_eq]
          exact wrap_in (n := n + (s.lines[i.toNat].length : Int)) (by omega) (by omega)
        have hn := hr ((n + (s.lines[i.toNat].length : Int), i + 1, ()), (sT s, ())) ⟨rfl, by show (0 : Int) ≤ i + 1; omega, by show i + 1 ≤ (100 : Int); omega, by show (0 : Int) ≤ n + _; omega, by show n + (s.lines[i.toNat].length : Int) + sl ((s.lines.take 100).drop (i + 1).toNat) ≤ 14073748835123200; omega⟩ (by simp; omega)
        rw [cnd_t (b := ilt i (ilen s.lines)) (decide_eq_true (by rw [ilen_eq]; omega)), cnd_t (b := ilt i 100) (decide_eq_true hi'), lget_in h1 hi, obind_some, hw2, hw, hn]
        simp only [Int.add_assoc]
      · rw [cnd_t (b := ilt i (ilen s.lines)) (decide_eq_true (by rw [ilen_eq]; omega)), cnd_f (b := ilt i 100) (decide_eq_false hi'), List.drop_eq_nil_of_le (by rw [List.length_take]; omega)]
        simp [sl]
    · rw [cnd_f (b := ilt i (ilen s.lines)) (decide_eq_false (by rw [ilen_eq]; omega)), List.drop_eq_nil_of_le (by rw [List.length_take]; omega)]
      simp [sl]
def FewS (s : Sess) : Prop := s.lines.length ≤ 40 ∧ (∀ w ∈ s.lines, w.length ≤ 20000) ∧ s.cmd.gives.length ≤ 40 ∧ s.cmd.wants.length ≤ 40
theorem few_eq (s : Sess) (hs : ∀ w ∈ s.lines, w.length ≤ 140737488351232) : ∃ b, r19fewF s = some b ∧ (b = true → FewS s) := by
  unfold r19fewF
  rw [show iter r19few.lr3.T bigL _ = _ from few_loop s hs, obind_some]
  simp only
  by_cases h1 : s.lines.length ≤ 40
  · rw [cnd_t (b := ile (ilen s.lines) 40) (decide_eq_true (by rw [ilen_eq]; omega))]
    by_cases h2 : sl (s.lines.take 100) ≤ 20000
    · rw [cnd_t (b := ile _ 20000) (decide_eq_true h2)]
      unfold r3fewF
      simp only
      by_cases h3 : s.cmd.gives.length ≤ 40
      · by_cases h4 : s.cmd.wants.length ≤ 40
        · have hf : FewS s := by
            refine ⟨h1, fun w hw => ?_, h3, h4⟩
            rw [List.take_of_length_le (by omega)] at h2
            have := sl_each _ w hw
            omega
          rw [cnd_t (b := ile (ilen s.cmd.gives) 40) (decide_eq_true (by rw [ilen_eq]; omega)), obind_some, cnd_t (b := ile (ilen s.cmd.wants) 40) (decide_eq_true (by rw [ilen_eq]; omega))]
          unfold r5fewF
          simp only [cnd_and, obind_some]
          exact ⟨_, rfl, fun _ => hf⟩
        · rw [cnd_t (b := ile (ilen s.cmd.gives) 40) (decide_eq_true (by rw [ilen_eq]; omega)), obind_some, cnd_f (b := ile (ilen s.cmd.wants) 40) (decide_eq_false (by rw [ilen_eq]; omega))]
          exact ⟨false, rfl, fun h => by cases h⟩
      · rw [cnd_f (b := ile (ilen s.cmd.gives) 40) (decide_eq_false (by rw [ilen_eq]; omega)), obind_some]
        exact ⟨false, rfl, fun h => by cases h⟩
    · rw [cnd_f (b := ile _ 20000) (decide_eq_false h2)]
      exact ⟨false, rfl, fun h => by cases h⟩
  · rw [cnd_f (b := ile (ilen s.lines) 40) (decide_eq_false (by rw [ilen_eq]; omega))]
    exact ⟨false, rfl, fun h => by cases h⟩
/-! Awake. -/
abbrev wLook : Str := [108, 111, 111, 107]
abbrev wGet5 : Str := [103, 101, 116, 32, 53]
abbrev wX : Str := [120]
theorem get_look : getL (wordsL wLook) = (⟨9, 0, 0, 0, 0, [], 0, [], 0⟩, 0) := getL_of (s := _) (c := ⟨9, 0, 0, 0, 0, [], 0, [], 0⟩) (by decide) (by simp [MayC, FitH, RowH]) rfl
theorem itoa_5 : Lib.itoa 5 = [53] := (itoa_nat 5).trans dig_5
theorem get_get5 : getL (wordsL wGet5) = (⟨3, 0, 5, 0, 0, [], 0, [], 0⟩, 0) := getL_of (s := _) (c := ⟨3, 0, 5, 0, 0, [], 0, [], 0⟩) (by decide) (by simp [MayC, FitH, RowH, FitC]) (by
  show _ = [nameP 3, Lib.itoa 5]
  rw [itoa_5]
  rfl)
theorem get_x : getL (wordsL wX) = (zeroC, 2) := by
  rcases getL_or (wordsL wX) with h | ⟨c, hc, hw, _⟩
  · exact h
  · have h1 : nameP c.kind = wX := by
      have := congrArg List.head? hw
      have h2 : (wordsP c).head? = some (nameP c.kind) := rfl
      rw [h2] at this
      exact Option.some.inj this
    have hk := hc.1
    generalize c.kind = k at h1 hk
    obtain rfl | rfl | rfl | rfl | rfl | rfl | rfl | rfl | rfl | rfl := ten hk.1 hk.2 <;> revert h1 <;> decide
def aw0 : Sess := baseS 1 [wLook, wGet5, wX] 0 0
noncomputable def aw1 : Sess := opS aw0 (⟨9, 0, 0, 0, 0, [], 0, [], 0⟩, 0)
def aw2 : Sess := baseS 1 [wLook, wGet5, wX] 1 0
noncomputable def aw3 : Sess := opS aw2 (⟨3, 0, 5, 0, 0, [], 0, [], 0⟩, 0)
noncomputable def aw4 : Sess := anewS { aw3 with stale := true, tries := 2 }
def aw5 : Sess := baseS 1 [wLook, wGet5, wX] 2 0
noncomputable def aw6 : Sess := opS aw5 (zeroC, 2)
def aw7 : Sess := baseS 1 [wLook, wGet5, wX] 3 12
theorem wawake_ok : wawakeF = some true := by
  have a0 : snewF ⟨1, [wLook, wGet5, wX]⟩ = some aw0 := by rw [snew_eq]; rfl
  have a1 : sopenF aw0 = some aw1 := by rw [sopen_eq aw0 wLook (by decide) rfl (by decide), get_look]; rfl
  have a2 : scloseF aw1 = some aw2 := by rw [sclose_eq aw1 (by decide) (by decide)]; rfl
  have a3 : sopenF aw2 = some aw3 := by rw [sopen_eq aw2 wGet5 (by decide) rfl (by decide), get_get5]; rfl
  have a4 : sanewF { aw3 with stale := true, tries := 2 } = some aw4 := sanew_eq _
  have a5 : scloseF aw4 = some aw5 := by rw [sclose_eq aw4 (by decide) (by decide)]; rfl
  have a6 : sopenF aw5 = some aw6 := by rw [sopen_eq aw5 wX (by decide) rfl (by decide), get_x]; rfl
  have a7 : scloseF aw6 = some aw7 := by rw [sclose_eq aw6 (by decide) (by decide)]; rfl
  have a8 : snewF ⟨0, []⟩ = some (baseS 0 [] 0 12) := by rw [snew_eq]; rfl
  have s1 : ssameF aw0 aw0 = some true := ssame_self aw0 (by decide) (by decide) (by decide) rfl rfl rfl rfl rfl
  have s2 : ssameF aw0 aw1 = some false := rfl
  unfold wawakeF
  rw [a0, obind_some]
  rw [show sopenF _ = _ from a1, obind_some]
  rw [show scloseF _ = _ from a2, obind_some]
  rw [show sopenF _ = _ from a3, obind_some]
  rw [show sanewF _ = _ from a4, obind_some]
  rw [show scloseF _ = _ from a5, obind_some]
  rw [show sopenF _ = _ from a6, obind_some]
  rw [show scloseF _ = _ from a7, obind_some]
  rw [show snewF _ = _ from a8, show ssameF _ _ = _ from s1, show ssameF _ _ = _ from s2]
  rfl
end Go.Sx
