/-
  Worlds: what is in what (plain).
-/
import Derived.Test.YtcpabdpbldmmmaaGreatDoorLyTg
import Derived.Test.YtcpabdpbldmmmaaGreatDoorLyD
set_option linter.unusedVariables false
set_option linter.unusedSimpArgs false
namespace Go.Sx
open Go Go.Proofs
theorem YY (w : World) : ∀ (n : Nat) (i : Int), Q7 n w i = (pathF n w.where_ i).bind fun l => l.getLast?
 | 0, _ => rfl
 | n + 1, i => by
   show Dp (Q7 n) w i = _
   unfold Dp pathF
   cases hl : lget w.where_ i with
   | none => rfl
   | some p =>
     rw [qg]
     simp only [Option.bind_some]
     by_cases hk : p.kind = 2
     ·rw [qy, if_pos hk, if_pos hk, YY w n p.id]
      cases hp : pathF n w.where_ p.id with
      | none => rfl
      | some l =>
        cases l with
        | nil =>
          obtain ⟨⟨_, _, h⟩, _⟩ := Jl hp
          exact h.elim
        | cons a r =>
          simp [List.getLast?_cons_cons]
     ·rw [qy, if_neg hk, if_neg hk]
      rfl
theorem Vp (w : World) (i : Int) : K2 w i = vS w i := YY w 100 i
theorem Nt {ws : List Place} (h : ∀ q ∈ ws, WFp ws q) : ∀ (d : Nat) (i : Int) (n : Nat), 0 ≤ i → i < (ws.length : Int) → Dep ws (upW ws i.toNat) d → d < n → ∃ l, pathF n ws i = some l ∧ l.length = d + 1
 | d, i, 0, _, _, _, hn => by omega
 | 0, i, n + 1, h0, h1, hd, _ => by
   have hl : lget ws i = some (upW ws i.toNat) := by rw [jh h0 h1, zO (show i.toNat < ws.length by omega)]
   unfold pathF
   rw [hl]
   simp only [Option.bind_some]
   cases hd with
   | base _ hk => rw [if_neg hk]; exact ⟨_, rfl, rfl⟩
 | d + 1, i, n + 1, h0, h1, hd, hn => by
   have hl : lget ws i = some (upW ws i.toNat) := by rw [jh h0 h1, zO (show i.toNat < ws.length by omega)]
   unfold pathF
   rw [hl]
   simp only [Option.bind_some]
   cases hd with
   | step _ hk _ t =>
     rw [if_pos hk]
     obtain ⟨g0, g1⟩ := wf_up h i.toNat hk
     obtain ⟨l, e1, e2⟩ := Nt h d _ n g0 g1 t (by omega)
     exact ⟨_, by rw [e1]; rfl, by simp [e2]⟩
theorem Vk (w : World) (b : Int) : ∀ (n : Nat) (i : Int) (l : List Place), pathF n w.where_ i = some l → z9 n w i b = some (decide (i = b) || l.any fun p => decide (p = ⟨2, b⟩))
 | 0, _, _, h => by cases h
 | n + 1, i, l, h => by
   show Zx (z9 n) w i b = _
   unfold Zx
   unfold pathF at h
   by_cases e : i = b
   ·rw [qQ e, decide_eq_true e]
    rfl
   ·rw [qL e, decide_eq_false e]
    obtain ⟨p, hp, h⟩ := Option.bind_eq_some_iff.1 h
    rw [hp, qg]
    split at h
    ·rename_i hk
     obtain ⟨r, hr, rfl⟩ := Option.map_eq_some_iff.1 h
     rw [qQ hk, Vk w b n p.id r hr, qg]
     have : decide (p = (⟨2, b⟩ : Place)) = decide (p.id = b) := by
      apply decide_eq_decide.2
      obtain ⟨k, d⟩ := p
      simp only at hk
      subst hk
      simp
     simp [this]
    ·rename_i hk
     cases h
     rw [qL hk]
     have : decide (p = (⟨2, b⟩ : Place)) = false := decide_eq_false (by rintro rfl; exact hk rfl)
     simp [this]
structure PathP (w : World) (i : Int) (l : List Place) (d : Nat) : Prop where
 path : pathF 100 w.where_ i = some l
 len : l.length = d + 1
 d4 : d ≤ 4
 dep : Dep w.where_ (upW w.where_ i.toNat) d
theorem RightP.wf {w : World} (h : RightP w) : ∀ q ∈ w.where_, WFp w.where_ q := at_wf h.where_ok h.where_len
theorem gX {w : World} (h : RightP w) {i : Int} (h0 : 0 ≤ i) (h1 : i < (w.where_.length : Int)) : ∃ l d, PathP w i l d := by
 have hm : upW w.where_ i.toNat ∈ w.where_ := by rw [zO (show i.toNat < w.where_.length by omega)]; exact List.getElem_mem _
 obtain ⟨d, h4, hd⟩ := h.deep _ hm
 obtain ⟨l, e1, e2⟩ := Nt h.wf d i 100 h0 h1 hd (by omega)
 exact ⟨l, d, e1, e2, h4, hd⟩
noncomputable def kw (w : World) (i : Int) : Place := (vS w i).getD ⟨0, 0⟩
theorem vG {w : World} (h : RightP w) {i : Int} (h0 : 0 ≤ i) (h1 : i < (w.where_.length : Int)) : vS w i = some (kw w i) := by
 obtain ⟨l, d, hp⟩ := gX h h0 h1
 unfold kw
 unfold vS
 rw [hp.path]
 simp only [Option.bind_some]
 cases hl : l.getLast? with
 | none =>
   rw [List.getLast?_eq_none_iff] at hl
   subst hl
   have := hp.len
   simp at this
 | some p => rfl
def vN (w : World) (p i : Int) : Prop := ((kw w i).kind = 0 ∧ (kw w i).id = gi w.at_ p) ∨ ((kw w i).kind = 1 ∧ (kw w i).id = p)
open Classical in
theorem RN {w : World} (h : RightP w) {p i : Int} (p0 : 0 ≤ p) (p1 : p < (w.at_.length : Int)) (h0 : 0 ≤ i) (h1 : i < (w.where_.length : Int)) : Q9 w p i = some (decide (vN w p i)) := by
 unfold Q9
 rw [Vp, vG h h0 h1, qg, qm p0 p1, qg]
 by_cases k0 : (kw w i).kind = 0
 ·rw [qQ k0]
  by_cases e : (kw w i).id = gi w.at_ p
  ·rw [qQ e, decide_eq_true (show vN w p i from .inl ⟨k0, e⟩)]
  ·rw [qL e, qL (by omega), decide_eq_false (fun hn : vN w p i => hn.elim (fun h => e h.2) (fun h => by have := h.1; omega))]
 ·rw [qL k0]
  by_cases k1 : (kw w i).kind = 1
  ·rw [qQ k1]
   congr 1
   exact decide_eq_decide.2 ⟨fun h => .inr ⟨k1, h⟩, fun h : vN w p i => h.elim (fun h => absurd h.1 k0) (·.2)⟩
  ·rw [qL k1, decide_eq_false (fun hn : vN w p i => hn.elim (fun h => k0 h.1) (fun h => k1 h.1))]
open Classical in
theorem Mz {w : World} (h : RightP w) {p i : Int} (p0 : 0 ≤ p) (p1 : p < (w.at_.length : Int)) (h0 : 0 ≤ i) (h1 : i < (w.where_.length : Int)) : QZ w p i = some (decide (vN w p i)) := by
 unfold QZ
 rw [vG h h0 h1, qg, qm p0 p1, qg]
 by_cases a : (kw w i).kind = 0 ∧ (kw w i).id = gi w.at_ p
 ·rw [q7 (by simp [a.1, a.2]), decide_eq_true (show vN w p i from .inl a)]
 ·rw [q8 (by simp; intro h1; exact fun h2 => a ⟨h1, h2⟩)]
  congr 1
  rw [Bool.eq_iff_iff]
  simp only [Bool.and_eq_true, decide_eq_true_eq]
  exact ⟨fun h => .inr h, fun h : vN w p i => h.resolve_left a⟩
noncomputable def JD (w : World) (p : Place) (i : Nat) : List Seen := ((List.range i).filter fun (k : Nat) => decide (kw w (k : Int) = p)).map fun (k : Nat) => ⟨(k : Int), upW w.where_ k⟩
theorem YK (w : World) (p : Place) (i : Nat) : JD w p (i + 1) = if kw w (i : Int) = p then JD w p i ++ [⟨(i : Int), upW w.where_ i⟩] else JD w p i := by
 unfold JD
 rw [List.range_succ, List.filter_append, List.map_append]
 by_cases h : kw w (i : Int) = p <;> simp [h]
theorem Zn (w : World) (p : Place) (i : Nat) : (JD w p i).length ≤ i := by
 have := List.length_filter_le (fun (k : Nat) => decide (kw w (k : Int) = p)) (List.range i)
 rw [List.length_range] at this
 unfold JD
 rw [List.length_map]
 exact this
theorem YT {w : World} (h : RightP w) (p : Place) : vH w p = some (JD w p w.where_.length) := by
 have hs := h.small.where_
 unfold vH
 have e := qJ (T := runder.lr3.T) (fun i => (((i : Int), ()), (wTo w, ((p.kind, (p.id, ())), (JD w p i, ()))))) ((), (JD w p w.where_.length, ())) w.where_.length (by omega) ?_ ?_
 ·rw [show qt runder.lr3.T ql (((0 : Int), ()), (wTo w, ((p.kind, (p.id, ())), (([] : List Seen), ())))) = _ from e]
  rfl
 ·intro i hi rec
  have hl : lget w.where_ (i : Int) = some (upW w.where_ i) := by rw [zO hi]; exact qS hi
  have hn := Zn w p i
  unfold runder.lr3.T
  simp only [wTo]
  rw [qn (by rw [ilen_eq]; omega), Zk, Vp, vG h (i := (i : Int)) (by omega) (by omega), qg, qK (by omega), YK, qX]
  by_cases hr : kw w (i : Int) = p
  ·rw [q7 (decide_eq_true hr), hl, qg, qn (by rw [ilen_eq]; show (((JD w p i).length : Int) + 1) * 24 < _; omega), if_pos hr]
  ·rw [q8 (decide_eq_false hr), if_neg hr]
 ·intro rec
  unfold runder.lr3.T
  simp only [wTo]
  rw [qw (by rw [ilen_eq]; omega)]
theorem YL {w : World} (h : RightP w) (p : Place) : vF w p = some (JD w p w.where_.length) := by
 have hs := h.small.where_
 unfold vF
 have e := qJ (T := tunder.lr3.T) (fun i => ((w.where_, (qh w.where_, ((i : Int), ()))), (wTo w, ((p.kind, (p.id, ())), (JD w p i, ()))))) ((), (JD w p w.where_.length, ())) w.where_.length (by omega) ?_ ?_
 ·rw [show qt tunder.lr3.T ql ((w.where_, (qh w.where_, ((0 : Int), ()))), (wTo w, ((p.kind, (p.id, ())), (([] : List Seen), ())))) = _ from e]
  rfl
 ·intro i hi rec
  have hl : lget w.where_ (i : Int) = some (upW w.where_ i) := by rw [zO hi]; exact qS hi
  have hn := Zn w p i
  unfold tunder.lr3.T
  simp only [wTo]
  rw [qn (by rw [ilen_eq]; omega), hl, qg, Zk, vG h (i := (i : Int)) (by omega) (by omega), qg, qK (by omega), YK, qX]
  by_cases hr : kw w (i : Int) = p
  ·rw [q7 (decide_eq_true hr), qn (by rw [ilen_eq]; show (((JD w p i).length : Int) + 1) * 24 < _; omega), if_pos hr]
  ·rw [q8 (decide_eq_false hr), if_neg hr]
 ·intro rec
  unfold tunder.lr3.T
  simp only [wTo]
  rw [qw (by rw [ilen_eq]; omega)]
end Go.Sx
