/-
  SX: environments, put together.
-/
import Derived.Test.YtkogopmfpcbbkaaDoorSxKt
import Derived.Test.YtkogopmfpcbbkaaDoorSxLc
set_option linter.unusedVariables false
set_option linter.unusedSimpArgs false
namespace Go.Sx
open Go

/-- Rounds, more than any loop goes. -/
def bigL : Nat := 18446744073709551616

theorem look_mem {α : Type _} : ∀ {l : List (Nat × α)} {n : Nat} {x : α}, look l n = some x → (n, x) ∈ l
  | [], n, x, h => by simp [look_nil] at h
  | p :: r, n, x, h => by
    rw [look_cons] at h
    cases hb : Nat.beq p.1 n with
    | true =>
      rw [hb] at h
      have e : p.1 = n := Nat.eq_of_beq_eq_true hb
      have e2 : p.2 = x := Option.some.inj h
      rw [← e, ← e2]; simp
    | false => rw [hb] at h; exact List.mem_cons_of_mem _ (look_mem h)

inductive CtrsOK (P : Program) (gl : List (Nat × List AV)) : List (Nat × Ctr) → Prop
  | nil : CtrsOK P gl []
  | cons {f : Nat} {c : Ctr} {r : List (Nat × Ctr)} (h : FnOK P f ∧ CtrOK P gl f c) (t : CtrsOK P gl r) : CtrsOK P gl ((f, c) :: r)
theorem CtrsOK.mem {P : Program} {gl : List (Nat × List AV)} {l : List (Nat × Ctr)} (h : CtrsOK P gl l) : ∀ p ∈ l, FnOK P p.1 ∧ CtrOK P gl p.1 p.2 := by
  induction h with
  | nil => intro p hp; simp at hp
  | cons h t ih =>
    intro p hp
    rcases List.mem_cons.1 hp with rfl | hp
    · exact h
    · exact ih p hp
/-- A function that is walked in place, or called. -/
def FnIn (P : Program) (f : Nat) (fn : Func) : Prop := P.funcs[f]? = some fn ∧ fn.body.isSome = true ∧ fn.name ≠ "runtime.NumGoroutine"
theorem FnIn.mk {P : Program} {f : Nat} {fn : Func} (h : P.funcs[f]? = some fn) (hb : fn.body.isSome = true) (hn : (fn.name == "runtime.NumGoroutine") = false) : FnIn P f fn := ⟨h, hb, by simpa using hn⟩
inductive InlsOK (P : Program) (E : Env) (H : Hints) : List (Nat × Func) → Prop
  | nil : InlsOK P E H []
  | cons {f : Nat} {fn : Func} {r : List (Nat × Func)} (h : FnIn P f fn) (ht : ∀ c, fn.body = some c → ToldC E H f c) (t : InlsOK P E H r) : InlsOK P E H ((f, fn) :: r)
theorem InlsOK.mem {P : Program} {E : Env} {H : Hints} {l : List (Nat × Func)} (h : InlsOK P E H l) : ∀ p ∈ l, FnIn P p.1 p.2 ∧ ∀ c, p.2.body = some c → ToldC E H p.1 c := by
  induction h with
  | nil => intro p hp; simp at hp
  | cons h ht t ih =>
    intro p hp
    rcases List.mem_cons.1 hp with rfl | hp
    · exact ⟨h, ht⟩
    · exact ih p hp
/-- The loops that are told, with what is told of them. -/
noncomputable def obl (H : Hints) (f : Nat) : Code → List (Alt × Code)
  | .seq x y => obl H f x ++ obl H f y
  | .cond _ x y => obl H f x ++ obl H f y
  | .block _ c => obl H f c
  | .scope c => obl H f c
  | .loop c => (((look H.al f).bind fun hs => (firstReg c).bind fun i => look hs i).getD []).map (fun a => (a, c)) ++ obl H f c
  | _ => []
theorem told_obl {E : Env} {H : Hints} {f : Nat} : ∀ (c : Code), (∀ p ∈ obl H f c, Alt.Round E H f p.2 p.1) → ToldC E H f c := by
  intro c
  induction c with
  | seq x y hx hy => exact fun h => ⟨hx fun p hp => h p (List.mem_append.2 (.inl hp)), hy fun p hp => h p (List.mem_append.2 (.inr hp))⟩
  | cond c x y hx hy => exact fun h => ⟨hx fun p hp => h p (List.mem_append.2 (.inl hp)), hy fun p hp => h p (List.mem_append.2 (.inr hp))⟩
  | block i c hc => exact fun h => hc h
  | scope c hc => exact fun h => hc h
  | loop c hc =>
    intro h
    refine ⟨?_, hc fun p hp => h p (List.mem_append.2 (.inr hp))⟩
    split
    · rename_i alts halts
      intro a ha
      refine h (a, c) (List.mem_append.2 (.inl ?_))
      rw [halts]
      exact List.mem_map.2 ⟨a, ha, rfl⟩
    · trivial
  | _ => exact fun _ => trivial
noncomputable def oblAt (H : Hints) (f : Nat) (fn : Func) (i : Nat) : Code := (((fn.body.map (obl H f)).getD [])[i]?).elim .skip (·.2)
theorem told_of {E : Env} {H : Hints} {f : Nat} {fn : Func} (l : List Alt) (hl : ((fn.body.map (obl H f)).getD []).map (·.1) = l) (h : ∀ i (hi : i < l.length), Alt.Round E H f (oblAt H f fn i) l[i]) : ∀ c, fn.body = some c → ToldC E H f c := by
  intro c hc
  refine told_obl c fun p hp => ?_
  obtain ⟨i, hi, rfl⟩ := List.getElem_of_mem hp
  subst hl
  unfold oblAt at h
  simp only [hc, Option.map_some, Option.getD_some] at h
  have := h i (by simpa using hi)
  rw [List.getElem?_eq_getElem hi] at this
  simpa using this
inductive EqsOK (P : Program) : List (Nat × Nat) → Prop
  | nil : EqsOK P []
  | cons {t n : Nat} {r : List (Nat × Nat)} (h : EqFact P t n) (k : EqsOK P r) : EqsOK P ((t, n) :: r)
theorem EqsOK.mem {P : Program} {l : List (Nat × Nat)} (h : EqsOK P l) : ∀ p ∈ l, EqFact P p.1 p.2 := by
  induction h with
  | nil => intro p hp; simp at hp
  | cons h t ih =>
    intro p hp
    rcases List.mem_cons.1 hp with rfl | hp
    · exact h
    · exact ih p hp

theorem envOK {P : Program} {E : Env} {H : Hints} (hty : (E.ty.all fun p => tyOK P p.1 p.2) = true) (hctr : CtrsOK P E.glob E.ctr) (hinl : InlsOK P E H E.inl) (heq : EqsOK P E.eqs) (hm : P.follows .mixedOrders = true) : EnvOK P E := by
  refine ⟨fun t n h => heq.mem _ (look_mem h), fun t i h => ?_, fun f c h => hctr.mem _ (look_mem h), fun f fn h => ?_, hm⟩
  · have := List.all_eq_true.1 hty (t, i) (look_mem h)
    exact tyOK_spec this
  · exact (hinl.mem _ (look_mem h)).1

/-- A function's contract, by its walk. -/
theorem fn_ctr {P : Program} {E : Env} {H : Hints} (hty : (E.ty.all fun p => tyOK P p.1 p.2) = true) (hctr : CtrsOK P E.glob E.ctr) (hinl : InlsOK P E H E.inl) (heq : EqsOK P E.eqs) (hm : P.follows .mixedOrders = true)
    {f : Nat} {fn : Func} (hf : FnIn P f fn) (htold : ∀ c, fn.body = some c → ToldC E H f c) {ks kr : List Kd} {F : Fn ks (Option (Rs kr))} (hF : ∀ xs : Lf ks, evalF E H f fn (cellsL ks xs) (asR kr) = apL ks F xs) :
    FnOK P f ∧ CtrOK P E.glob f (ctrOf ks kr F) :=
  ⟨⟨fn, hf⟩, ctr_ok fun xs z hz => callsTo_of (envOK hty hctr hinl heq hm) (fun f fn c h hb => (hinl.mem _ (look_mem h)).2 c hb) hf.1 htold (by rw [hF xs]; exact hz)⟩
/-- A law's call at one input, by its walk. -/
theorem law_one {P : Program} {E : Env} {H : Hints} (hty : (E.ty.all fun p => tyOK P p.1 p.2) = true) (hctr : CtrsOK P E.glob E.ctr) (hinl : InlsOK P E H E.inl) (heq : EqsOK P E.eqs) (hm : P.follows .mixedOrders = true)
    {f : Nat} {fn : Func} (hf : FnIn P f fn) (htold : ∀ c, fn.body = some c → ToldC E H f c) {ks : List Kd} {F : Fn ks (Option Bool)} (hF : ∀ xs : Lf ks, evalF E H f fn (cellsL ks xs) (asR [.bool]) = apL ks F xs)
    (xs : Lf ks) (h : apL ks F xs = some true) : CallsTo P E.glob f (cellsL ks xs) (.bool true) :=
  callsTo_of (kr := [.bool]) (z := true) (envOK hty hctr hinl heq hm) (fun f fn c h hb => (hinl.mem _ (look_mem h)).2 c hb) hf.1 htold (by rw [hF xs]; exact h)
/-- A law's calls, by its walk. -/
theorem law_to {P : Program} {E : Env} {H : Hints} (hty : (E.ty.all fun p => tyOK P p.1 p.2) = true) (hctr : CtrsOK P E.glob E.ctr) (hinl : InlsOK P E H E.inl) (heq : EqsOK P E.eqs) (hm : P.follows .mixedOrders = true)
    {f : Nat} {fn : Func} (hf : FnIn P f fn) (htold : ∀ c, fn.body = some c → ToldC E H f c) {ks : List Kd} {F : Fn ks (Option Bool)} (hF : ∀ xs : Lf ks, evalF E H f fn (cellsL ks xs) (asR [.bool]) = apL ks F xs)
    (htrue : ∀ xs : Lf ks, (∀ m, wfA m ks xs) → apL ks F xs = some true) (xs : Lf ks) (hx : ∀ m, wfA m ks xs) : CallsTo P E.glob f (cellsL ks xs) (.bool true) :=
  callsTo_of (kr := [.bool]) (z := true) (envOK hty hctr hinl heq hm) (fun f fn c h hb => (hinl.mem _ (look_mem h)).2 c hb) hf.1 htold (by rw [hF xs]; exact htrue xs hx)
end Go.Sx
