/-
  SX, part D: reading values as data; freezing.
-/
import Derived.Test.YtkogopmfpcbbkaaDoorSxC
set_option linter.unusedVariables false
set_option linter.unusedSimpArgs false
namespace Go.Sx
open Go
open Go.RowKit (Below)

/-- Whatever is c is c', too. -/
def CellAs (c c' : AV) : Prop := ∀ (D : Nat → Prop) (w : GW) (v : Value), DR D w c v → DR D w c' v
theorem CellAs.refl (c : AV) : CellAs c c := fun _ _ _ h => h
inductive C2 : List AV → List AV → Prop
  | nil : C2 [] []
  | cons {a b : AV} {r s : List AV} (h : CellAs a b) (t : C2 r s) : C2 (a :: r) (b :: s)
theorem C2.length {cs ds : List AV} (h : C2 cs ds) : cs.length = ds.length := by induction h <;> simp_all
theorem C2.get {cs ds : List AV} (h : C2 cs ds) : ∀ i (h1 : i < cs.length) (h2 : i < ds.length), CellAs cs[i] ds[i] := by
  induction h with
  | nil => intro i h; simp at h
  | cons h t ih =>
    intro i h1 h2
    cases i with
    | zero => exact h
    | succ i => exact ih i (by simpa using h1) (by simpa using h2)

theorem asInt_as {a : AV} {k : IntKind} {n : Int} (h : a.asInt k = some n) : CellAs a (.int k n) := by
  unfold AV.asInt at h
  split at h
  · rename_i k' m
    split at h
    · rename_i hk; subst hk; cases h; exact CellAs.refl _
    · simp at h
  · simp at h
theorem asBool_as {a : AV} {b : Bool} (h : a.asBool = some b) : CellAs a (.bool b) := by
  unfold AV.asBool at h
  split at h
  · cases h; exact CellAs.refl _
  · simp at h
theorem asStr_as {a : AV} {b : Str} (h : a.asStr = some b) : CellAs a (.str b) := by
  unfold AV.asStr at h
  split at h
  · cases h; exact CellAs.refl _
  · simp at h
theorem asSl_as {a : AV} {e : Kd} {l : List e.T} (h : a.asSl e = some l) : CellAs a (.sl e l) := by
  unfold AV.asSl at h
  split at h
  · split at h
    · rename_i hk; subst hk; cases h; exact CellAs.refl _
    · simp at h
  · split at h
    · rename_i hk; subst hk; cases h
      intro D w v hv
      cases hv with
      | slc _ _ A cv hA hone hr => exact .sl _ _ A _ cv (Nat.le_refl _) hA hone hr
    · simp at h
  · cases h
    intro D w v hv
    cases hv
    exact .sl e [] none 0 (fun _ _ => undef) (by simp) (fun i hi => by simp at hi) (fun i j hi => by simp at hi) (fun i hi => by simp at hi)
  · simp at h

theorem Place.of_as {cs : List AV} {x : Place} (h : Place.of cs = some x) : C2 cs x.cells := by
  unfold Place.of at h
  split at h
  · simp only [Option.bind_eq_some_iff, Option.some.injEq] at h
    obtain ⟨a, ha, b, hb, rfl⟩ := h
    exact .cons (asInt_as ha) (.cons (asInt_as hb) .nil)
  · simp at h
theorem Seen.of_as {cs : List AV} {x : Seen} (h : Seen.of cs = some x) : C2 cs x.cells := by
  unfold Seen.of at h
  split at h
  · simp only [Option.bind_eq_some_iff, Option.some.injEq] at h
    obtain ⟨a, ha, b, hb, c, hc, rfl⟩ := h
    exact .cons (asInt_as ha) (.cons (asInt_as hb) (.cons (asInt_as hc) .nil))
  · simp at h
theorem Exits.of_as {cs : List AV} {x : Exits} (h : Exits.of cs = some x) : C2 cs x.cells := by
  unfold Exits.of at h
  split at h
  · simp only [Option.bind_eq_some_iff, Option.some.injEq] at h
    obtain ⟨a, ha, b, hb, c, hc, d, hd, rfl⟩ := h
    exact .cons (asInt_as ha) (.cons (asInt_as hb) (.cons (asInt_as hc) (.cons (asInt_as hd) .nil)))
  · simp at h
theorem Desc.of_as {cs : List AV} {x : Desc} (h : Desc.of cs = some x) : C2 cs x.cells := by
  unfold Desc.of at h
  split at h
  · simp only [Option.bind_eq_some_iff, Option.some.injEq] at h
    obtain ⟨a, ha, b, hb, c, hc, d, hd, e, he, f, hf, g, hg, i, hi, rfl⟩ := h
    exact .cons (asSl_as ha) (.cons (asSl_as hb) (.cons (asSl_as hc) (.cons (asSl_as hd) (.cons (asSl_as he) (.cons (asInt_as hf) (.cons (asInt_as hg) (.cons (asInt_as hi) .nil)))))))
  · simp at h
theorem C2.append {a b c d : List AV} (h : C2 a b) (h' : C2 c d) : C2 (a ++ c) (b ++ d) := by
  induction h with
  | nil => exact h'
  | cons h t ih => exact .cons h ih
theorem World.of_as {cs : List AV} {x : Sx.World} (h : World.of cs = some x) : C2 cs x.cells := by
  unfold World.of at h
  split at h
  · simp only [Option.bind_eq_some_iff, Option.some.injEq] at h
    obtain ⟨d, hd, i, hi, j, hj, l, hl, rfl⟩ := h
    exact (Desc.of_as hd).append (.cons (asSl_as hi) (.cons (asSl_as hj) (.cons (asSl_as hl) .nil)))
  · simp at h
theorem Key.of_as {cs : List AV} {x : Key} (h : Key.of cs = some x) : C2 cs x.cells := by
  unfold Key.of at h
  split at h
  · simp only [Option.bind_eq_some_iff, Option.some.injEq] at h
    obtain ⟨a, ha, b, hb, rfl⟩ := h
    exact .cons (asInt_as ha) (.cons (asInt_as hb) .nil)
  · simp at h
theorem Write.of_as {cs : List AV} {x : Write} (h : Write.of cs = some x) : C2 cs x.cells := by
  unfold Write.of at h
  split at h
  · simp only [Option.bind_eq_some_iff, Option.some.injEq] at h
    obtain ⟨a, ha, b, hb, c, hc, d, hd, e, he, rfl⟩ := h
    exact .cons (asInt_as ha) (.cons (asInt_as hb) (.cons (asInt_as hc) (.cons (asInt_as hd) (.cons (asInt_as he) .nil))))
  · simp at h
theorem Cmd.of_as {cs : List AV} {x : Cmd} (h : Cmd.of cs = some x) : C2 cs x.cells := by
  unfold Cmd.of at h
  split at h
  · simp only [Option.bind_eq_some_iff, Option.some.injEq] at h
    obtain ⟨a, ha, b, hb, c, hc, d, hd, e, he, f, hf, g, hg, i, hi, j, hj, rfl⟩ := h
    exact .cons (asInt_as ha) (.cons (asInt_as hb) (.cons (asInt_as hc) (.cons (asInt_as hd) (.cons (asInt_as he) (.cons (asSl_as hf) (.cons (asInt_as hg) (.cons (asSl_as hi) (.cons (asInt_as hj) .nil))))))))
  · simp at h
theorem Reply.of_as {cs : List AV} {x : Reply} (h : Reply.of cs = some x) : C2 cs x.cells := by
  unfold Reply.of at h
  split at h
  · simp only [Option.bind_eq_some_iff, Option.some.injEq] at h
    obtain ⟨a, ha, b, hb, c, hc, d, hd, e, he, f, hf, rfl⟩ := h
    exact .cons (asInt_as ha) (.cons (asInt_as hb) (.cons (asInt_as hc) (.cons (asSl_as hd) (.cons (asSl_as he) (.cons (asInt_as hf) .nil)))))
  · simp at h
theorem Script.of_as {cs : List AV} {x : Script} (h : Script.of cs = some x) : C2 cs x.cells := by
  unfold Script.of at h
  split at h
  · simp only [Option.bind_eq_some_iff, Option.some.injEq] at h
    obtain ⟨a, ha, b, hb, rfl⟩ := h
    exact .cons (asInt_as ha) (.cons (asSl_as hb) .nil)
  · simp at h
theorem Call.of_as {cs : List AV} {x : Sx.Call} (h : Call.of cs = some x) : C2 cs x.cells := by
  unfold Call.of at h
  split at h
  · simp only [Option.bind_eq_some_iff, Option.some.injEq] at h
    obtain ⟨a, ha, f, hf, g, hg, i, hi, r, hr, rfl⟩ := h
    exact .cons (asInt_as ha) ((Cmd.of_as hf).append (.cons (asInt_as hg) (.cons (asInt_as hi) (Reply.of_as hr))))
  · simp at h
theorem Sess.of_as {cs : List AV} {x : Sess} (h : Sess.of cs = some x) : C2 cs x.cells := by
  unfold Sess.of at h
  split at h
  · simp only [Option.bind_eq_some_iff, Option.some.injEq] at h
    obtain ⟨a, ha, b, hb, c, hc, d, hd, e, he, f, hf, g, hg, i, hi, j, hj, r, hr, l, hl, m, hm, n, hn, o, ho, p, hp, q, hq, s, hs, rfl⟩ := h
    exact .cons (asInt_as ha) (.cons (asSl_as hb) (.cons (asInt_as hc) (.cons (asInt_as hd) (.cons (asInt_as he) ((Cmd.of_as hf).append
      (.cons (asSl_as hg) (.cons (asInt_as hi) (.cons (asSl_as hj) ((Reply.of_as hr).append (.cons (asBool_as hl) (.cons (asInt_as hm) (.cons (asInt_as hn) (.cons (asInt_as ho)
      (.cons (asSl_as hp) (.cons (asSl_as hq) (.cons (asInt_as hs) .nil))))))))))))))))
  · simp at h
theorem SN.of_as {s : SN} {cs : List AV} {x : s.T} (h : s.of cs = some x) : C2 cs (s.cells x) := by
  cases s
  · exact Place.of_as h
  · exact Seen.of_as h
  · exact Exits.of_as h
  · exact Desc.of_as h
  · exact World.of_as h
  · exact Key.of_as h
  · exact Write.of_as h
  · exact Cmd.of_as h
  · exact Reply.of_as h
  · exact Sess.of_as h
  · exact Call.of_as h
  · exact Script.of_as h
theorem AV.as_as {k : Kd} {a : AV} {x : k.T} (h : a.as k = some x) : CellAs a (k.of x) := by
  cases k with
  | int k => exact asInt_as h
  | bool => exact asBool_as h
  | str => exact asStr_as h
  | sl e => exact asSl_as h
  | st s =>
    cases a with
    | agg cs =>
      have hc := SN.of_as (s := s) (show s.of cs = some x from h)
      intro D w v hv
      cases hv with
      | agg _ vs hl hone hh =>
        exact .agg _ vs (by rw [← hc.length]; exact hl) hone fun i h1 h2 => hc.get i (by rw [hc.length]; exact h1) h1 _ _ _ (hh i (by rw [hc.length]; exact h1) h2)
    | _ => exact absurd (show (none : Option s.T) = some x from h) (by simp)
theorem Kd.ofCells_as {k : Kd} {cs : List AV} {x : k.T} (h : k.ofCells cs = some x) : C2 cs (k.cells x) := by
  cases k with
  | st s => exact SN.of_as h
  | int k =>
    match cs, h with
    | [v], h => exact .cons (AV.as_as (k := .int k) h) .nil
  | bool =>
    match cs, h with
    | [v], h => exact .cons (AV.as_as (k := .bool) h) .nil
  | str =>
    match cs, h with
    | [v], h => exact .cons (AV.as_as (k := .str) h) .nil
  | sl e =>
    match cs, h with
    | [v], h => exact .cons (AV.as_as (k := .sl e) h) .nil
end Go.Sx
