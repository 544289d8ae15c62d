/-
  SX, part V: what is asked of an environment: types, contracts, functions that are walked in place.
-/
import Derived.Test.YtkogopmfpcbbkaaDoorSxR
set_option linter.unusedVariables false
set_option linter.unusedSimpArgs false
namespace Go.Sx
open Go
open Go.RowKit (Below)

/-- A zero of one cell. -/
def zis : AV → Value → Bool
  | .int k n, .int k' m => decide (k = k') && decide (n = m)
  | .bool b, .bool c => b == c
  | .str [], .string s => s.size == 0
  | .sl _ l, .slice none 0 0 => l.isEmpty
  | .nilsl, .slice none 0 0 => true
  | .nilp, .pointer none => true
  | .nilf, .nilFunc => true
  | .nilm, .map none => true
  | .nili, .nilIface => true
  | _, _ => false
theorem zis_spec {D : Nat → Prop} {w : GW} {v : AV} {x : Value} (h : zis v x = true) : DR D w v x ∧ x.oneCell' = true := by
  unfold zis at h
  split at h
  · simp at h; obtain ⟨rfl, rfl⟩ := h; exact ⟨.int _ _, rfl⟩
  · simp at h; subst h; exact ⟨.bool _, rfl⟩
  · rename_i s
    have : s = ⟨([] : List UInt8).toArray⟩ := by
      cases s with
      | mk d =>
        have : d.size = 0 := by simpa [ByteArray.size] using h
        have : d = #[] := Array.eq_empty_of_size_eq_zero this
        subst this; rfl
    rw [this]; exact ⟨.str [], rfl⟩
  · rename_i e l
    have : l = [] := by simpa using h
    subst this
    exact ⟨.sl e [] none 0 (fun _ _ => undef) (by simp) (fun i hi => by simp at hi) (fun i j hi => by simp at hi) (fun i hi => by simp at hi), rfl⟩
  · exact ⟨.nilsl, rfl⟩
  · exact ⟨.nilp, rfl⟩
  · exact ⟨.nilf, rfl⟩
  · exact ⟨.nilm, rfl⟩
  · exact ⟨.nili, rfl⟩
  · simp at h
def zall : List AV → List Value → Bool
  | [], [] => true
  | v :: r, x :: s => zis v x && zall r s
  | _, _ => false
theorem zall_spec {D : Nat → Prop} {w : GW} : ∀ {cs : List AV} {vs : List Value}, zall cs vs = true → cs.length = vs.length ∧ ∀ i (h1 : i < cs.length) (h2 : i < vs.length), DR D w cs[i] vs[i] ∧ vs[i].oneCell' = true
  | [], [], _ => ⟨rfl, fun i h => by simp at h⟩
  | v :: r, x :: s, h => by
    simp only [zall, Bool.and_eq_true] at h
    obtain ⟨hl, hr⟩ := zall_spec (D := D) (w := w) h.2
    refine ⟨by simp [hl], fun i h1 h2 => ?_⟩
    cases i with
    | zero => exact zis_spec h.1
    | succ i => exact hr i (by simpa using h1) (by simpa using h2)
  | [], _ :: _, h => by simp [zall] at h
  | _ :: _, [], h => by simp [zall] at h

def fsOK (P : Program) : List Field → List (Nat × TypeId) → Bool
  | [], [] => true
  | f :: r, p :: s => f.offset == p.1 && f.type == p.2 && (match P.info? f.type with | some i => i.size != 0 | none => false) && fsOK P r s
  | _, _ => false
def shOK (P : Program) : TypeDesc → Sh → Bool
  | .int k, .int k' => decide (k = k')
  | .bool, .bool => true
  | .string, .str => true
  | .pointer e, .ptr e' => e == e'
  | .slice e, .sl e' => e == e'
  | .array n e, .arr n' e' => n == n' && e == e'
  | .struct fs, .st fs' => fsOK P fs.toList fs'
  | .map k e, .map k' e' => k == k' && e == e'
  | .interface _, .iface => true
  | .func _ _ _, .func => true
  | _, .oth => true
  | _, _ => false
def aggD : TypeDesc → Bool
  | .struct _ | .array _ _ => true
  | _ => false
/-- The whole look at one type: a closed fact. -/
def tyOK (P : Program) (t : TypeId) (i : TyI) : Bool :=
  (match P.info? t with
   | some n => n.size == i.size && n.bytes == i.bytes && (match n.zero with | some z => zall i.zero z.cells.toList && (i.agg || z.oneCell') | none => false) &&
      (match i.kd with | some k => Nat.beq k.size i.size && (match n.zero with | some z => zall (k.cells k.zero) z.cells.toList | none => false) | none => true)
   | none => false) &&
  (match P.underlying t with
   | some d => shOK P d i.sh && (aggD d == i.agg)
   | none => false)

theorem fsOK_spec {P : Program} : ∀ {fs : List Field} {gs : List (Nat × TypeId)}, fsOK P fs gs = true → fs.length = gs.length ∧ ∀ i (h : i < fs.length) (h' : i < gs.length), fs[i].offset = gs[i].1 ∧ fs[i].type = gs[i].2 ∧ ∃ n, P.info? fs[i].type = some n ∧ n.size ≠ 0
  | [], [], _ => ⟨rfl, fun i h => by simp at h⟩
  | f :: r, p :: s, h => by
    simp only [fsOK, Bool.and_eq_true, beq_iff_eq] at h
    obtain ⟨hl, hr⟩ := fsOK_spec h.2
    refine ⟨by simp [hl], fun i h1 h2 => ?_⟩
    cases i with
    | zero =>
      refine ⟨h.1.1.1, h.1.1.2, ?_⟩
      have h3 := h.1.2
      simp only [List.getElem_cons_zero]
      split at h3
      · rename_i n hn; exact ⟨n, hn, by simpa using h3⟩
      · simp at h3
    | succ i => exact hr i (by simpa using h1) (by simpa using h2)
  | [], _ :: _, h => by simp [fsOK] at h
  | _ :: _, [], h => by simp [fsOK] at h

structure TyFacts (P : Program) (t : TypeId) (i : TyI) : Prop where
  info : ∃ n z, P.info? t = some n ∧ n.size = i.size ∧ n.bytes = i.bytes ∧ n.zero = some z ∧ (i.agg = false → z.oneCell' = true) ∧ zall i.zero z.cells.toList = true ∧ (∀ k, i.kd = some k → k.size = i.size ∧ zall (k.cells k.zero) z.cells.toList = true)
  und : ∃ d, P.underlying t = some d ∧ shOK P d i.sh = true ∧ aggD d = i.agg
theorem tyOK_spec {P : Program} {t : TypeId} {i : TyI} (h : tyOK P t i = true) : TyFacts P t i := by
  unfold tyOK at h
  simp only [Bool.and_eq_true] at h
  constructor
  · have h1 := h.1
    split at h1
    · rename_i n hn
      simp only [Bool.and_eq_true, beq_iff_eq] at h1
      obtain ⟨⟨⟨ha, hb⟩, hc⟩, hd⟩ := h1
      split at hc
      · rename_i z hz
        simp only [Bool.and_eq_true] at hc
        refine ⟨n, z, hn, ha, hb, hz, fun h => by have := hc.2; rw [h] at this; simpa using this, hc.1, fun k hk => ?_⟩
        rw [hk] at hd
        simp only [hz, Bool.and_eq_true] at hd
        exact ⟨Nat.eq_of_beq_eq_true hd.1, hd.2⟩
      · simp at hc
    · simp at h1
  · have h2 := h.2
    split at h2
    · rename_i d hd
      simp only [Bool.and_eq_true, beq_iff_eq] at h2
      exact ⟨d, hd, h2.1, h2.2⟩
    · simp at h2

theorem shOK_int {P : Program} {d : TypeDesc} {k : IntKind} (h : shOK P d (.int k) = true) : d = .int k := by
  cases d <;> simp [shOK] at h; exact congrArg _ h
theorem shOK_str {P : Program} {d : TypeDesc} (h : shOK P d .str = true) : d = .string := by cases d <;> simp [shOK] at h; rfl
theorem shOK_bool {P : Program} {d : TypeDesc} (h : shOK P d .bool = true) : d = .bool := by cases d <;> simp [shOK] at h; rfl
theorem shOK_iface {P : Program} {d : TypeDesc} (h : shOK P d .iface = true) : ∃ m, d = .interface m := by cases d <;> simp [shOK] at h; exact ⟨_, rfl⟩
theorem shOK_func {P : Program} {d : TypeDesc} (h : shOK P d .func = true) : ∃ a b c, d = .func a b c := by cases d <;> simp [shOK] at h; exact ⟨_, _, _, rfl⟩
theorem shOK_ptr {P : Program} {d : TypeDesc} {e : TypeId} (h : shOK P d (.ptr e) = true) : d = .pointer e := by cases d <;> simp [shOK] at h; exact congrArg _ h
theorem shOK_sl {P : Program} {d : TypeDesc} {e : TypeId} (h : shOK P d (.sl e) = true) : d = .slice e := by cases d <;> simp [shOK] at h; exact congrArg _ h
theorem shOK_arr {P : Program} {d : TypeDesc} {n : Nat} {e : TypeId} (h : shOK P d (.arr n e) = true) : d = .array n e := by
  cases d <;> simp [shOK] at h; rw [h.1, h.2]
theorem shOK_map {P : Program} {d : TypeDesc} {n e : TypeId} (h : shOK P d (.map n e) = true) : d = .map n e := by
  cases d <;> simp [shOK] at h; rw [h.1, h.2]
theorem shOK_st {P : Program} {d : TypeDesc} {gs : List (Nat × TypeId)} (h : shOK P d (.st gs) = true) : ∃ fs, d = .struct fs ∧ fsOK P fs.toList gs = true := by
  cases d <;> simp [shOK] at h; exact ⟨_, rfl, h⟩

def GOK (gl : List (Nat × List AV)) (base : Nat) (D : Nat → Prop) (w : GW) : Prop :=
  ∀ g cs, look gl g = some cs → g < base ∧ D g ∧ (∀ j (h : j < cs.length), ∃ x, w.cell? ((blkA g).add j) = some x ∧ x.oneCell' = true ∧ DR D w cs[j] x) ∧ ∃ row t fr, w.heap[g]? = some (.cells row t fr) ∧ row.size = cs.length

def DRs (D : Nat → Prop) (w : GW) (vs : List AV) (xs : List Value) : Prop := vs.length = xs.length ∧ ∀ i (h : i < vs.length) (h' : i < xs.length), DR D w vs[i] xs[i]

/-- What a call comes to: it returns a value that is told; what was there stays as it was. -/
def CallsTo (P : Program) (gl : List (Nat × List AV)) (f : FuncId) (args : List AV) (v : AV) : Prop :=
  ∀ (ok : Nat → Prop) (w : GW) (xs : List Value), (∀ c, ok c → c < w.heap.size) → GOK gl w.heap.size ok w → DRs ok w args xs →
    Calls P f xs.toArray w fun e w' => ∃ cv, e = .returned cv ∧ Below w.heap.size w w' ∧ DR (fun c => ok c ∨ (w.heap.size ≤ c ∧ c < w'.heap.size)) w' v cv
def CtrOK (P : Program) (gl : List (Nat × List AV)) (f : FuncId) (c : Ctr) : Prop :=
  (∀ (R : Type) (args : List AV) (k : AV → Option R), c.run args k = (c.run args some).bind k) ∧ ∀ (R : Type) (args : List AV) (k : AV → Option R) (r : R), c.run args k = some r → ∃ v, k v = some r ∧ CallsTo P gl f args v
def FnOK (P : Program) (f : FuncId) : Prop := ∃ fn, P.funcs[f]? = some fn ∧ fn.body.isSome = true ∧ fn.name ≠ "runtime.NumGoroutine"
/-- A cell's own value, where it has one. -/
def AV.val : AV → Option Value
  | .int k n => some (.int k n)
  | .bool b => some (.bool b)
  | .str s => some (.string ⟨s.toArray⟩)
  | _ => none
/-- Of a struct's or an array's type: '==' compares cell by cell. -/
def EqFact (P : Program) (t : TypeId) (n : Nat) : Prop :=
  ∀ (w : GW) (cs ds : List AV) (xs ys : List Value) (b : Bool), cellsEq cs ds = some b → cs.length = n → ds.length = n → cs.map AV.val = xs.map some → ds.map AV.val = ys.map some →
    (Op.equal t (.agg xs.toArray) (.agg ys.toArray)).run P w = .ok b w ∧ ∀ op x y, (eqGuard op t x y (.agg xs.toArray) (.agg ys.toArray)).run P w = .ok () w
structure EnvOK (P : Program) (E : Env) : Prop where
  eq : ∀ t n, look E.eqs t = some n → EqFact P t n
  ty : ∀ t i, E.t t = some i → TyFacts P t i
  ctr : ∀ f c, look E.ctr f = some c → FnOK P f ∧ CtrOK P E.glob f c
  inl : ∀ f fn, look E.inl f = some fn → P.funcs[f]? = some fn ∧ fn.body.isSome = true ∧ fn.name ≠ "runtime.NumGoroutine"
  mixed : P.follows .mixedOrders = true

theorem run_callFunc {P : Program} {f : FuncId} {fn : Func} (h : P.funcs[f]? = some fn) (hb : fn.body.isSome = true) (hn : fn.name ≠ "runtime.NumGoroutine") (xs : Array Value) (w : GW) :
    (callFunc f xs).run P w = .ok (.enter f xs) w := by
  have h1 : (fn.name == "runtime.NumGoroutine") = false := by simpa using hn
  have h2 : fn.body.isNone = false := by cases hh : fn.body <;> simp_all
  unfold callFunc
  simp only [Sem.run_bind, run_program, Result.andThen_ok, h, h1, h2]
  rfl

end Go.Sx
