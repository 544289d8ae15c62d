/-
  SX, part H: what numbers, strings, pieces of slices, lengths and maps come to.
-/
import Derived.Test.YtkogopmfpcbbkaaDoorSxG
import Derived.Laws.Strings
import Derived.Laws.Concat
set_option linter.unusedVariables false
set_option linter.unusedSimpArgs false
namespace Go.Sx
open Go
open Go.RowKit (Below)
variable {P : Program} {E : Env} {base : Nat} {ok : Nat → Prop} {G : Gam} {w : GW} {M : Mem} {R : Type}

theorem size_mk (l : Str) : (⟨l.toArray⟩ : ByteArray).size = l.length := by simp [ByteArray.size]

theorem cmpI_sound {op : BinOp} {x y : Int} {b : Bool} (h : cmpI op x y = some b) (w : GW) : (Op.intCmp op x y).run P w = .ok (.bool b) w := by
  cases op <;> simp only [cmpI, Option.some.injEq, reduceCtorEq] at h <;> subst h <;> rfl

theorem cellEq_val {a b : AV} {c : Bool} (h : cellEq a b = some c) : (∃ x, a.val = some x) ∧ ∃ y, b.val = some y := by
  unfold cellEq at h
  split at h <;> first
    | exact ⟨⟨_, rfl⟩, ⟨_, rfl⟩⟩
    | simp at h
theorem cellsEq_val : ∀ {cs ds : List AV} {c : Bool}, cellsEq cs ds = some c → (∀ v ∈ cs, ∃ x, v.val = some x) ∧ ∀ v ∈ ds, ∃ x, v.val = some x
  | [], [], _, _ => ⟨fun v h => by simp at h, fun v h => by simp at h⟩
  | [a], [b], c, h => by
    have := cellEq_val (show cellEq a b = some c from h)
    exact ⟨fun v hv => by simp at hv; subst hv; exact this.1, fun v hv => by simp at hv; subst hv; exact this.2⟩
  | a :: a' :: r, b :: s, c, h => by
    simp only [cellsEq, Option.bind_eq_some_iff] at h
    obtain ⟨x, hx, y, hy, _⟩ := h
    have h1 := cellEq_val hx
    have h2 := cellsEq_val hy
    refine ⟨fun v hv => ?_, fun v hv => ?_⟩
    · rcases List.mem_cons.1 hv with rfl | hv
      · exact h1.1
      · exact h2.1 v hv
    · rcases List.mem_cons.1 hv with rfl | hv
      · exact h1.2
      · exact h2.2 v hv
  | [a], b :: b' :: s, c, h => by
    simp only [cellsEq, Option.bind_eq_some_iff] at h
    obtain ⟨x, hx, y, hy, _⟩ := h
    simp [cellsEq] at hy
  | [], _ :: _, _, h => by simp [cellsEq] at h
  | _ :: _, [], _, h => by simp [cellsEq] at h
theorem VR.val_inv {D : Nat → Prop} {σ : Nat → SB} {v : AV} {x y : Value} (h : VR D σ w v x) (hv : v.val = some y) : x = y := by
  unfold AV.val at hv
  split at hv <;> cases hv
  · exact h.int_inv
  · exact h.bool_inv
  · exact h.str_inv
theorem vals_map {D : Nat → Prop} {σ : Nat → SB} {cs : List AV} {xs : List Value} (hl : cs.length = xs.length) (h : ∀ i (h1 : i < cs.length) (h2 : i < xs.length), VR D σ w cs[i] xs[i]) (hv : ∀ v ∈ cs, ∃ x, v.val = some x) : cs.map AV.val = xs.map some := by
  apply List.ext_getElem
  · simpa using hl
  · intro i h1 h2
    simp at h1 h2
    obtain ⟨x, hx⟩ := hv cs[i] (by simp)
    simp only [List.getElem_map, hx, (h i h1 h2).val_inv hx]

theorem beqd (p q : Str) : (p == q) = decide (p = q) := by rw [Bool.eq_iff_iff]; simp
theorem binOp_geq (t : TypeId) (a b : ByteArray) : binOp .geq t (.string a) (.string b) = pure (.bool !(Op.bytesLess a.toList b.toList)) := by simp [binOp, Op.stringOp]
section
variable {t : TypeId} (w : GW)
theorem run_equal_bool (hd : P.underlying t = some .bool) (a b : Bool) : (Op.equal t (.bool a) (.bool b)).run P w = .ok (a == b) w := by
  unfold Op.equal Op.maxDepth; rw [Op.equalIn]; simp only [Sem.run_bind, run_underlying hd w, Result.andThen_ok]; rfl
theorem run_equal_if0 {m : Array (String × TypeId)} (hd : P.underlying t = some (.interface m)) : (Op.equal t .nilIface .nilIface).run P w = .ok true w := by
  unfold Op.equal Op.maxDepth; rw [Op.equalIn]; simp only [Sem.run_bind, run_underlying hd w, Result.andThen_ok]; rfl
theorem run_equal_if1 {m : Array (String × TypeId)} (hd : P.underlying t = some (.interface m)) (u : TypeId) (v : Value) : (Op.equal t .nilIface (.iface u v)).run P w = .ok false w := by
  unfold Op.equal Op.maxDepth; rw [Op.equalIn]; simp only [Sem.run_bind, run_underlying hd w, Result.andThen_ok]; rfl
theorem run_equal_if2 {m : Array (String × TypeId)} (hd : P.underlying t = some (.interface m)) (u : TypeId) (v : Value) : (Op.equal t (.iface u v) .nilIface).run P w = .ok false w := by
  unfold Op.equal Op.maxDepth; rw [Op.equalIn]; simp only [Sem.run_bind, run_underlying hd w, Result.andThen_ok]; rfl
theorem run_equal_p0 {e : TypeId} (hd : P.underlying t = some (.pointer e)) : (Op.equal t (.pointer none) (.pointer none)).run P w = .ok true w := by
  unfold Op.equal Op.maxDepth; rw [Op.equalIn]; simp only [Sem.run_bind, run_underlying hd w, Result.andThen_ok]; rfl
theorem run_equal_p1 {e : TypeId} (hd : P.underlying t = some (.pointer e)) (a : Addr) : (Op.equal t (.pointer none) (.pointer (some a))).run P w = .ok false w := by
  unfold Op.equal Op.maxDepth; rw [Op.equalIn]; simp only [Sem.run_bind, run_underlying hd w, Result.andThen_ok]; rfl
theorem run_equal_p2 {e : TypeId} (hd : P.underlying t = some (.pointer e)) (a : Addr) : (Op.equal t (.pointer (some a)) (.pointer none)).run P w = .ok false w := by
  unfold Op.equal Op.maxDepth; rw [Op.equalIn]; simp only [Sem.run_bind, run_underlying hd w, Result.andThen_ok]; rfl
theorem run_equal_f0 {a b : Array TypeId} {c : Bool} (hd : P.underlying t = some (.func a b c)) : (Op.equal t .nilFunc .nilFunc).run P w = .ok true w := by
  unfold Op.equal Op.maxDepth; rw [Op.equalIn]; simp only [Sem.run_bind, run_underlying hd w, Result.andThen_ok]; rfl
theorem run_equal_f1 {a b : Array TypeId} {c : Bool} (hd : P.underlying t = some (.func a b c)) (f : Fn) (p q : Array Value) : (Op.equal t (.func f p q) .nilFunc).run P w = .ok false w := by
  unfold Op.equal Op.maxDepth; rw [Op.equalIn]; simp only [Sem.run_bind, run_underlying hd w, Result.andThen_ok]; rfl
end
theorem run_eqGuard_plain {op : BinOp} {t : TypeId} {x y : Operand} {a b : Value} (h1 : ∀ xs, a ≠ .agg xs) (h2 : a = .nilIface → b = .nilIface → (isConstO x || isConstO y) = true) : (eqGuard op t x y a b).run P w = .ok () w := by
  unfold eqGuard
  cases op <;> first
    | rfl
    | (simp only [Bool.not_true, Bool.false_eq_true, if_false]
       split
       · have := h2 rfl rfl
         clear h1 h2
         cases x <;> cases y <;> first | rfl | exact Bool.noConfusion this
       · exact absurd rfl (h1 _)
       · rfl)

theorem binK_sound (hE : EnvOK P E) {op : BinOp} {t : TypeId} {x y : Operand} {a b : AV} {u v : Value} (ha : VR G.D G.σ w a u) (hb : VR G.D G.σ w b v) {k : AV → Option R} {r : R} (h : binK E op t (isConstO x || isConstO y) a b k = some r) :
    ∃ c z, k c = some r ∧ (do eqGuard op t x y u v; binOp op t u v : Sem Value).run P w = .ok z w ∧ VR G.D G.σ w c z := by
  unfold binK at h
  split at h
  · rename_i kx m ky n
    rw [ha.int_inv, hb.int_inv]
    simp only [Sem.run_bind, run_eqGuard_plain (P := P) (w := w) (a := .int kx m) (b := .int ky n) (by simp) (by simp), Result.andThen_ok]
    split at h
    · rename_i hk
      subst hk
      split at h
      · exact ⟨_, _, h, by simp [binOp, Op.intArith], .data _ _ (.int _ _)⟩
      · exact ⟨_, _, h, by simp [binOp, Op.intArith], .data _ _ (.int _ _)⟩
      · exact ⟨_, _, h, by simp [binOp, Op.intArith], .data _ _ (.int _ _)⟩
      · obtain ⟨h0, h⟩ := cnd_none' h
        have h0 : n ≠ 0 := by simpa [ieq] using h0
        exact ⟨_, _, h, by simp [binOp, Op.intDiv, h0], .data _ _ (.int _ _)⟩
      · obtain ⟨h0, h⟩ := cnd_none' h
        have h0 : n ≠ 0 := by simpa [ieq] using h0
        exact ⟨_, _, h, by simp [binOp, Op.intDiv, h0], .data _ _ (.int _ _)⟩
      · obtain ⟨c, hc, h⟩ := Option.bind_eq_some_iff.1 h
        refine ⟨_, _, h, ?_, .data _ _ (.bool c)⟩
        have := cmpI_sound (P := P) hc w
        cases op <;> first
          | (simp [cmpI] at hc; done)
          | (simpa [binOp] using this)
    · simp at h
  · rename_i p q
    rw [ha.bool_inv, hb.bool_inv]
    simp only [Sem.run_bind, run_eqGuard_plain (P := P) (w := w) (a := .bool p) (b := .bool q) (by simp) (by simp), Result.andThen_ok]
    split at h
    · rename_i i hi
      obtain ⟨d, hd, hs, _⟩ := (hE.ty t i hi).und
      split at h
      · rename_i hsh
        rw [hsh] at hs
        rw [shOK_bool hs] at hd
        exact ⟨_, _, h, by simp only [binOp, Sem.run_bind, run_equal_bool w hd, Result.andThen_ok, Sem.run_pure], .data _ _ (.bool _)⟩
      · rename_i hsh
        rw [hsh] at hs
        rw [shOK_bool hs] at hd
        exact ⟨_, _, h, by simp only [binOp, Sem.run_bind, run_equal_bool w hd, Result.andThen_ok, Sem.run_pure], .data _ _ (.bool _)⟩
      · simp at h
    · simp at h
  · rename_i p q
    rw [ha.str_inv, hb.str_inv]
    simp only [Sem.run_bind, run_eqGuard_plain (P := P) (w := w) (a := .string ⟨p.toArray⟩) (b := .string ⟨q.toArray⟩) (by simp) (by simp), Result.andThen_ok]
    split at h
    · obtain ⟨h0, h⟩ := cnd_none h
      have h0 : p.length + q.length < 4611686018427387904 := by simp [ilt, iadd, ilen_eq] at h0; omega
      have e : (⟨p.toArray⟩ : ByteArray) ++ ⟨q.toArray⟩ = ⟨(p ++ q).toArray⟩ := by
        apply ByteArray.ext; simp
      refine ⟨_, .string ⟨(p ++ q).toArray⟩, h, ?_, .data _ _ (.str (p ++ q))⟩
      rw [binOp_string_add, run_string_add_sum (P := P) w _ _ (by rw [size_mk, size_mk]; omega), e]
    · exact ⟨_, _, h, by simp [binOp_string_eql, ByteArray.toList_mk, seq, beqd], .data _ _ (.bool _)⟩
    · exact ⟨_, _, h, by simp [binOp_string_neq, ByteArray.toList_mk, seq, beqd], .data _ _ (.bool _)⟩
    · exact ⟨_, _, h, by simp [binOp_string_lss, ByteArray.toList_mk], .data _ _ (.bool _)⟩
    · exact ⟨_, _, h, by simp [binOp_geq, ByteArray.toList_mk], .data _ _ (.bool _)⟩
    · simp at h
  · rename_i cs ds
    obtain ⟨xs, hl, _, hh, rfl⟩ := ha.agg_inv
    obtain ⟨ys, hl', _, hh', rfl⟩ := hb.agg_inv
    split at h
    · rename_i n hn
      obtain ⟨hlen, h⟩ := bif_none h
      simp only [Bool.and_eq_true] at hlen
      have h1 := Nat.eq_of_beq_eq_true hlen.1
      have h2 := Nat.eq_of_beq_eq_true hlen.2
      have go : ∀ {c : Bool}, cellsEq cs ds = some c → (Op.equal t (.agg xs.toArray) (.agg ys.toArray)).run P w = .ok c w ∧ ∀ op x y, (eqGuard op t x y (.agg xs.toArray) (.agg ys.toArray)).run P w = .ok () w :=
        fun {c} hc => hE.eq t n hn w cs ds xs ys c hc h1 h2 (vals_map hl hh (cellsEq_val hc).1) (vals_map hl' hh' (cellsEq_val hc).2)
      split at h
      · obtain ⟨c, hc, h⟩ := Option.bind_eq_some_iff.1 h
        refine ⟨_, _, h, ?_, .data _ _ (.bool c)⟩
        simp only [Sem.run_bind, (go hc).2, Result.andThen_ok, binOp, (go hc).1, Sem.run_pure]
      · obtain ⟨c, hc, h⟩ := Option.bind_eq_some_iff.1 h
        refine ⟨_, _, h, ?_, .data _ _ (.bool _)⟩
        simp only [Sem.run_bind, (go hc).2, Result.andThen_ok, binOp, (go hc).1, Sem.run_pure]
      · simp at h
    · simp at h
  · split at h
    · rename_i i hi
      obtain ⟨d, hd, hs, _⟩ := (hE.ty t i hi).und
      have go : ∀ {c : Bool}, nilEq (isConstO x || isConstO y) i.sh a b = some c → (Op.equal t u v).run P w = .ok c w ∧ (∀ op, (eqGuard op t x y u v).run P w = .ok () w) ∧ (∀ op, op = .eql ∨ op = .neq → binOp op t u v = (match op with | .eql => (do pure (.bool (← Op.equal t u v))) | _ => (do pure (.bool (!(← Op.equal t u v)))) : Sem Value)) := by
        intro c hc
        generalize hsh : i.sh = s at hc hs
        unfold nilEq at hc
        split at hc
        · obtain ⟨hcst, hc⟩ := bif_none hc
          cases hc
          obtain ⟨m, rfl⟩ := shOK_iface hs
          rw [ha.nili_inv, hb.nili_inv]
          exact ⟨run_equal_if0 w hd, fun op => run_eqGuard_plain (by simp) (fun _ _ => hcst), fun op ho => by rcases ho with rfl | rfl <;> rfl⟩
        · cases hc
          obtain ⟨m, rfl⟩ := shOK_iface hs
          obtain ⟨t', y', rfl⟩ := hb.err_inv
          rw [ha.nili_inv]
          exact ⟨run_equal_if1 w hd _ _, fun op => run_eqGuard_plain (by simp) (by simp), fun op ho => by rcases ho with rfl | rfl <;> rfl⟩
        · cases hc
          obtain ⟨m, rfl⟩ := shOK_iface hs
          obtain ⟨t', y', rfl⟩ := ha.err_inv
          rw [hb.nili_inv]
          exact ⟨run_equal_if2 w hd _ _, fun op => run_eqGuard_plain (by simp) (by simp), fun op ho => by rcases ho with rfl | rfl <;> rfl⟩
        · cases hc
          have := shOK_ptr hs
          subst this
          rw [ha.nilp_inv, hb.nilp_inv]
          exact ⟨run_equal_p0 w hd, fun op => run_eqGuard_plain (by simp) (by simp), fun op ho => by rcases ho with rfl | rfl <;> rfl⟩
        · cases hc
          have := shOK_ptr hs
          subst this
          obtain ⟨c', _, rfl⟩ := hb.ptr_inv
          rw [ha.nilp_inv]
          exact ⟨run_equal_p1 w hd _, fun op => run_eqGuard_plain (by simp) (by simp), fun op ho => by rcases ho with rfl | rfl <;> rfl⟩
        · cases hc
          have := shOK_ptr hs
          subst this
          obtain ⟨c', _, rfl⟩ := ha.ptr_inv
          rw [hb.nilp_inv]
          exact ⟨run_equal_p2 w hd _, fun op => run_eqGuard_plain (by simp) (by simp), fun op ho => by rcases ho with rfl | rfl <;> rfl⟩
        · cases hc
          obtain ⟨m, m', m'', rfl⟩ := shOK_func hs
          rw [ha.nilf_inv, hb.nilf_inv]
          exact ⟨run_equal_f0 w hd, fun op => run_eqGuard_plain (by simp) (by simp), fun op ho => by rcases ho with rfl | rfl <;> rfl⟩
        · cases hc
          obtain ⟨m, m', m'', rfl⟩ := shOK_func hs
          obtain ⟨p, q, _, _, _, _, rfl⟩ := ha.func_inv
          rw [hb.nilf_inv]
          exact ⟨run_equal_f1 w hd _ _ _, fun op => run_eqGuard_plain (by simp) (by simp), fun op ho => by rcases ho with rfl | rfl <;> rfl⟩
        · simp at hc
      split at h
      · obtain ⟨c, hc, h⟩ := Option.bind_eq_some_iff.1 h
        obtain ⟨h1, h2, h3⟩ := go hc
        exact ⟨_, _, h, by simp only [Sem.run_bind, h2, Result.andThen_ok, h3 _ (.inl rfl), h1, Sem.run_pure], .data _ _ (.bool c)⟩
      · obtain ⟨c, hc, h⟩ := Option.bind_eq_some_iff.1 h
        obtain ⟨h1, h2, h3⟩ := go hc
        exact ⟨_, _, h, by simp only [Sem.run_bind, h2, Result.andThen_ok, h3 _ (.inr rfl), h1, Sem.run_pure], .data _ _ (.bool _)⟩
      · simp at h
    · simp at h
end Go.Sx
