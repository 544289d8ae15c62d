/-
  SX: a symbolic evaluator over the model and its soundness: part 4 of 4.
-/
import Derived.Test.YtcpabdpbldmmmaaGreatDoorSxBaseC
import Derived.SizedLaws
import Derived.ChangeArms
import Derived.ProofKit
import Derived.IntWalk
import Derived.Laws.StructEq
import Derived.ChangeKeysEq
set_option linter.unusedVariables false
set_option linter.unusedSimpArgs false
namespace Go.Sx
open Go
open Go.RowKit (Below)
variable {P : Program} {E : Env} {base : Nat} {w0 : GW} {ok : Nat → Prop} {en : Ent} {G G' : Gam} {s : St} {a : Act} {w w' : GW} {R : Type} {M : Mem}
theorem Rel.frz1D (h : Rel E base w0 ok en G s a w) (v : AV) : ∃ G', Rel E base w0 ok en G' { s with M := Sx.frz1 s.M v } a w ∧ G'.σ = G.σ ∧ ∀ c, G.D c → G'.D c := by
 cases v with
 | vec b => exact h.freezeD b
 | vsl b i j => exact h.freezeD b
 | _ => exact ⟨G, h, rfl, fun _ h => h⟩
theorem Rel.frzsD : ∀ (vs : List AV) {s : St} {G : Gam}, Rel E base w0 ok en G s a w → ∃ G', Rel E base w0 ok en G' { s with M := Sx.frzs s.M vs } a w ∧ G'.σ = G.σ ∧ ∀ c, G.D c → G'.D c
 | [], s, G, h => ⟨G, h, rfl, fun _ h => h⟩
 | v :: r, s, G, h => by
   obtain ⟨G1, h1, e1, d1⟩ := h.frz1D v
   obtain ⟨G2, h2, e2, d2⟩ := Rel.frzsD r h1
   exact ⟨G2, h2, e2.trans e1, fun c hc => d2 c (d1 c hc)⟩
theorem Rel.frzD (h : Rel E base w0 ok en G s a w) (v : AV) : ∃ G', Rel E base w0 ok en G' { s with M := Sx.frz s.M v } a w ∧ G'.σ = G.σ ∧ ∀ c, G.D c → G'.D c := by
 unfold Sx.frz
 split
 ·exact Rel.frzsD _ h
 ·exact h.frz1D _
theorem Rel.frzArgsD : ∀ (vs : List AV) {s : St} {G : Gam}, Rel E base w0 ok en G s a w → ∃ G', Rel E base w0 ok en G' { s with M := Sx.frzArgs s.M vs } a w ∧ G'.σ = G.σ ∧ ∀ c, G.D c → G'.D c
 | [], s, G, h => ⟨G, h, rfl, fun _ h => h⟩
 | v :: r, s, G, h => by
   obtain ⟨G1, h1, e1, d1⟩ := h.frzD v
   obtain ⟨G2, h2, e2, d2⟩ := Rel.frzArgsD r h1
   exact ⟨G2, h2, e2.trans e1, fun c hc => d2 c (d1 c hc)⟩
theorem qa5 {v v' : AV} {x : Value} (h : Rel E base w0 ok en G s a w) (hv : VR G.D G.σ w v x) (hd : qx.dataRes (qx.frzRes s.M v) v = some v') : ∃ G', Rel E base w0 ok en G' { s with M := qx.frzRes s.M v } a w ∧ DR G'.D w v' x := by
 unfold qx.dataRes at hd
 split at hd
 ·rename_i vs
  obtain ⟨G1, h1, e1, d1⟩ := h.frzArgsD vs
  obtain ⟨us, hus, hd⟩ := Option.bind_eq_some_iff.1 hd
  cases hd
  refine ⟨G1, h1, ?_⟩
  obtain ⟨l1, l2⟩ := jW h1.mem hus
  obtain ⟨xs, x1, x2, rfl⟩ := hv.tup_inv
  exact .tup us xs (by omega) fun i a1 a2 => l2 i (by omega) a1 _ ((x2 i (by omega) a2).grow (fun c hc => ⟨d1 c hc, rfl⟩) (fun _ _ => by rw [e1]))
 ·rename_i hne
  have e : qx.frzRes s.M v = Sx.frz s.M v := by
   unfold qx.frzRes
   cases v <;> first | rfl | exact absurd rfl (hne _)
  rw [e] at hd ⊢
  obtain ⟨G1, h1, e1, d1⟩ := h.frzD v
  exact ⟨G1, h1, kl h1.mem (hv.grow (fun c hc => ⟨d1 c hc, rfl⟩) (fun _ _ => by rw [e1])) hd⟩
theorem VA (hE : EnvOK P E) {H : Hints} (hin : ∀ f fn c, look E.inl f = some fn → fn.body = some c → ToldC E H f c) {f : Nat} {fn : Func} (hf : P.funcs[f]? = some fn) (htold : ∀ c, fn.body = some c → ToldC E H f c) {args : List AV} {fin : AV → Option R} {r : R} (h : qx E H f fn args fin = some r) :
  ∀ (ok : Nat → Prop) (w : GW) (xs : List Value), (∀ c, ok c → c < w.heap.size) → GOK E.glob w.heap.size ok w → DRs ok w args xs →
  Calls P f xs.toArray w fun e w' => ∃ v cv, fin v = some r ∧ e = .returned cv ∧ Below w.heap.size w w' ∧ DR (fun c => ok c ∨ (w.heap.size ≤ c ∧ c < w'.heap.size)) w' v cv := by
 intro ok w xs hok hgok hargs
 unfold qx at h
 split at h
 ·rename_i c hc
  rw [JO, gx] at h
  refine calls_of_wp hf hc ?_
  let G0 : Gam := ⟨fun _ => .none, ok⟩
  let en : Ent := (G0, w, [], 0)
  have hrel : Rel E w.heap.size w ok en G0 { T := args ++ List.replicate (fn.ntmps - args.length) .junk, M := [], lock := [], lo := 0 } { tmps := xs.toArray ++ Array.replicate (fn.ntmps - xs.toArray.size) undef, defers := [] } w := by
   have hl := hargs.1
   refine ⟨rfl, by simp [hl], fun t v ht => ?_, ⟨fun b x hb => by simp at hb, fun b x c hb => by simp at hb, fun b b' x x' c hb => by simp at hb, hok, fun c hc => .inl hc, fun _ _ => rfl⟩, Below.refl _ _, hgok, Nat.le_refl _, fun c hc => ⟨hc, rfl⟩, fun b hb => by simp at hb, Nat.le_refl _, ⟨rfl, rfl⟩⟩
   have ht' : (args ++ List.replicate (fn.ntmps - args.length) AV.junk)[t]? = some v := ht
   rw [List.getElem?_append] at ht'
   split at ht'
   ·rename_i hlt
    rw [List.getElem?_eq_getElem hlt] at ht'
    cases ht'
    have hlt2 : t < xs.length := by omega
    have := hargs.2 t hlt hlt2
    have e : (xs.toArray ++ Array.replicate (fn.ntmps - xs.toArray.size) undef).getD t undef = xs[t]'hlt2 := by
     simp [Array.getD_eq_getD_getElem?, Array.getElem?_append, hlt2]
    rw [e]
    exact .data _ _ this
   ·rw [List.getElem?_replicate] at ht'
    split at ht'
    ·cases ht'; exact .junk _
    ·cases ht'
  have fin' : ∀ (s' : St) (G' : Gam) (a' : Act) (w' : GW), ((gr E fn s').bind fun v => (qx.dataRes (qx.frzRes s'.M v) v).bind fin) = some r → Rel E w.heap.size w ok en G' s' a' w' →
    a'.defers = [] ∧ ∃ v, (results fn a'.tmps).run P w' = .ok v w' ∧ ∃ v1 cv, fin v1 = some r ∧ Ending.returned v = .returned cv ∧ Below w.heap.size w w' ∧ DR (fun c => ok c ∨ (w.heap.size ≤ c ∧ c < w'.heap.size)) w' v1 cv := by
   intro s' G' a' w' hk h'
   obtain ⟨v, hv, hk⟩ := Option.bind_eq_some_iff.1 hk
   obtain ⟨v', hv', hk⟩ := Option.bind_eq_some_iff.1 hk
   obtain ⟨x, hx1, hx2⟩ := QC hE h' hv
   obtain ⟨G2, h2, hdr⟩ := qa5 h' hx2 hv'
   refine ⟨h'.defers, x, hx1, v', x, hk, rfl, h2.below, hdr.mono fun c hc => ⟨?_, rfl⟩⟩
   rcases h2.mem.dok c hc with h3 | h3
   ·exact .inl h3
   ·exact .inr ⟨h3, h2.mem.dlt c hc⟩
  refine VB hE hin 400 R f c _ _ r en G0 _ w _ (htold c hc) h hrel fun e s' G' a' w' hk h' => ?_
  cases e with
  | normal => exact fin' s' G' a' w' hk h'
  | ret => exact fin' s' G' a' w' hk h'
  | exit i => cases hk
  | goto l => cases hk
 ·cases h
theorem Mh (hE : EnvOK P E) {H : Hints} (hin : ∀ f fn c, look E.inl f = some fn → fn.body = some c → ToldC E H f c) {f : Nat} {fn : Func} (hf : P.funcs[f]? = some fn) (htold : ∀ c, fn.body = some c → ToldC E H f c) {args : List AV} {kd : Kd} {fin : List kd.T → Option R} {r : R} (h : Mi E H f fn args kd fin = some r) :
  ∀ (ok : Nat → Prop) (w : GW) (xs : List Value), (∀ c, ok c → c < w.heap.size) → GOK E.glob w.heap.size ok w → DRs ok w args xs →
  Calls P f xs.toArray w fun e w' => ∃ l, fin l = some r ∧ ∃ (A : Option Nat) (cap : Nat), e = .returned (.slice (A.map blkA) l.length cap) ∧ Below w.heap.size w w' ∧ l.length ≤ cap ∧ (A = none → l = [] ∧ cap = 0) ∧
   ∀ c, A = some c → w.heap.size ≤ c ∧ c < w'.heap.size ∧ ∃ vs t, w'.heap[c]? = some (.cells vs t (0, 0)) ∧ vs.size = cap * kd.size ∧ (∀ v ∈ vs.toList, v.oneCell' = true) ∧
    ∀ i (h : i < l.length) j (hj : j < (kd.cells l[i]).length), DR (fun q => ok q ∨ (w.heap.size ≤ q ∧ q < w'.heap.size ∧ q ≠ c)) w' ((kd.cells l[i])[j]) (vs.getD (i * kd.size + j) undef) := by
 intro ok w xs hok hgok hargs
 unfold Mi at h
 split at h
 ·rename_i c hc
  rw [JO, gx] at h
  refine calls_of_wp hf hc ?_
  let G0 : Gam := ⟨fun _ => .none, ok⟩
  let en : Ent := (G0, w, [], 0)
  have hrel : Rel E w.heap.size w ok en G0 { T := args ++ List.replicate (fn.ntmps - args.length) .junk, M := [], lock := [], lo := 0 } { tmps := xs.toArray ++ Array.replicate (fn.ntmps - xs.toArray.size) undef, defers := [] } w := by
   have hl := hargs.1
   refine ⟨rfl, by simp [hl], fun t v ht => ?_, ⟨fun b x hb => by simp at hb, fun b x c hb => by simp at hb, fun b b' x x' c hb => by simp at hb, hok, fun c hc => .inl hc, fun _ _ => rfl⟩, Below.refl _ _, hgok, Nat.le_refl _, fun c hc => ⟨hc, rfl⟩, fun b hb => by simp at hb, Nat.le_refl _, ⟨rfl, rfl⟩⟩
   have ht' : (args ++ List.replicate (fn.ntmps - args.length) AV.junk)[t]? = some v := ht
   rw [List.getElem?_append] at ht'
   split at ht'
   ·rename_i hlt
    rw [List.getElem?_eq_getElem hlt] at ht'
    cases ht'
    have hlt2 : t < xs.length := by omega
    have := hargs.2 t hlt hlt2
    have e : (xs.toArray ++ Array.replicate (fn.ntmps - xs.toArray.size) undef).getD t undef = xs[t]'hlt2 := by
     simp [Array.getD_eq_getD_getElem?, Array.getElem?_append, hlt2]
    rw [e]
    exact .data _ _ this
   ·rw [List.getElem?_replicate] at ht'
    split at ht'
    ·cases ht'; exact .junk _
    ·cases ht'
  have fin' : ∀ (s' : St) (G' : Gam) (a' : Act) (w' : GW), ((gr E fn s').bind fun v => D7 kd s'.M v fin) = some r → Rel E w.heap.size w ok en G' s' a' w' →
    a'.defers = [] ∧ ∃ v, (results fn a'.tmps).run P w' = .ok v w' ∧ ∃ l, fin l = some r ∧ ∃ (A : Option Nat) (cap : Nat), Ending.returned v = .returned (.slice (A.map blkA) l.length cap) ∧ Below w.heap.size w w' ∧ l.length ≤ cap ∧ (A = none → l = [] ∧ cap = 0) ∧
   ∀ c, A = some c → w.heap.size ≤ c ∧ c < w'.heap.size ∧ ∃ vs t, w'.heap[c]? = some (.cells vs t (0, 0)) ∧ vs.size = cap * kd.size ∧ (∀ v ∈ vs.toList, v.oneCell' = true) ∧
    ∀ i (h : i < l.length) j (hj : j < (kd.cells l[i]).length), DR (fun q => ok q ∨ (w.heap.size ≤ q ∧ q < w'.heap.size ∧ q ≠ c)) w' ((kd.cells l[i])[j]) (vs.getD (i * kd.size + j) undef) := by
   intro s' G' a' w' hk h'
   obtain ⟨v, hv, hk⟩ := Option.bind_eq_some_iff.1 hk
   obtain ⟨x, hx1, hx2⟩ := QC hE h' hv
   refine ⟨h'.defers, x, hx1, ?_⟩
   unfold D7 at hk
   split at hk
   ·rw [hx2.nilsl_inv]
    exact ⟨[], hk, none, 0, rfl, h'.below, Nat.le_refl _, fun _ => ⟨rfl, rfl⟩, fun c hc => by cases hc⟩
   ·rename_i b
    split at hk
    ·rename_i e l hb
     split at hk
     ·rename_i he
      subst he
      obtain ⟨A, len, cap, sz, hσ, rfl⟩ := hx2.vec_inv
      obtain ⟨A', cap', h1, h2, h3, h4⟩ := h'.mem.blocks b _ hb
      rw [hσ] at h1
      cases h1
      refine ⟨l, hk, A, cap, rfl, h'.below, h2, h3, fun c hc => ?_⟩
      obtain ⟨o1, o2, o3⟩ := h'.mem.own b _ c hb (by rw [hσ]; exact hc)
      obtain ⟨vs, t, g1, g2, g3, g4⟩ := h4 c hc
      refine ⟨o1, o2, vs, t, g1, g2, g3, fun i hi j hj => (g4 i hi j hj).mono fun q hq => ⟨?_, rfl⟩⟩
      rcases h'.mem.dok q hq with h5 | h5
      ·exact .inl h5
      ·exact .inr ⟨h5, h'.mem.dlt q hq, fun e => o3 (e ▸ hq)⟩
     ·cases hk
    ·cases hk
   ·cases hk
  refine VB hE hin 400 R f c _ _ r en G0 _ w _ (htold c hc) h hrel fun e s' G' a' w' hk h' => ?_
  cases e with
  | normal => exact fin' s' G' a' w' hk h'
  | ret => exact fin' s' G' a' w' hk h'
  | exit i => cases hk
  | goto l => cases hk
 ·cases h
end Go.Sx
namespace Go.Sx
open Go
open Go.RowKit (Below)
def SN.kds : SN → List Kd
 | .place => [.int .i64, .int .i64]
 | .seen => [.int .i64, .int .i64, .int .i64]
 | .exits => [.int .i64, .int .i64, .int .i64, .int .i64]
 | .desc => [.sl (.st .exits), .sl (.int .i64), .sl (.int .i64), .sl (.int .i64), .sl .bool, .int .i64, .int .i64, .int .i64]
 | .world => [.sl (.st .exits), .sl (.int .i64), .sl (.int .i64), .sl (.int .i64), .sl .bool, .int .i64, .int .i64, .int .i64, .sl (.int .i64), .sl (.int .i64), .sl (.st .place)]
 | .key => [.int .i64, .int .i64]
 | .write => [.int .i64, .int .i64, .int .i64, .int .i64, .int .i64]
 | .cmd => [.int .i64, .int .i64, .int .i64, .int .i64, .int .i64, .sl (.int .i64), .int .i64, .sl (.int .i64), .int .i64]
 | .reply => [.int .i64, .int .i64, .int .i64, .sl (.int .i64), .sl (.st .seen), .int .i64]
 | .sess => [.int .i64, .sl .str, .int .i64, .int .i64, .int .i64, .int .i64, .int .i64, .int .i64, .int .i64, .int .i64, .sl (.int .i64), .int .i64, .sl (.int .i64), .int .i64,
   .sl (.st .key), .int .i64, .sl (.st .write), .int .i64, .int .i64, .int .i64, .sl (.int .i64), .sl (.st .seen), .int .i64, .bool, .int .i64, .int .i64, .int .i64, .sl (.st .place), .sl (.int .i64), .int .i64]
 | .call => [.int .i64, .int .i64, .int .i64, .int .i64, .int .i64, .int .i64, .sl (.int .i64), .int .i64, .sl (.int .i64), .int .i64, .int .i64, .int .i64, .int .i64, .int .i64, .int .i64, .sl (.int .i64), .sl (.st .seen), .int .i64]
 | .script => [.int .i64, .sl .str]
def SN.bytes : SN → Nat
 | .place => 16 | .seen => 24 | .exits => 32 | .desc => 144 | .world => 216 | .key => 16 | .write => 40 | .cmd => 104 | .reply => 80 | .sess => 392 | .call => 208 | .script => 32
def Kd.bytes : Kd → Nat
 | .int k => k.bits / 8
 | .bool => 1
 | .str => 16
 | .sl _ => 24
 | .st s => s.bytes
@[reducible] def Lf : List Kd → Type
  | [] => Unit
  | k :: r => k.T × Lf r
def cellsL : (ks : List Kd) → Lf ks → List AV
 | [], _ => []
 | k :: r, x => k.of x.1 :: cellsL r x.2
def SN.mk : (s : SN) → Lf s.kds → s.T
 | .place, x => (⟨x.1, x.2.1⟩ : Place)
 | .seen, x => (⟨x.1, ⟨x.2.1, x.2.2.1⟩⟩ : Seen)
 | .exits, x => (⟨x.1, x.2.1, x.2.2.1, x.2.2.2.1⟩ : Exits)
 | .desc, x => (⟨x.1, x.2.1, x.2.2.1, x.2.2.2.1, x.2.2.2.2.1, x.2.2.2.2.2.1, x.2.2.2.2.2.2.1, x.2.2.2.2.2.2.2.1⟩ : Desc)
 | .world, (a, b, c, d, e, f, g, h, i, j, l, _) => (⟨⟨a, b, c, d, e, f, g, h⟩, i, j, l⟩ : Sx.World)
 | .key, x => (⟨x.1, x.2.1⟩ : Key)
 | .write, (a, b, c, d, e, _) => (⟨a, b, c, ⟨d, e⟩⟩ : Write)
 | .cmd, (a, b, c, d, e, f, g, h, i, _) => (⟨a, b, c, d, e, f, g, h, i⟩ : Cmd)
 | .reply, (a, b, c, d, e, f, _) => (⟨a, b, c, d, e, f⟩ : Reply)
 | .sess, (a, b, c, d, e, f1, f2, f3, f4, f5, f6, f7, f8, f9, g, h, i, r1, r2, r3, r4, r5, r6, j, l, m, n, o, p, q, _) => (⟨a, b, c, d, e, ⟨f1, f2, f3, f4, f5, f6, f7, f8, f9⟩, g, h, i, ⟨r1, r2, r3, r4, r5, r6⟩, j, l, m, n, o, p, q⟩ : Sess)
 | .call, (a, f1, f2, f3, f4, f5, f6, f7, f8, f9, g, h, r1, r2, r3, r4, r5, r6, _) => (⟨a, ⟨f1, f2, f3, f4, f5, f6, f7, f8, f9⟩, g, h, ⟨r1, r2, r3, r4, r5, r6⟩⟩ : Sx.Call)
 | .script, x => (⟨x.1, x.2.1⟩ : Script)
def SN.flds : (s : SN) → s.T → Lf s.kds
 | .place, (y : Place) => (y.kind, y.id, ())
 | .seen, (y : Seen) => (y.item, y.at_.kind, y.at_.id, ())
 | .exits, (y : Exits) => (y.e0, y.e1, y.e2, y.e3, ())
 | .desc, (y : Desc) => (y.exits, y.players, y.coins, y.items, y.boxes, y.room, y.player, y.box, ())
 | .world, (y : Sx.World) => (y.desc.exits, y.desc.players, y.desc.coins, y.desc.items, y.desc.boxes, y.desc.room, y.desc.player, y.desc.box, y.at_, y.coins, y.where_, ())
 | .key, (y : Key) => (y.kind, y.id, ())
 | .write, (y : Write) => (y.kind, y.id, y.num, y.place.kind, y.place.id, ())
 | .cmd, (y : Cmd) => (y.kind, y.dir, y.item, y.box, y.who, y.gives, y.pay, y.wants, y.fee, ())
 | .reply, (y : Reply) => (y.err, y.kind, y.room, y.players, y.items, y.coins, ())
 | .sess, (s : Sess) => (s.player, s.lines, s.next, s.phase, s.step, s.cmd.kind, s.cmd.dir, s.cmd.item, s.cmd.box, s.cmd.who, s.cmd.gives, s.cmd.pay, s.cmd.wants, s.cmd.fee, s.foot, s.has, s.plan,
   s.reply.err, s.reply.kind, s.reply.room, s.reply.players, s.reply.items, s.reply.coins, s.stale, s.tries, s.ver, s.room, s.copies, s.heads, s.purse, ())
 | .call, (c : Sx.Call) => (c.player, c.cmd.kind, c.cmd.dir, c.cmd.item, c.cmd.box, c.cmd.who, c.cmd.gives, c.cmd.pay, c.cmd.wants, c.cmd.fee, c.frm, c.to, c.reply.err, c.reply.kind, c.reply.room, c.reply.players, c.reply.items, c.reply.coins, ())
 | .script, (y : Script) => (y.player, y.lines, ())
theorem SN.cells_mk (s : SN) (x : Lf s.kds) : s.cells (s.mk x) = cellsL s.kds x := by cases s <;> rfl
theorem SN.flds_mk (s : SN) (x : Lf s.kds) : s.flds (s.mk x) = x := by cases s <;> rfl
def Kd.kdl : Kd → List Kd
 | .st s => s.kds
 | k => [k]
def Kd.mk : (k : Kd) → Lf k.kdl → k.T
 | .st s, x => s.mk x
 | .int _, x => x.1
 | .bool, x => x.1
 | .str, x => x.1
 | .sl _, x => x.1
def Kd.flds : (k : Kd) → k.T → Lf k.kdl
 | .st s, y => s.flds y
 | .int _, y => (y, ())
 | .bool, y => (y, ())
 | .str, y => (y, ())
 | .sl _, y => (y, ())
theorem Kd.cells_mk (k : Kd) (x : Lf k.kdl) : k.cells (k.mk x) = cellsL k.kdl x := by
 cases k with
 | st s => exact SN.cells_mk s x
 | _ => rfl
theorem Kd.flds_mk (k : Kd) (x : Lf k.kdl) : k.flds (k.mk x) = x := by
 cases k with
 | st s => exact SN.flds_mk s x
 | _ => rfl
def wfL (p : (k : Kd) → k.T → Prop) : (ks : List Kd) → Lf ks → Prop
 | [], _ => True
 | k :: r, x => p k x.1 ∧ wfL p r x.2
def wf : Nat → (k : Kd) → k.T → Prop
 | 0, _, _ => True
 | _ + 1, .int k, n => k.min ≤ n ∧ n ≤ k.max
 | _ + 1, .str, s => s.length ≤ reachBytes
 | n + 1, .sl e, l => l.length * e.bytes ≤ reachBytes ∧ ∀ y ∈ l, wfL (wf n) e.kdl (e.flds y)
 | _ + 1, _, _ => True
def lf (P : Program) : Nat → TypeId → List Kd → Option (List Kd)
 | 0, _, _ => none
 | n + 1, t, ks => match P.underlying t with
   | some (.struct fs) => match fs.toList.foldlM (fun (st : Nat × List Kd) f => bif Nat.beq f.offset st.1 then (lf P n f.type st.2).map (fun r => (st.1 + P.cellsOf f.type, r)) else none) (0, ks) with
     | some st => bif Nat.beq st.1 (P.cellsOf t) then some st.2 else none
     | none => none
   | some (.array m e) => bif Nat.beq (P.cellsOf t) (m * P.cellsOf e) then (List.range m).foldlM (fun r _ => lf P n e r) ks else none
   | some (.int k) => match ks with
     | .int k' :: r => bif decide (k' = k) then some r else none
     | _ => none
   | some .bool => match ks with
     | .bool :: r => some r
     | _ => none
   | some .string => match ks with
     | .str :: r => some r
     | _ => none
   | some (.slice et) => match ks with
     | .sl e :: r => bif Nat.beq (P.cellsOf et) e.size && Nat.beq (P.bytesOf et) e.bytes && (match lf P n et e.kdl with | some [] => true | _ => false) then some r else none
     | _ => none
   | _ => none
variable {P : Program} {H : Type} {enc : TypeId × Value → H} {w : GW} {spare : Nat → Bool} {held : Bool}
def Lf.app : (ks : List Kd) → {ls : List Kd} → Lf ks → Lf ls → Lf (ks ++ ls)
 | [], _, _, y => y
 | _ :: r, _, x, y => (x.1, Lf.app r x.2 y)
theorem Zg : ∀ (ks : List Kd) {ls : List Kd} (x : Lf ks) (y : Lf ls), cellsL (ks ++ ls) (Lf.app ks x y) = cellsL ks x ++ cellsL ls y
 | [], _, _, _ => rfl
 | k :: r, ls, x, y => by
   show k.of x.1 :: cellsL (r ++ ls) (Lf.app r x.2 y) = _
   rw [Zg r x.2 y]; rfl
theorem BX {p : (k : Kd) → k.T → Prop} : ∀ (ks : List Kd) {ls : List Kd} (x : Lf ks) (y : Lf ls), wfL p ks x → wfL p ls y → wfL p (ks ++ ls) (Lf.app ks x y)
 | [], _, _, _, _, h => h
 | _ :: r, _, x, y, h1, h2 => ⟨h1.1, BX r x.2 y h1.2 h2⟩
def There (w : GW) : Nat → Prop := fun c => c < w.heap.size
theorem LR.nil {R : AV → Value → Prop} : LR R [] [] := ⟨rfl, fun i h => by simp at h⟩
theorem LR.one {R : AV → Value → Prop} {v : AV} {x : Value} (h : R v x) (ho : x.oneCell' = true) : LR R [v] [x] :=
 ⟨rfl, fun i h1 h2 => by have : i = 0 := by simp at h1; exact h1
                         subst this; exact ⟨ho, h⟩⟩
end Go.Sx
namespace Go.Sx
open Go
open Go.RowKit (Below)
variable {P : Program} {H : Type} {enc : TypeId × Value → H} {w : GW} {spare : Nat → Bool} {held : Bool}
theorem V9 {α : Type} (Q : Nat → α → Prop) : ∀ n, (∀ i, i < n → ∃ y, Q i y) → ∃ l : List α, l.length = n ∧ ∀ i (h : i < l.length), Q i l[i]
 | 0, _ => ⟨[], rfl, fun i h => by simp at h⟩
 | n + 1, h => by
   obtain ⟨l, hl, hq⟩ := V9 Q n fun i hi => h i (by omega)
   obtain ⟨y, hy⟩ := h n (by omega)
   refine ⟨l ++ [y], by simp [hl], fun i hi => ?_⟩
   by_cases e : i < l.length
   ·rw [List.getElem_append_left e]; exact hq i e
   ·have : i = n := by simp at hi; omega
    subst this
    rw [List.getElem_append_right (by omega)]
    simpa [hl] using hy
theorem all_append {a b : List Nat} (h : (a ++ b).all (· ≤ reachBytes) = true) : a.all (· ≤ reachBytes) = true ∧ b.all (· ≤ reachBytes) = true := by
 rw [List.all_append, Bool.and_eq_true] at h; exact h
theorem Qz {e : TypeId} : ∀ (ds : List (DataW H)), (DataW.weightsAll P e ds).all (· ≤ reachBytes) = true → ∀ i (h : i < ds.length), ((ds[i]).weights P e).all (· ≤ reachBytes) = true
 | [], _, i, h => by simp at h
 | d :: r, h, i, hi => by
   unfold DataW.weightsAll at h
   obtain ⟨h1, h2⟩ := all_append h
   cases i with
   | zero => exact h1
   | succ i => exact Qz r h2 i (by simpa using hi)
theorem qkm (k : Kd) : 0 < k.size := by
 cases k with
 | st s => cases s <;> decide
 | _ => exact Nat.one_pos
theorem Nz {α β : Type} {f : α → Option β} : ∀ {l : List α} {r : List β}, l.mapM f = some r → r.length = l.length ∧ ∀ i (h : i < l.length) (h' : i < r.length), f l[i] = some r[i]
 | [], r, h => by simp at h; subst h; exact ⟨rfl, fun i h => by simp at h⟩
 | x :: l, r, h => by
   rw [List.mapM_cons] at h
   simp only [Option.bind_eq_bind, Option.bind_eq_some_iff, Option.pure_def, Option.some.injEq] at h
   obtain ⟨y, hy, s, hs, rfl⟩ := h
   obtain ⟨h1, h2⟩ := Nz hs
   refine ⟨by simp [h1], fun i a b => ?_⟩
   cases i with
   | zero => exact hy
   | succ i => exact h2 i (by simpa using a) (by simpa using b)
theorem GO {α : Type} (l : List α) (a b : Nat) : l.take (a + b) = l.take a ++ (l.drop a).take b := by
 rw [List.take_add]
def LfOK (P : Program) (H : Type) (enc : TypeId × Value → H) (w : GW) (spare : Nat → Bool) (held : Bool) (n : Nat) : Prop :=
 ∀ (t : TypeId) (ks r : List Kd) (fuel : Nat) (cs : List Value) (x : DataW H × List MemPlace), lf P n t ks = some r → DataW.trod enc P w 0 spare held fuel t cs = some x → (x.1.weights P t).all (· ≤ reachBytes) = true →
  ∃ us, ∃ y : Lf us, ks = us ++ r ∧ LR (DR (There w) w) (cellsL us y) cs ∧ ∀ m, wfL (wf m) us y
theorem ZT {n : Nat} (ih : LfOK P H enc w spare held n) {m : Nat} {cs : List Value} : ∀ (fs : List Field) (xs : List (DataW H × List MemPlace)) (off off' : Nat) (ks r : List Kd),
  fs.foldlM (fun (st : Nat × List Kd) f => bif Nat.beq f.offset st.1 then (lf P n f.type st.2).map (fun r => (st.1 + P.cellsOf f.type, r)) else none) (off, ks) = some (off', r) →
  fs.length = xs.length → (∀ i (h : i < fs.length) (h' : i < xs.length), DataW.trod enc P w 0 spare held m fs[i].type ((cs.drop fs[i].offset).take (P.cellsOf fs[i].type)) = some xs[i]) →
  (DataW.weightsEach P (fs.map (·.type)) (xs.map (·.1))).all (· ≤ reachBytes) = true →
  off ≤ off' ∧ ∃ us, ∃ y : Lf us, ks = us ++ r ∧ LR (DR (There w) w) (cellsL us y) ((cs.drop off).take (off' - off)) ∧ ∀ m, wfL (wf m) us y
 | [], xs, off, off', ks, r, h, _, _, _ => by
   simp at h
   obtain ⟨rfl, rfl⟩ := h
   exact ⟨Nat.le_refl _, [], (), rfl, by simp only [Nat.sub_self, List.take_zero]; exact LR.nil, fun _ => trivial⟩
 | f :: fs, [], off, off', ks, r, _, hl, _, _ => by simp at hl
 | f :: fs, x :: xs, off, off', ks, r, h, hl, htr, hw => by
   rw [List.foldlM_cons] at h
   simp only [Option.bind_eq_bind, Option.bind_eq_some_iff] at h
   obtain ⟨st, h1, h2⟩ := h
   replace h1 := qr h1
   obtain ⟨hb, h1⟩ := h1
   obtain ⟨r1, h3, h4⟩ := Option.map_eq_some_iff.1 h1
   subst h4
   have hoff : f.offset = off := Nat.eq_of_beq_eq_true hb
   simp only [List.map_cons] at hw
   unfold DataW.weightsEach at hw
   obtain ⟨w1, w2⟩ := all_append hw
   have ht := htr 0 (by simp) (by simp)
   simp only [List.getElem_cons_zero] at ht
   obtain ⟨us, y, e1, e2, e3⟩ := ih f.type ks r1 m _ x h3 ht w1
   obtain ⟨g0, vs, z, g1, g2, g3⟩ := ZT ih fs xs (off + P.cellsOf f.type) off' r1 r h2 (by simpa using hl) (fun i hi hi' => by
    have := htr (i + 1) (by simpa using hi) (by simpa using hi')
    simpa using this) w2
   refine ⟨by omega, us ++ vs, Lf.app us y z, by rw [e1, g1, List.append_assoc], ?_, fun m => BX us y z (e3 m) (g3 m)⟩
   rw [Zg, show off' - off = P.cellsOf f.type + (off' - (off + P.cellsOf f.type)) by omega, GO]
   rw [hoff] at e2
   refine e2.append ?_
   rw [List.drop_drop]
   exact g2
theorem VC {n : Nat} (ih : LfOK P H enc w spare held n) {m : Nat} {e : TypeId} {cs : List Value} : ∀ (q k : Nat) (xs : List (DataW H × List MemPlace)) (ks r : List Kd),
  (List.range' k q).foldlM (fun r _ => lf P n e r) ks = some r → xs.length = q → (∀ i (h : i < xs.length), DataW.trod enc P w 0 spare held m e ((cs.drop ((k + i) * P.cellsOf e)).take (P.cellsOf e)) = some xs[i]) →
  (DataW.weightsAll P e (xs.map (·.1))).all (· ≤ reachBytes) = true →
  ∃ us, ∃ y : Lf us, ks = us ++ r ∧ LR (DR (There w) w) (cellsL us y) ((cs.drop (k * P.cellsOf e)).take (q * P.cellsOf e)) ∧ ∀ m, wfL (wf m) us y
 | 0, k, xs, ks, r, h, _, _, _ => by
   simp at h
   subst h
   exact ⟨[], (), rfl, by simp only [Nat.zero_mul, List.take_zero]; exact LR.nil, fun _ => trivial⟩
 | q + 1, k, [], ks, r, _, hl, _, _ => by simp at hl
 | q + 1, k, x :: xs, ks, r, h, hl, htr, hw => by
   rw [List.range'_succ, List.foldlM_cons] at h
   simp only [Option.bind_eq_bind, Option.bind_eq_some_iff] at h
   obtain ⟨r1, h3, h2⟩ := h
   simp only [List.map_cons] at hw
   unfold DataW.weightsAll at hw
   obtain ⟨w1, w2⟩ := all_append hw
   have ht := htr 0 (by simp)
   simp only [List.getElem_cons_zero, Nat.add_zero] at ht
   obtain ⟨us, y, e1, e2, e3⟩ := ih e ks r1 m _ x h3 ht w1
   obtain ⟨vs, z, g1, g2, g3⟩ := VC ih q (k + 1) xs r1 r h2 (by simpa using hl) (fun i hi => by
    have := htr (i + 1) (by simpa using hi)
    rw [show k + (i + 1) = k + 1 + i by omega] at this
    simpa using this) w2
   refine ⟨us ++ vs, Lf.app us y z, by rw [e1, g1, List.append_assoc], ?_, fun m => BX us y z (e3 m) (g3 m)⟩
   rw [Zg, show (q + 1) * P.cellsOf e = P.cellsOf e + q * P.cellsOf e by rw [Nat.add_mul]; omega, GO]
   refine e2.append ?_
   rw [List.drop_drop, show k * P.cellsOf e + P.cellsOf e = (k + 1) * P.cellsOf e by rw [Nat.add_mul]; omega]
   exact g2
theorem ML {t e : TypeId} {m fuel : Nat} {cs : List Value} {x : DataW H × List MemPlace} (ht : P.underlying t = some (.array m e)) (h : DataW.trod enc P w 0 spare held fuel t cs = some x) :
  ∃ (xs : List (DataW H × List MemPlace)) (n : Nat), x = (.agg (xs.map (·.1)), xs.flatMap (·.2)) ∧ cs.length = P.cellsOf t ∧ ((List.range m).mapM fun i => DataW.trod enc P w 0 spare held n e ((cs.drop (i * P.cellsOf e)).take (P.cellsOf e))) = some xs := by
 cases fuel with
 | zero => simp [DataW.trod] at h
 | succ n =>
   unfold DataW.trod at h
   rw [ht] at h
   split at h <;> simp_all
   obtain ⟨hl, xs, h1, h2⟩ := h
   exact ⟨xs, h2.symm, n, h1⟩
theorem qki : ∀ n, LfOK P H enc w spare held n := by
 intro n
 induction n with
 | zero => intro t ks r fuel cs x h; simp [lf] at h
 | succ n ih =>
   intro t ks r fuel cs x h htr hw
   unfold lf at h
   split at h
   ·
    rename_i fs hu
    split at h
    ·rename_i st hst
     replace h := qr h
     obtain ⟨hb, h⟩ := h
     cases h
     obtain ⟨xs, m, _, rfl, hl, hxl, hget⟩ := DataW.trod_struct hu htr
     have hw' : (DataW.weightsEach P (fs.toList.map (·.type)) (xs.map (·.1))).all (· ≤ reachBytes) = true := by
      have := hw
      simp only [DataW.weights, hu] at this
      exact this
     obtain ⟨g0, us, y, g1, g2, g3⟩ := ZT ih fs.toList xs 0 st.1 ks st.2 hst (by simpa using hxl.symm) (fun i hi hi' => by
      have := hget i fs[i] (by simp at hi; simp [hi])
      rw [List.getElem?_eq_getElem hi'] at this
      simpa using this) hw'
     refine ⟨us, y, g1, ?_, g3⟩
     have hst1 := Nat.eq_of_beq_eq_true hb
     rw [hst1, ← hl] at g2
     simpa using g2
    ·simp at h
   ·
    rename_i m e hu
    replace h := qr h
    obtain ⟨hb, h⟩ := h
    have hcells := Nat.eq_of_beq_eq_true hb
    obtain ⟨xs, f, rfl, hl, hm⟩ := ML hu htr
    obtain ⟨m1, m2⟩ := Nz hm
    have hw' : (DataW.weightsAll P e (xs.map (·.1))).all (· ≤ reachBytes) = true := by
     have := hw
     simp only [DataW.weights, hu] at this
     exact this
    rw [List.range_eq_range'] at h
    obtain ⟨us, y, g1, g2, g3⟩ := VC ih m 0 xs ks r h (by simpa using m1) (fun i hi => by
     have := m2 i (by simp at m1 ⊢; omega) hi
     simpa using this) hw'
    refine ⟨us, y, g1, ?_, g3⟩
    rw [← hcells, ← hl] at g2
    simpa using g2
   ·
    rename_i k hu
    split at h
    ·rename_i k' r'
     replace h := qr h
     obtain ⟨hb, h⟩ := h
     have hk : k' = k := by simpa using hb
     subst hk
     cases h
     obtain ⟨m, rfl, rfl, hwf⟩ := DataW.trod_int hu htr
     refine ⟨[.int k'], (m, ()), rfl, LR.one (.int k' m) rfl, fun q => ⟨?_, trivial⟩⟩
     cases q with
     | zero => trivial
     | succ q =>
       simp only [Lit.wf, Bool.and_eq_true, decide_eq_true_eq] at hwf
       exact hwf
    ·simp at h
   ·
    rename_i hu
    split at h
    ·cases h
     obtain ⟨b, rfl, rfl⟩ := DataW.trod_bool hu htr
     refine ⟨[.bool], (b, ()), rfl, LR.one (.bool b) rfl, fun q => ⟨?_, trivial⟩⟩
     cases q <;> trivial
    ·simp at h
   ·
    rename_i hu
    split at h
    ·cases h
     obtain ⟨st, rfl, rfl, hm⟩ := DataW.trod_string hu htr
     refine ⟨[.str], (st.data.toList, ()), rfl, LR.one ?_ rfl, fun q => ⟨?_, trivial⟩⟩
     ·have := DR.str (D := There w) (w := w) st.data.toList
      rw [Array.toArray_toList] at this
      exact this
     ·cases q with
      | zero => trivial
      | succ q =>
        simp only [DataW.weights, List.all_cons, List.all_nil, Bool.and_true, decide_eq_true_eq] at hw
        exact hw
    ·simp at h
   ·
    rename_i et hu
    split at h
    ·rename_i e r'
     replace h := qr h
     obtain ⟨hb, h⟩ := h
     cases h
     simp only [Bool.and_eq_true] at hb
     obtain ⟨⟨hb1, hb2⟩, hb3⟩ := hb
     have hsz := Nat.eq_of_beq_eq_true hb1
     have hby := Nat.eq_of_beq_eq_true hb2
     have hlf : lf P n et e.kdl = some [] := by
      split at hb3
      ·assumption
      ·cases hb3
     rcases DataW.trod_slice hu htr with ⟨rfl, rfl⟩ | ⟨a, len, cap, elems, rest, m, _, rfl, rfl, _, hlc, hcm, hlen, hel, _, _⟩
     ·refine ⟨[.sl e], ([], ()), rfl, LR.one ?_ rfl, fun q => ⟨?_, trivial⟩⟩
      ·exact .sl e [] none 0 (fun _ _ => undef) (by simp) (fun i hi => by simp at hi) (fun i j hi => by simp at hi) (fun i hi => by simp at hi)
      ·cases q with
       | zero => trivial
       | succ q => exact ⟨by simp, fun y hy => by simp at hy⟩
     ·have hww := hw
      simp only [DataW.weights, hu, List.all_cons, Bool.and_eq_true, decide_eq_true_eq] at hww
      obtain ⟨hw1, hw2⟩ := hww
      obtain ⟨hw3, _⟩ := all_append hw2
      obtain ⟨l, hll, hq⟩ := V9 (fun i (y : e.T) => ∃ ci, w.cells? 0 (a.add (i * P.cellsOf et)) (P.cellsOf et) = some ci ∧ LR (DR (There w) w) (e.cells y) ci ∧ ∀ m, wfL (wf m) e.kdl (e.flds y)) len (fun i hi => by
       have h1 := hel i hi
       have hie : i < elems.length := by omega
       rw [List.getElem?_eq_getElem hie, Option.bind_eq_some_iff] at h1
       obtain ⟨ci, hc, ht⟩ := h1
       have hwi := Qz _ hw3 i (by simpa using hie)
       obtain ⟨us, y, e1, e2, e3⟩ := ih et e.kdl [] m ci elems[i] hlf ht (by simpa using hwi)
       have hus : e.kdl = us := by simpa using e1
       subst hus
       refine ⟨e.mk y, ci, hc, by rw [Kd.cells_mk]; exact e2, fun m => by rw [Kd.flds_mk]; exact e3 m⟩)
      refine ⟨[.sl e], (l, ()), rfl, LR.one ?_ rfl, fun q => ⟨?_, trivial⟩⟩
      ·have cell : ∀ i (hi : i < l.length) j (hj : j < e.size), There w a.block ∧ ∃ u, w.cell? (a.add (i * e.size + j)) = some u ∧ u.oneCell' = true ∧ ∀ (hj' : j < (e.cells l[i]).length), DR (There w) w ((e.cells l[i])[j]) u := by
        intro i hi j hj
        obtain ⟨ci, hc, hlr, _⟩ := hq i hi
        obtain ⟨_, c2, c3⟩ := World.cells?_some hc
        have hjc : j < ci.length := by rw [c2, hsz]; exact hj
        have h4 := c3 j (by rw [hsz]; exact hj)
        rw [jk, hsz, List.getElem?_eq_getElem hjc] at h4
        have hblk := World.cells?_block hc (by rw [hsz]; exact qkm e)
        rw [add_block] at hblk
        exact ⟨hblk, ci[j], h4, (hlr.2 j (by rw [Kd.cells_length]; exact hj) hjc).1, fun hj' => (hlr.2 j hj' hjc).2⟩
       rw [← hll]
       refine .sl e l (some a) cap (fun i j => (w.cell? (a.add (i * e.size + j))).getD undef) (by omega) (fun i hi => ?_) (fun i j hi hj => ?_) (fun i hi j hj => ?_)
       ·refine ⟨a, rfl, (cell i hi 0 (qkm e)).1, fun j hj => ?_⟩
        obtain ⟨_, u, hu, _⟩ := cell i hi j hj
        simp [hu]
       ·obtain ⟨_, u, hu, ho, _⟩ := cell i hi j hj
        simp [hu, ho]
       ·obtain ⟨_, u, hu, _, hd⟩ := cell i hi j (jm hi hj)
        simp only [hu, Option.getD_some]
        exact hd hj
      ·cases q with
       | zero => trivial
       | succ q =>
         refine ⟨?_, fun y hy => ?_⟩
         ·have h5 : l.length * e.bytes ≤ (elems.length + rest.length) * P.bytesOf et := by
           rw [hby]
           exact Nat.mul_le_mul_right _ (by omega)
          simp only [List.length_map] at hw1
          exact Nat.le_trans h5 hw1
         ·obtain ⟨i, hi, rfl⟩ := List.getElem_of_mem hy
          obtain ⟨_, _, _, h6⟩ := hq i hi
          exact h6 q
    ·simp at h
   ·simp at h
end Go.Sx
namespace Go.Sx
open Go
open Go.RowKit (Below)
open Go.ChangeShapes Go.WideShapes
variable {P : Program} {H : Type} {enc : TypeId × Value → H} {W W' : GW} {spare : Nat → Bool} {held : Bool}
def U8 (P : Program) (t : TypeId) : Bool :=
 match P.underlying t with
 | some (.struct _) => true
 | some (.array _ _) => true
 | _ => false
def Kd.isSt : Kd → Bool
 | .st _ => true
 | _ => false
def argsK (P : Program) : List TypeId → List Kd → Bool
 | [], [] => true
 | t :: ts, k :: ks => (match lf P 9 t k.kdl with | some [] => true | _ => false) && (U8 P t == k.isSt) && P.readableRec t && Nat.blt t P.types.size && argsK P ts ks
 | _, _ => false
theorem not_agg {base : Nat} {t : TypeId} {v : Value} (h : Value.okWide P W .any base t v) (ha : U8 P t = false) : (∀ cs, v ≠ .agg cs) := by
 unfold U8 at ha
 unfold Value.okWide at h
 intro cs hv
 subst hv
 split at h
 ·rename_i fs hu; rw [hu] at ha; cases ha
 ·rename_i n e hu; rw [hu] at ha; cases ha
 ·unfold Cell.okWide at h
  split at h <;> try (rename_i he; cases he)
  unfold Cell.ok at h
  split at h <;> first | (rename_i he; cases he) | exact h
theorem qii {base : Nat} {t : TypeId} {v : Value} {d : DataW H} {ps : List MemPlace} {kd : Kd} (hok : Value.okWide P W .any base t v) (h : DataW.Trod enc P W 0 spare held t v d ps) (hlf : lf P 9 t kd.kdl = some []) (hsh : U8 P t = kd.isSt) (hw : (d.weights P t).all (· ≤ reachBytes) = true) :
  ∃ y : kd.T, DR (There W) W (kd.of y) v ∧ ∀ m, wfL (wf m) kd.kdl (kd.flds y) := by
 obtain ⟨fuel, h⟩ := h
 obtain ⟨us, y, e1, e2, e3⟩ := qki 9 t kd.kdl [] fuel _ _ hlf h hw
 have hus : kd.kdl = us := by simpa using e1
 subst hus
 refine ⟨kd.mk y, ?_, fun m => by rw [Kd.flds_mk]; exact e3 m⟩
 have leaf : kd.isSt = false → LR (DR (There W) W) [kd.of (kd.mk y)] v.cells.toList → DR (There W) W (kd.of (kd.mk y)) v := by
  intro hst hlr
  have hna := not_agg hok (by rw [hsh]; exact hst)
  have hc : v.cells = #[v] := by
   cases v with
   | agg cs => exact absurd rfl (hna cs)
   | _ => rfl
  rw [hc] at hlr
  exact (hlr.2 0 (by simp) (by simp)).2
 cases kd with
 | st s =>
   have hagg : ∃ cs, v = .agg cs := by
    unfold U8 at hsh
    unfold Value.okWide at hok
    split at hsh
    ·rename_i fs hu
     rw [hu] at hok
     obtain ⟨cs, hv, _⟩ := hok
     exact ⟨cs, hv⟩
    ·rename_i n e hu
     rw [hu] at hok
     obtain ⟨cs, hv, _⟩ := hok
     exact ⟨cs, hv⟩
    ·cases hsh
   obtain ⟨cs, rfl⟩ := hagg
   have hcs : (Value.agg cs).cells.toList = cs.toList := rfl
   rw [hcs] at e2
   have : DR (There W) W (.agg ((Kd.st s).cells ((Kd.st s).mk y))) (.agg cs.toList.toArray) := by
    rw [Kd.cells_mk]
    exact .agg _ _ e2.1 (fun u hu => by obtain ⟨q, hq, rfl⟩ := List.getElem_of_mem hu; exact (e2.2 q (by rw [e2.1]; exact hq) hq).1) fun i h1 h2 => (e2.2 i h1 h2).2
   rw [Array.toArray_toList] at this
   exact this
 | int k => exact leaf rfl e2
 | bool => exact leaf rfl e2
 | str => exact leaf rfl e2
 | sl e => exact leaf rfl e2
def wfA (m : Nat) : (ks : List Kd) → Lf ks → Prop := wfL fun k y => wfL (wf m) k.kdl (k.flds y)
theorem Yh {base : Nat} : ∀ (ts : List TypeId) (ks : List Kd) (vs : List Value) (ds : List (DataW H)) (ps : List MemPlace), argsK P ts ks = true → DataW.TrodAll enc P W 0 spare held ts vs ds ps → (∀ (j : Nat) t v, ts[j]? = some t → vs[j]? = some v → Value.okWide P W .any base t v) →
  (DataW.weightsEach P ts ds).all (· ≤ reachBytes) = true → ∃ xs : Lf ks, DRs (There W) W (cellsL ks xs) vs ∧ ∀ m, wfA m ks xs
 | [], [], vs, ds, ps, _, h, _, _ => by
   obtain ⟨rfl, rfl, rfl⟩ := trodAll_nil h
   exact ⟨(), ⟨rfl, fun i h => by simp [cellsL] at h⟩, fun _ => trivial⟩
 | t :: ts, k :: ks, vs, ds, ps, hk, h, hok, hw => by
   simp only [argsK, Bool.and_eq_true, beq_iff_eq] at hk
   obtain ⟨⟨⟨⟨hk1, hk2⟩, _⟩, _⟩, hk3⟩ := hk
   have hlf : lf P 9 t k.kdl = some [] := by
    split at hk1
    ·assumption
    ·cases hk1
   obtain ⟨v, vs1, d, ds1, a, b, rfl, rfl, rfl, h1, h2⟩ := trodAll_cons h
   unfold DataW.weightsEach at hw
   obtain ⟨w1, w2⟩ := all_append hw
   obtain ⟨y, g1, g2⟩ := qii (hok 0 t v rfl rfl) h1 hlf hk2 w1
   obtain ⟨xs, g3, g4⟩ := Yh ts ks vs1 ds1 b hk3 h2 (fun j t v a b => hok (j + 1) t v (by simpa using a) (by simpa using b)) w2
   refine ⟨(y, xs), ⟨by simp [cellsL, g3.1], fun i h h' => ?_⟩, fun m => ⟨g2 m, g4 m⟩⟩
   cases i with
   | zero => exact g1
   | succ i => exact g3.2 i (by simpa [cellsL] using h) (by simpa using h')
 | [], _ :: _, _, _, _, hk, _, _, _ => by simp [argsK] at hk
 | _ :: _, [], _, _, _, hk, _, _, _ => by simp [argsK] at hk
theorem JH (hl : laidOutB P = true) : ∀ (ts : List TypeId) (ks : List Kd) (vs : List Value) (ds : List (DataW H)) (ps : List MemPlace), argsK P ts ks = true → DataW.TrodAll enc P W 0 (fun _ => true) true ts vs ds ps → (∀ p ∈ ps, p.block < W.heap.size) → Below W.heap.size W W' → ∀ sp : Nat → Bool, (∀ p ∈ ps, sp p.block = true) →
  DataW.TrodAll enc P W' 0 sp true ts vs ds ps
 | [], [], vs, ds, ps, _, h, _, _, sp, _ => by
   obtain ⟨rfl, rfl, rfl⟩ := trodAll_nil h
   rfl
 | t :: ts, k :: ks, vs, ds, ps, hk, h, hlt, hb, sp, hsp => by
   simp only [argsK, Bool.and_eq_true, beq_iff_eq] at hk
   obtain ⟨⟨⟨_, hr⟩, hs⟩, hk3⟩ := hk
   obtain ⟨v, vs1, d, ds1, a, b, rfl, rfl, rfl, h1, h2⟩ := trodAll_cons h
   refine ⟨a, b, WideElems.Trod_stays hl hr (Nat.le_of_ble_eq_true hs) h1 (fun p hp => hb.same (hlt p (List.mem_append.2 (.inl hp)))) (fun p hp => hsp p (List.mem_append.2 (.inl hp))), ?_, rfl⟩
   exact JH hl ts ks vs1 ds1 b hk3 h2 (fun p hp => hlt p (List.mem_append.2 (.inr hp))) hb sp (fun p hp => hsp p (List.mem_append.2 (.inr hp)))
 | [], _ :: _, _, _, _, hk, _, _, _, _, _ => by simp [argsK] at hk
 | _ :: _, [], _, _, _, hk, _, _, _, _, _ => by simp [argsK] at hk
theorem qkj {f : Func} {s : ChangeSpec} {apart fresh handsOn again : Bool} {args : Array Value} {ds gs : List (DataW H)} {before : List MemPlace} {tb : TypeId} (hW : DataW.Whole enc P f.params.toList s.vars apart W args.toList ds gs before) (hl : laidOutB P = true) {ks : List Kd} (hk : argsK P f.params.toList ks = true)
  (hb : Below W.heap.size W W') (hvars : s.vars = []) (hres : f.resultTypes = #[tb]) (htb : P.underlying tb = some .bool) (hspec : s.fn H ds = { results := [.lit (.bool true)], args := ds }) :
  s.post enc P f apart fresh handsOn again W args (.bool true) W' := by
 have hWW := hW
 obtain ⟨pa, pv, hA, hV, hps, hz, hn⟩ := hW
 have hlt : ∀ p ∈ before, p.block < W.heap.size := hWW.lt
 rw [hvars] at hV
 obtain ⟨rfl, rfl⟩ := trodVars_none hV
 simp only [List.append_nil] at hps
 subst hps
 have hsp : s.fn H (ds ++ []) = { results := [.lit (.bool true)], args := ds } := by rw [List.append_nil]; exact hspec
 have hres' : ∀ (b : Nat) (sp : Nat → Bool) (hd : Bool), DataW.TrodAll enc P W' b sp hd f.resultTypes.toList ((Value.bool true).resultList f.resultTypes.size) (s.fn H (ds ++ [])).results [] := by
  intro b sp hd
  rw [hsp, hres]
  exact trodAll_mk1 (RowKit.shut_bool htb true)
 have hargs : ∀ sp : Nat → Bool, (∀ p ∈ before, sp p.block = true) → DataW.TrodAll enc P W' 0 sp true f.params.toList args.toList (s.fn H (ds ++ [])).args before := by
  intro sp hs
  rw [hsp]
  exact JH hl _ ks _ _ _ hk hA hlt hb sp hs
 have hvars' : ∀ sp : Nat → Bool, DataW.TrodVars enc P W' sp s.vars (s.fn H (ds ++ [])).vars [] := by
  intro sp
  rw [hsp, hvars]
  rfl
 have hold : ∀ p ∈ before, (fun b => decide (b < W.heap.size)) p.block = true := fun p hp => by simpa using hlt p hp
 refine ⟨ds, [], before, [], before, [], hWW, hres' _ _ _, hargs _ hold, hvars' _, World.keptBut_mono (fun p hp => ⟨hp, ?_⟩) (hb.frame (· ∈ before)), fun _ => ?_⟩
 ·exact .inr (by simpa using hp)
 ·refine ⟨RowKit.ok_one hres rfl (RowKit.okWide_bool_mk htb true), _, _, ([] ++ before) ++ [], ⟨[] ++ before, [], trodAll_append (hargs _ (fun _ _ => rfl)) (hres' _ _ _), hvars' _, rfl, ?_, ?_⟩, ?_⟩
  ·intro b off hp
   have hp' : MemPlace.cell b off ∈ before := by simpa using hp
   rw [hb.frozen (p := ⟨b, off, Option.none⟩) (hlt _ hp')]
   exact hz b off hp'
  ·intro ha
   have := hn ha
   simpa using this
  ·intro p hp _
   simpa using hp
theorem law_calls_gl {gl : List (Nat × List AV)} {f : FuncId} {fn : Func} {s : ChangeSpec} {apart fresh handsOn again : Bool} {args : Array Value} {ds gs : List (DataW H)} {before : List MemPlace} {tb : TypeId} {base : Nat} {ks : List Kd}
  (hlaw : ∀ xs : Lf ks, (∀ m, wfA m ks xs) → CallsTo P gl f (cellsL ks xs) (.bool true)) (hgl : GOK gl W.heap.size (There W) W)
  (hl : laidOutB P = true) (hk : argsK P fn.params.toList ks = true) (hvars : s.vars = []) (hres : fn.resultTypes = #[tb]) (htb : P.underlying tb = some .bool) (hspec : ∀ ds : List (DataW H), ds.length = ks.length → s.fn H ds = { results := [.lit (.bool true)], args := ds })
  (hval : ∀ (j : Nat) t v, fn.params[j]? = some t → args[j]? = some v → Value.okWide P W .any base t v)
  (hW : DataW.Whole enc P fn.params.toList s.vars apart W args.toList ds gs before)
  (hsz : (DataW.weightsEach P (fn.params.toList ++ s.plain.varTypes P) (ds ++ gs)).all (· ≤ reachBytes) = true) :
  Calls P f args W fun e W' => ∃ v, e = .returned v ∧ s.post enc P fn apart fresh handsOn again W args v W' := by
 have hWW := hW
 obtain ⟨pa, pv, hA, hV, hps, hz, hn⟩ := hW
 rw [hvars] at hV
 obtain ⟨hgs, hpv⟩ := trodVars_none hV
 subst hgs
 have hvt : s.plain.varTypes P = [] := by
  simp [ChangeSpec.plain, DataSpec.varTypes, hvars]
 rw [hvt, List.append_nil, List.append_nil] at hsz
 obtain ⟨xs, hx, hwf⟩ := Yh fn.params.toList ks args.toList ds pa hk hA (fun j t v a b => hval j t v (by simpa using a) (by simpa using b)) hsz
 have hlen : ds.length = ks.length := by
  have h1 : ∀ (ts : List TypeId) (ks : List Kd) (vs : List Value) (ds : List (DataW H)) (ps : List MemPlace), argsK P ts ks = true → DataW.TrodAll enc P W 0 (fun _ => true) true ts vs ds ps → ds.length = ks.length := by
   intro ts
   induction ts with
   | nil =>
     intro ks vs ds ps hk h
     obtain ⟨rfl, rfl, rfl⟩ := trodAll_nil h
     cases ks with
     | nil => rfl
     | cons k ks => simp [argsK] at hk
   | cons t ts ih =>
     intro ks vs ds ps hk h
     obtain ⟨v, vs1, d, ds1, a, b, rfl, rfl, rfl, h1, h2⟩ := trodAll_cons h
     cases ks with
     | nil => simp [argsK] at hk
     | cons k ks =>
       simp only [argsK, Bool.and_eq_true] at hk
       simp [ih ks vs1 ds1 b hk.2 h2]
  exact h1 _ _ _ _ _ hk hA
 have hcall := hlaw xs hwf (There W) W args.toList (fun c h => h) hgl hx
 rw [Array.toArray_toList] at hcall
 refine hcall.mono ?_
 rintro e W' ⟨cv, rfl, hb, hdr⟩
 cases hdr
 exact ⟨_, rfl, qkj hWW hl hk hb hvars hres htb (hspec ds hlen)⟩
end Go.Sx
namespace Go.Sx
open Go
open Go.RowKit (Below)
open Go.ChangeShapes Go.WideShapes
variable {P : Program} {H : Type} {enc : TypeId × Value → H} {W W' : GW} {spare : Nat → Bool} {held : Bool}
end Go.Sx
namespace Go.Sx
open Go
@[reducible] def Fn : List Kd → Type → Type
  | [], Z => Z
  | k :: r, Z => k.T → Fn r Z
@[reducible] def Rs : List Kd → Type
  | [] => Unit
  | [k] => k.T
  | k :: q :: r => k.T × Rs (q :: r)
def rL : (kr : List Kd) → Rs kr → List AV
 | [], _ => []
 | [k], z => [k.of z]
 | k :: q :: r, z => k.of z.1 :: rL (q :: r) z.2
def rA : (kr : List Kd) → Rs kr → AV
 | [], _ => .tup []
 | [k], z => k.of z
 | k :: q :: r, z => .tup (rL (k :: q :: r) z)
def M4 : (kr : List Kd) → List AV → Option (Rs kr)
 | [], [] => some ()
 | [k], [v] => v.as k
 | k :: q :: r, v :: vs => (v.as k).bind fun x => (M4 (q :: r) vs).bind fun y => some (x, y)
 | _, _ => none
def asR : (kr : List Kd) → AV → Option (Rs kr)
 | [k], v => v.as k
 | [], .tup [] => some ()
 | k :: q :: r, .tup vs => M4 (k :: q :: r) vs
 | _, _ => none
def apK {R Z : Type} : (ks : List Kd) → Fn ks (Option Z) → List AV → (Z → Option R) → Option R
 | [], f, [], k => obind f k
 | k :: r, f, v :: vs, kk => (v.as k).bind fun x => apK r (f x) vs kk
 | _, _, _, _ => none
def BB (ks : List Kd) (F : Fn ks (Option AV)) : Ctr := ⟨fun args k => apK ks F args k⟩
def qj (ks kr : List Kd) (F : Fn ks (Option (Rs kr))) : Ctr := ⟨fun args k => apK ks F args fun z => k (rA kr z)⟩
end Go.Sx
namespace Go.Sx
open Go
open Go.RowKit (Below)
def apL {Z : Type} : (ks : List Kd) → Fn ks Z → Lf ks → Z
 | [], f, _ => f
 | _ :: r, f, x => apL r (f x.1) x.2
theorem VZ {R Z : Type} (g : Z → AV) (k : AV → Option R) : ∀ (ks : List Kd) (F : Fn ks (Option Z)) (args : List AV), apK ks F args (fun z => k (g z)) = (apK ks F args fun z => some (g z)).bind k
 | [], F, [] => by simp [apK, obind, Option.bind_assoc]
 | [], F, _ :: _ => by simp [apK]
 | k' :: r, F, [] => by simp [apK]
 | k' :: r, F, v :: vs => by
   simp only [apK, Option.bind_assoc]
   congr 1
   funext x
   exact VZ g k r (F x) vs
theorem Kf {R Z : Type} {k : Z → Option R} {r : R} : ∀ (ks : List Kd) (F : Fn ks (Option Z)) (args : List AV), apK ks F args k = some r → ∃ (xs : Lf ks) (z : Z), apL ks F xs = some z ∧ k z = some r ∧ args.length = ks.length ∧
  ∀ (D : Nat → Prop) (w : GW) (vs : List Value), DRs D w args vs → DRs D w (cellsL ks xs) vs
 | [], F, [], h => by
   simp only [apK, obind] at h
   obtain ⟨z, hz, h⟩ := Option.bind_eq_some_iff.1 h
   exact ⟨(), z, hz, h, rfl, fun D w vs h => h⟩
 | [], F, _ :: _, h => by simp [apK] at h
 | k' :: r', F, [], h => by simp [apK] at h
 | k' :: r', F, v :: vs, h => by
   simp only [apK] at h
   obtain ⟨x, hx, h⟩ := Option.bind_eq_some_iff.1 h
   obtain ⟨xs, z, h1, h2, h3, h4⟩ := Kf r' (F x) vs h
   refine ⟨(x, xs), z, h1, h2, by simp [h3], fun D w us hd => ?_⟩
   cases us with
   | nil => have := hd.1; simp at this
   | cons u us =>
     have := h4 D w us ⟨by have := hd.1; simpa using this, fun i a b => by have := hd.2 (i + 1) (by simpa using a) (by simpa using b); simpa using this⟩
     refine ⟨by simp [cellsL, this.1], fun i a b => ?_⟩
     cases i with
     | zero => exact AV.as_as hx _ _ _ (hd.2 0 (by simp) (by simp))
     | succ i => exact this.2 i (by simpa [cellsL] using a) (by simpa using b)
theorem BN : ∀ (kr : List Kd) (vs : List AV) (z : Rs kr), M4 kr vs = some z → C2 vs (rL kr z)
 | [], [], _, _ => .nil
 | [], _ :: _, _, h => by simp [M4] at h
 | [k], [], _, h => by simp [M4] at h
 | [k], [v], z, h => .cons (AV.as_as (show v.as k = some z from h)) .nil
 | [k], _ :: _ :: _, _, h => by simp [M4] at h
 | k :: q :: r, [], _, h => by simp [M4] at h
 | k :: q :: r, v :: vs, z, h => by
   simp only [M4] at h
   obtain ⟨x, hx, h⟩ := Option.bind_eq_some_iff.1 h
   obtain ⟨y, hy, h⟩ := Option.bind_eq_some_iff.1 h
   cases h
   exact .cons (AV.as_as hx) (BN (q :: r) vs y hy)
theorem c2_tup {vs us : List AV} (h : C2 vs us) : CellAs (.tup vs) (.tup us) := by
 intro D w x hx
 cases hx with
 | tup _ xs hl hh => exact .tup us xs (by rw [← h.length]; exact hl) fun i h1 h2 => h.get i (by rw [h.length]; exact h1) h1 _ _ _ (hh i (by rw [h.length]; exact h1) h2)
theorem qmc (kr : List Kd) (v : AV) (z : Rs kr) (h : asR kr v = some z) : CellAs v (rA kr z) := by
 unfold asR at h
 split at h
 ·exact AV.as_as h
 ·exact CellAs.refl _
 ·exact c2_tup (BN _ _ _ h)
 ·cases h
theorem Yd {P : Program} {E : Env} (hE : EnvOK P E) {H : Hints} (hin : ∀ f fn c, look E.inl f = some fn → fn.body = some c → ToldC E H f c) {f : Nat} {fn : Func} (hf : P.funcs[f]? = some fn) (htold : ∀ c, fn.body = some c → ToldC E H f c) {args : List AV} {kr : List Kd} {z : Rs kr} (h : qx E H f fn args (asR kr) = some z) :
  CallsTo P E.glob f args (rA kr z) := by
 intro ok w xs h1 h2 h3
 refine (VA hE hin hf htold h ok w xs h1 h2 h3).mono ?_
 rintro e w' ⟨v, cv, hv, rfl, hb, hd⟩
 exact ⟨cv, rfl, hb, qmc kr v z hv _ _ _ hd⟩
theorem qhv {P : Program} {gl : List (Nat × List AV)} {f : Nat} {ks : List Kd} {F : Fn ks (Option AV)} (hF : ∀ (xs : Lf ks) (z : AV), apL ks F xs = some z → CallsTo P gl f (cellsL ks xs) z) : CtrOK P gl f (BB ks F) := by
 refine ⟨fun R args k => VZ id k ks F args, fun R args k r h => ?_⟩
 obtain ⟨xs, z, h1, h2, h3, h4⟩ := Kf ks F args h
 refine ⟨z, h2, fun ok w vs g1 g2 g3 => ?_⟩
 exact hF xs z h1 ok w vs g1 g2 (h4 ok w vs g3)
theorem qc9 {P : Program} {E : Env} (hE : EnvOK P E) {H : Hints} (hin : ∀ f fn c, look E.inl f = some fn → fn.body = some c → ToldC E H f c) {f : Nat} {fn : Func} (hf : P.funcs[f]? = some fn) (htold : ∀ c, fn.body = some c → ToldC E H f c) {args : List AV} {z : AV} (h : qx E H f fn args (fun v => some v) = some z) :
  CallsTo P E.glob f args z := by
 intro ok w xs h1 h2 h3
 refine (VA hE hin hf htold h ok w xs h1 h2 h3).mono ?_
 rintro e w' ⟨v, cv, hv, rfl, hb, hd⟩
 cases hv
 exact ⟨cv, rfl, hb, hd⟩
theorem KX {P : Program} {gl : List (Nat × List AV)} {f : Nat} {ks kr : List Kd} {F : Fn ks (Option (Rs kr))} (hF : ∀ (xs : Lf ks) (z : Rs kr), apL ks F xs = some z → CallsTo P gl f (cellsL ks xs) (rA kr z)) : CtrOK P gl f (qj ks kr F) := by
 refine ⟨fun R args k => VZ (rA kr) k ks F args, fun R args k r h => ?_⟩
 obtain ⟨xs, z, h1, h2, h3, h4⟩ := Kf ks F args h
 refine ⟨rA kr z, h2, fun ok w vs g1 g2 g3 => ?_⟩
 exact hF xs z h1 ok w vs g1 g2 (h4 ok w vs g3)
end Go.Sx
namespace Go.Sx
open Go
def ql : Nat := 18446744073709551616
theorem jA {α : Type _} : ∀ {l : List (Nat × α)} {n : Nat} {x : α}, look l n = some x → (n, x) ∈ l
 | [], n, x, h => by simp [qkf] at h
 | p :: r, n, x, h => by
   rw [qg3] at h
   cases hb : Nat.beq p.1 n with
   | true =>
     rw [hb] at h
     have e : p.1 = n := Nat.eq_of_beq_eq_true hb
     have e2 : p.2 = x := Option.some.inj h
     rw [← e, ← e2]; simp
   | false => rw [hb] at h; exact List.mem_cons_of_mem _ (jA h)
inductive CtrsOK (P : Program) (gl : List (Nat × List AV)) : List (Nat × Ctr) → Prop
 | nil : CtrsOK P gl []
 | cons {f : Nat} {c : Ctr} {r : List (Nat × Ctr)} (h : FnOK P f ∧ CtrOK P gl f c) (t : CtrsOK P gl r) : CtrsOK P gl ((f, c) :: r)
theorem CtrsOK.mem {P : Program} {gl : List (Nat × List AV)} {l : List (Nat × Ctr)} (h : CtrsOK P gl l) : ∀ p ∈ l, FnOK P p.1 ∧ CtrOK P gl p.1 p.2 := by
 induction h with
 | nil => intro p hp; simp at hp
 | cons h t ih =>
   intro p hp
   rcases List.mem_cons.1 hp with rfl | hp
   ·exact h
   ·exact ih p hp
def FnIn (P : Program) (f : Nat) (fn : Func) : Prop := P.funcs[f]? = some fn ∧ fn.body.isSome = true ∧ fn.name ≠ "runtime.NumGoroutine"
theorem FnIn.mk {P : Program} {f : Nat} {fn : Func} (h : P.funcs[f]? = some fn) (hb : fn.body.isSome = true) (hn : (fn.name == "runtime.NumGoroutine") = false) : FnIn P f fn := ⟨h, hb, by simpa using hn⟩
inductive InlsOK (P : Program) (E : Env) (H : Hints) : List (Nat × Func) → Prop
 | nil : InlsOK P E H []
 | cons {f : Nat} {fn : Func} {r : List (Nat × Func)} (h : FnIn P f fn) (ht : ∀ c, fn.body = some c → ToldC E H f c) (t : InlsOK P E H r) : InlsOK P E H ((f, fn) :: r)
theorem InlsOK.mem {P : Program} {E : Env} {H : Hints} {l : List (Nat × Func)} (h : InlsOK P E H l) : ∀ p ∈ l, FnIn P p.1 p.2 ∧ ∀ c, p.2.body = some c → ToldC E H p.1 c := by
 induction h with
 | nil => intro p hp; simp at hp
 | cons h ht t ih =>
   intro p hp
   rcases List.mem_cons.1 hp with rfl | hp
   ·exact ⟨h, ht⟩
   ·exact ih p hp
noncomputable def obl (H : Hints) (f : Nat) : Code → List (Alt × Code)
 | .seq x y => obl H f x ++ obl H f y
 | .cond _ x y => obl H f x ++ obl H f y
 | .block _ c => obl H f c
 | .scope c => obl H f c
 | .loop c => (((look H.al f).bind fun hs => (jV c).bind fun i => look hs i).getD []).map (fun a => (a, c)) ++ obl H f c
 | _ => []
theorem qis {E : Env} {H : Hints} {f : Nat} : ∀ (c : Code), (∀ p ∈ obl H f c, Alt.Round E H f p.2 p.1) → ToldC E H f c := by
 intro c
 induction c with
 | seq x y hx hy => exact fun h => ⟨hx fun p hp => h p (List.mem_append.2 (.inl hp)), hy fun p hp => h p (List.mem_append.2 (.inr hp))⟩
 | cond c x y hx hy => exact fun h => ⟨hx fun p hp => h p (List.mem_append.2 (.inl hp)), hy fun p hp => h p (List.mem_append.2 (.inr hp))⟩
 | block i c hc => exact fun h => hc h
 | scope c hc => exact fun h => hc h
 | loop c hc =>
   intro h
   refine ⟨?_, hc fun p hp => h p (List.mem_append.2 (.inr hp))⟩
   split
   ·rename_i alts halts
    intro a ha
    refine h (a, c) (List.mem_append.2 (.inl ?_))
    rw [halts]
    exact List.mem_map.2 ⟨a, ha, rfl⟩
   ·trivial
 | _ => exact fun _ => trivial
noncomputable def qG (H : Hints) (f : Nat) (fn : Func) (i : Nat) : Code := (((fn.body.map (obl H f)).getD [])[i]?).elim .skip (·.2)
theorem qI {E : Env} {H : Hints} {f : Nat} {fn : Func} (l : List Alt) (hl : ((fn.body.map (obl H f)).getD []).map (·.1) = l) (h : ∀ i (hi : i < l.length), Alt.Round E H f (qG H f fn i) l[i]) : ∀ c, fn.body = some c → ToldC E H f c := by
 intro c hc
 refine qis c fun p hp => ?_
 obtain ⟨i, hi, rfl⟩ := List.getElem_of_mem hp
 subst hl
 unfold qG at h
 simp only [hc, Option.map_some, Option.getD_some] at h
 have := h i (by simpa using hi)
 rw [List.getElem?_eq_getElem hi] at this
 simpa using this
inductive EqsOK (P : Program) : List (Nat × List Kd) → Prop
 | nil : EqsOK P []
 | cons {t : Nat} {n : List Kd} {r : List (Nat × List Kd)} (h : EqFact P t n) (k : EqsOK P r) : EqsOK P ((t, n) :: r)
theorem EqsOK.mem {P : Program} {l : List (Nat × List Kd)} (h : EqsOK P l) : ∀ p ∈ l, EqFact P p.1 p.2 := by
 induction h with
 | nil => intro p hp; simp at hp
 | cons h t ih =>
   intro p hp
   rcases List.mem_cons.1 hp with rfl | hp
   ·exact h
   ·exact ih p hp
inductive GetsOK (P : Program) : List (Nat × Nat) → Prop
 | nil : GetsOK P []
 | cons {f d : Nat} {r : List (Nat × Nat)} (h : FnOK P f ∧ GetOK P f d) (k : GetsOK P r) : GetsOK P ((f, d) :: r)
theorem GetsOK.mem {P : Program} {l : List (Nat × Nat)} (h : GetsOK P l) : ∀ p ∈ l, FnOK P p.1 ∧ GetOK P p.1 p.2 := by
 induction h with
 | nil => intro p hp; simp at hp
 | cons h t ih =>
   intro p hp
   rcases List.mem_cons.1 hp with rfl | hp
   ·exact h
   ·exact ih p hp
inductive OwnsOK (P : Program) (gl : List (Nat × List AV)) : List (Nat × Ctr) → Prop
 | nil : OwnsOK P gl []
 | cons {f : Nat} {c : Ctr} {r : List (Nat × Ctr)} (h : FnOK P f ∧ OwnOK P gl f c) (t : OwnsOK P gl r) : OwnsOK P gl ((f, c) :: r)
theorem OwnsOK.mem {P : Program} {gl : List (Nat × List AV)} {l : List (Nat × Ctr)} (h : OwnsOK P gl l) : ∀ p ∈ l, FnOK P p.1 ∧ OwnOK P gl p.1 p.2 := by
 induction h with
 | nil => intro p hp; simp at hp
 | cons h t ih =>
   intro p hp
   rcases List.mem_cons.1 hp with rfl | hp
   ·exact h
   ·exact ih p hp
inductive LonesOK (P : Program) (gl : List (Nat × List AV)) : List (Nat × Ctr) → Prop
 | nil : LonesOK P gl []
 | cons {f : Nat} {c : Ctr} {r : List (Nat × Ctr)} (h : FnOK P f ∧ LoneOK P gl f c) (t : LonesOK P gl r) : LonesOK P gl ((f, c) :: r)
theorem LonesOK.mem {P : Program} {gl : List (Nat × List AV)} {l : List (Nat × Ctr)} (h : LonesOK P gl l) : ∀ p ∈ l, FnOK P p.1 ∧ LoneOK P gl p.1 p.2 := by
 induction h with
 | nil => intro p hp; simp at hp
 | cons h t ih =>
   intro p hp
   rcases List.mem_cons.1 hp with rfl | hp
   ·exact h
   ·exact ih p hp
theorem qej {P : Program} {E : Env} {H : Hints} (hty : (E.ty.all fun p => Zo P p.1 p.2) = true) (hctr : CtrsOK P E.glob E.ctr) (hinl : InlsOK P E H E.inl) (heq : EqsOK P E.eqs) (hm : P.follows .mixedOrders = true) (hget : GetsOK P E.get := by exact GetsOK.nil) (hown : OwnsOK P E.glob E.own := by exact OwnsOK.nil) (hlone : LonesOK P E.glob E.lone := by exact LonesOK.nil) (hlown : OwnsOK P E.glob E.lown := by exact OwnsOK.nil) : EnvOK P E := by
 refine ⟨fun t n h => heq.mem _ (jA h), fun t i h => ?_, fun f c h => hctr.mem _ (jA h), fun f fn h => ?_, hm, fun f d h => hget.mem _ (jA h), fun f c h => hown.mem _ (jA h), fun f c h => hlone.mem _ (jA h), fun f c h => hlown.mem _ (jA h)⟩
 ·have := List.all_eq_true.1 hty (t, i) (jA h)
  exact qe8 this
 ·exact (hinl.mem _ (jA h)).1
theorem qv {P : Program} {E : Env} {H : Hints} (hty : (E.ty.all fun p => Zo P p.1 p.2) = true) (hctr : CtrsOK P E.glob E.ctr) (hinl : InlsOK P E H E.inl) (heq : EqsOK P E.eqs) (hm : P.follows .mixedOrders = true)
  {f : Nat} {fn : Func} (hf : FnIn P f fn) (htold : ∀ c, fn.body = some c → ToldC E H f c) {ks kr : List Kd} {F : Fn ks (Option (Rs kr))} (hF : ∀ xs : Lf ks, qx E H f fn (cellsL ks xs) (asR kr) = apL ks F xs) (hget : GetsOK P E.get := by exact GetsOK.nil) (hown : OwnsOK P E.glob E.own := by exact OwnsOK.nil) (hlone : LonesOK P E.glob E.lone := by exact LonesOK.nil) (hlown : OwnsOK P E.glob E.lown := by exact OwnsOK.nil) :
  FnOK P f ∧ CtrOK P E.glob f (qj ks kr F) :=
 ⟨⟨fn, hf⟩, KX fun xs z hz => Yd (qej hty hctr hinl heq hm hget hown hlone hlown) (fun f fn c h hb => (hinl.mem _ (jA h)).2 c hb) hf.1 htold (by rw [hF xs]; exact hz)⟩
theorem B3 {P : Program} {E : Env} {H : Hints} (hty : (E.ty.all fun p => Zo P p.1 p.2) = true) (hctr : CtrsOK P E.glob E.ctr) (hinl : InlsOK P E H E.inl) (heq : EqsOK P E.eqs) (hm : P.follows .mixedOrders = true)
  {f : Nat} {fn : Func} (hf : FnIn P f fn) (htold : ∀ c, fn.body = some c → ToldC E H f c) {ks : List Kd} {F : Fn ks (Option AV)} (hF : ∀ xs : Lf ks, qx E H f fn (cellsL ks xs) (fun v => some v) = apL ks F xs) (hget : GetsOK P E.get := by exact GetsOK.nil) (hown : OwnsOK P E.glob E.own := by exact OwnsOK.nil) (hlone : LonesOK P E.glob E.lone := by exact LonesOK.nil) (hlown : OwnsOK P E.glob E.lown := by exact OwnsOK.nil) :
  FnOK P f ∧ CtrOK P E.glob f (BB ks F) :=
 ⟨⟨fn, hf⟩, qhv fun xs z hz => qc9 (qej hty hctr hinl heq hm hget hown hlone hlown) (fun f fn c h hb => (hinl.mem _ (jA h)).2 c hb) hf.1 htold (by rw [hF xs]; exact hz)⟩
theorem law_to {P : Program} {E : Env} {H : Hints} (hty : (E.ty.all fun p => Zo P p.1 p.2) = true) (hctr : CtrsOK P E.glob E.ctr) (hinl : InlsOK P E H E.inl) (heq : EqsOK P E.eqs) (hm : P.follows .mixedOrders = true)
  {f : Nat} {fn : Func} (hf : FnIn P f fn) (htold : ∀ c, fn.body = some c → ToldC E H f c) {ks : List Kd} {F : Fn ks (Option Bool)} (hF : ∀ xs : Lf ks, qx E H f fn (cellsL ks xs) (asR [.bool]) = apL ks F xs)
  (htrue : ∀ xs : Lf ks, (∀ m, wfA m ks xs) → apL ks F xs = some true) (xs : Lf ks) (hx : ∀ m, wfA m ks xs) (hget : GetsOK P E.get := by exact GetsOK.nil) (hown : OwnsOK P E.glob E.own := by exact OwnsOK.nil) (hlone : LonesOK P E.glob E.lone := by exact LonesOK.nil) (hlown : OwnsOK P E.glob E.lown := by exact OwnsOK.nil) : CallsTo P E.glob f (cellsL ks xs) (.bool true) :=
 Yd (kr := [.bool]) (z := true) (qej hty hctr hinl heq hm hget hown hlone hlown) (fun f fn c h hb => (hinl.mem _ (jA h)).2 c hb) hf.1 htold (by rw [hF xs]; exact htrue xs hx)
theorem qk7 {P : Program} {E : Env} {H : Hints} (hty : (E.ty.all fun p => Zo P p.1 p.2) = true) (hctr : CtrsOK P E.glob E.ctr) (hinl : InlsOK P E H E.inl) (heq : EqsOK P E.eqs) (hm : P.follows .mixedOrders = true)
  {f : Nat} {fn : Func} (hf : FnIn P f fn) (htold : ∀ c, fn.body = some c → ToldC E H f c) {ks : List Kd} {kd : Kd} {F : Fn ks (Option (List kd.T))} (hF : ∀ xs : Lf ks, Mi E H f fn (cellsL ks xs) kd some = apL ks F xs) (hget : GetsOK P E.get := by exact GetsOK.nil) (hown : OwnsOK P E.glob E.own := by exact OwnsOK.nil) (hlone : LonesOK P E.glob E.lone := by exact LonesOK.nil) (hlown : OwnsOK P E.glob E.lown := by exact OwnsOK.nil) :
  FnOK P f ∧ OwnOK P E.glob f (qj ks [.sl kd] F) := by
 refine ⟨⟨fn, hf⟩, fun R args k => VZ (rA [.sl kd]) k ks F args, fun R args k r h => ?_⟩
 obtain ⟨xs, z, h1, h2, h3, h4⟩ := Kf ks F args h
 refine ⟨kd, z, h2, fun ok w vs g1 g2 g3 => ?_⟩
 refine (Mh (qej hty hctr hinl heq hm hget hown hlone hlown) (fun f fn c h hb => (hinl.mem _ (jA h)).2 c hb) hf.1 htold ((hF xs).trans h1) ok w vs g1 g2 (h4 ok w vs g3)).mono ?_
 rintro e w' ⟨l, hl, h⟩
 cases hl
 exact h
end Go.Sx
namespace Go.Sx
open Go
theorem qd5 {X O : Type} {T : (X → Option O) → X → Option O} (m : X → Nat) (inv : X → Prop) (g : X → Option O)
  (h : ∀ (x : X) (rec : X → Option O), inv x → (∀ y, inv y → m y < m x → rec y = g y) → T rec x = g x) : ∀ (L : Nat) (x : X), inv x → m x < L → qt T L x = g x
 | 0, x, _, hm => by omega
 | L + 1, x, hi, hm => h x (qt T L) hi fun y hy hym => qd5 m inv g h L y hy (by omega)
theorem gy {X O : Type} {T : (X → Option O) → X → Option O} (m : X → Nat) (inv : X → Prop) (g : X → Option O)
  (h : ∀ (x : X) (rec : X → Option O), inv x → (∀ y, inv y → m y < m x → rec y = g y) → T rec x = g x) {x : X} (hi : inv x) (hm : m x < 18446744073709551616) : qt T ql x = g x :=
 qd5 m inv g h ql x hi hm
theorem cnd_if {α : Type} (b : Bool) (x y : α) : cnd b x y = if b = true then x else y := by cases b <;> rfl
theorem q7 {α : Type} {b : Bool} {x y : α} (h : b = true) : cnd b x y = x := by subst h; rfl
theorem q8 {α : Type} {b : Bool} {x y : α} (h : b = false) : cnd b x y = y := by subst h; rfl
theorem qg {α β : Type} (x : α) (f : α → Option β) : obind (some x) f = f x := rfl
theorem jh {α : Type} {l : List α} {j : Int} (h0 : 0 ≤ j) (h : j < l.length) : lget l j = some (l[j.toNat]'(by omega)) := by
 unfold lget
 rw [if_pos h0]
 exact List.getElem?_eq_getElem _
def gi (l : List Int) (p : Int) : Int := l.getD p.toNat 0
theorem qm {l : List Int} {j : Int} (h0 : 0 ≤ j) (h : j < l.length) : lget l j = some (gi l j) := by
 rw [jh h0 h]
 simp [gi, List.getD, List.getElem?_eq_getElem (show j.toNat < l.length by omega)]
theorem zp {α : Type} {l : List α} {i : Int} (h : ¬ i < l.length) : l.drop i.toNat = [] := List.drop_eq_nil_of_le (by omega)
theorem vv {l : List Int} {i : Int} (h0 : 0 ≤ i) (h : i < l.length) : gi l i ∈ l := by
 have : gi l i = l[i.toNat]'(by omega) := by simp [gi, List.getD, List.getElem?_eq_getElem (show i.toNat < l.length by omega)]
 rw [this]
 exact List.getElem_mem _
theorem gi_set {l : List Int} {p q : Int} {n : Int} (h0 : 0 ≤ p) (h1 : 0 ≤ q) (h : p < l.length) : gi (l.set p.toNat n) q = if q = p then n else gi l q := by
 unfold gi
 simp only [List.getD_eq_getElem?_getD, List.getElem?_set]
 by_cases e : q = p
 ·subst e
  rw [if_pos rfl, if_pos (by omega), if_pos rfl]; rfl
 ·rw [if_neg (by omega), if_neg e]
theorem qS {α : Type} {l : List α} {j : Nat} (h : j < l.length) : lget l (j : Int) = some l[j] := by
 rw [jh (by omega) (by omega)]
 simp
theorem qV {n : Int} (h : -9223372036854775808 ≤ n) (h' : n ≤ 9223372036854775807) : wrap .i64 n = n := IntWalk.i64_in n ⟨h, h'⟩
attribute [simp] cnd obind ile ilt ieq beq' bnot band iadd isub imul irem ltake ldrop lapp lset lrep odef ois scase ilen_eq Bool.cond_eq_ite
end Go.Sx
namespace Go.Sx
open Go
def upW (ws : List Place) (i : Nat) : Place := ws.getD i ⟨0, 0⟩
inductive Dep (ws : List Place) : Place → Nat → Prop
 | base (p : Place) (h : p.kind ≠ 2) : Dep ws p 0
 | step (p : Place) (h : p.kind = 2) (d : Nat) (t : Dep ws (upW ws p.id.toNat) d) : Dep ws p (d + 1)
theorem Dep.inj {ws : List Place} {p : Place} {d e : Nat} (h : Dep ws p d) (h' : Dep ws p e) : d = e := by
 induction h generalizing e with
 | base p h => cases h' with
   | base _ _ => rfl
   | step _ h' _ _ => exact absurd h' h
 | step p h d t ih => cases h' with
   | base _ h' => exact absurd h h'
   | step _ _ e t' => rw [ih t']
inductive InW (ws : List Place) (b : Nat) : Nat → Prop
 | refl : InW ws b b
 | step (i : Nat) (h : (upW ws i).kind = 2) (t : InW ws b (upW ws i).id.toNat) : InW ws b i
theorem zN {ws : List Place} {i j : Nat} {p : Place} (h : j ≠ i) : upW (ws.set i p) j = upW ws j := by
 unfold upW
 rw [List.getD_eq_getElem?_getD, List.getD_eq_getElem?_getD, List.getElem?_set_ne (Ne.symm h)]
theorem Ks {ws : List Place} {i : Nat} {p : Place} (h : i < ws.length) : upW (ws.set i p) i = p := by
 unfold upW
 rw [List.getD_eq_getElem?_getD, List.getElem?_set_self h]
 rfl
theorem KW {ws : List Place} {it : Nat} {p : Place} {j d : Nat} (hj : ¬ InW ws it j) (h : Dep ws (upW ws j) d) : Dep (ws.set it p) (upW (ws.set it p) j) d := by
 have hne : j ≠ it := fun e => hj (e ▸ .refl)
 rw [zN hne]
 generalize hq : upW ws j = q at h
 induction h generalizing j with
 | base q h => exact .base q h
 | step q h d t ih =>
   have hin : ¬ InW ws it q.id.toNat := fun e => hj (.step j (by rw [hq]; exact h) (by rw [hq]; exact e))
   have hne' : q.id.toNat ≠ it := fun e => hin (e ▸ .refl)
   refine .step q h d ?_
   rw [zN hne']
   exact ih hin hne' rfl
theorem Zd {ws : List Place} {it bx : Nat} {j d d0 db : Nat} (hit : it < ws.length) (hb : ¬ InW ws it bx) (hbx : Dep ws (upW ws bx) db) (h0 : Dep ws (upW ws it) d0) (hj : InW ws it j) (hd : Dep ws (upW ws j) d) :
  d0 ≤ d ∧ Dep (ws.set it ⟨2, (bx : Int)⟩) (upW (ws.set it ⟨2, (bx : Int)⟩) j) (d - d0 + db + 1) := by
 have top : Dep (ws.set it ⟨2, (bx : Int)⟩) (upW (ws.set it ⟨2, (bx : Int)⟩) it) (db + 1) := by
  rw [Ks hit]
  refine .step _ rfl db ?_
  rw [show ((⟨2, (bx : Int)⟩ : Place).id.toNat) = bx from Int.toNat_natCast bx]
  exact KW hb hbx
 induction hj generalizing d with
 | refl =>
   have := hd.inj h0
   subst this
   exact ⟨Nat.le_refl _, by rw [Nat.sub_self, Nat.zero_add]; exact top⟩
 | step i h t ih =>
   by_cases e : i = it
   ·subst e
    have := hd.inj h0
    subst this
    exact ⟨Nat.le_refl _, by rw [Nat.sub_self, Nat.zero_add]; exact top⟩
   ·cases hd with
    | base _ h' => exact absurd h h'
    | step _ _ d t' =>
      obtain ⟨h1, h2⟩ := ih t'
      refine ⟨by omega, ?_⟩
      rw [zN e, show d + 1 - d0 + db + 1 = (d - d0 + db + 1) + 1 by omega]
      refine .step _ h _ h2
theorem qlo {ws : List Place} {it bx d0 db H : Nat} (hit : it < ws.length) (hb : ¬ InW ws it bx) (hbx : Dep ws (upW ws bx) db) (h0 : Dep ws (upW ws it) d0)
  (hall : ∀ j, j < ws.length → ∃ d, d ≤ 4 ∧ Dep ws (upW ws j) d)
  (hH : (∀ j d, j < ws.length → InW ws it j → Dep ws (upW ws j) d → d - d0 ≤ H) ∧ ∃ j d, j < ws.length ∧ InW ws it j ∧ Dep ws (upW ws j) d ∧ d - d0 = H) :
  (∃ j d, j < ws.length ∧ Dep (ws.set it ⟨2, (bx : Int)⟩) (upW (ws.set it ⟨2, (bx : Int)⟩) j) d ∧ 4 < d) ↔ 4 < db + 1 + H := by
 constructor
 ·rintro ⟨j, d, hj, hd, h4⟩
  obtain ⟨e, he4, he⟩ := hall j hj
  by_cases hin : InW ws it j
  ·obtain ⟨_, h2⟩ := Zd hit hb hbx h0 hin he
   have := hd.inj h2
   have := hH.1 j e hj hin he
   omega
  ·have := hd.inj (KW hin he)
   omega
 ·intro h
  obtain ⟨j, d, hj, hin, hd, hdd⟩ := hH.2
  obtain ⟨_, h2⟩ := Zd hit hb hbx h0 hin hd
  exact ⟨j, _, hj, h2, by omega⟩
def manyW (ws : List Place) (p : Place) : Nat := ws.countP (fun x => decide (x = p))
theorem zO {ws : List Place} {i : Nat} (h : i < ws.length) : upW ws i = ws[i] := by
 unfold upW
 rw [List.getD_eq_getElem?_getD, List.getElem?_eq_getElem h]
 rfl
theorem QI (p q : Place) : ∀ (ws : List Place) (i : Nat), i < ws.length → manyW (ws.set i q) p + (if upW ws i = p then 1 else 0) = manyW ws p + (if q = p then 1 else 0)
 | [], i, h => by simp at h
 | a :: r, 0, _ => by
   simp only [List.set_cons_zero, manyW, List.countP_cons, upW, List.getD_cons_zero, decide_eq_true_eq]
   omega
 | a :: r, i + 1, h => by
   have := QI p q r i (by simpa using h)
   simp only [List.set_cons_succ, manyW, List.countP_cons, decide_eq_true_eq] at this ⊢
   have e : upW (a :: r) (i + 1) = upW r i := by simp [upW]
   rw [e]
   omega
def mvW (ws : List Place) (l : List Nat) (to : Place) : List Place := l.foldl (fun ws i => ws.set i to) ws
theorem mv_nil (ws : List Place) (to : Place) : mvW ws [] to = ws := rfl
theorem Z7 (ws : List Place) (i : Nat) (l : List Nat) (to : Place) : mvW ws (i :: l) to = mvW (ws.set i to) l to := rfl
theorem qbv (to : Place) : ∀ (l : List Nat) (ws : List Place), (mvW ws l to).length = ws.length
 | [], _ => rfl
 | i :: l, ws => by rw [Z7, qbv to l]; simp
theorem Ny (to : Place) : ∀ (l : List Nat) (ws : List Place) (j : Nat), j ∉ l → upW (mvW ws l to) j = upW ws j
 | [], _, _, _ => rfl
 | i :: l, ws, j, h => by
   rw [Z7, Ny to l _ j (fun h' => h (List.mem_cons_of_mem _ h')), zN (fun e : j = i => h (by rw [e]; exact List.mem_cons_self))]
theorem DC (frm to : Place) (hne : frm ≠ to) : ∀ (l : List Nat) (ws : List Place), l.Nodup → (∀ i ∈ l, i < ws.length ∧ upW ws i = frm) →
  manyW (mvW ws l to) frm + l.length = manyW ws frm ∧ manyW (mvW ws l to) to = manyW ws to + l.length ∧ ∀ p, p ≠ frm → p ≠ to → manyW (mvW ws l to) p = manyW ws p
 | [], ws, _, _ => by simp [mv_nil]
 | i :: l, ws, hn, h => by
   obtain ⟨hi, hf⟩ := h i List.mem_cons_self
   rw [List.nodup_cons] at hn
   have ih := DC frm to hne l (ws.set i to) hn.2 (fun k hk => by
    have := h k (List.mem_cons_of_mem _ hk)
    rw [List.length_set, zN (fun e : k = i => hn.1 (by rw [← e]; exact hk))]
    exact this)
   have s1 := QI frm to ws i hi
   have s2 := QI to to ws i hi
   rw [hf] at s1 s2
   rw [if_pos rfl, if_neg (Ne.symm hne)] at s1
   rw [if_neg hne, if_pos rfl] at s2
   rw [Z7, List.length_cons]
   refine ⟨by omega, by omega, fun p h1 h2 => ?_⟩
   have s3 := QI p to ws i hi
   rw [hf, if_neg (Ne.symm h1), if_neg (Ne.symm h2)] at s3
   rw [ih.2.2 p h1 h2]
   omega
end Go.Sx
namespace Go.Sx
open Go
section
variable {W : Type} (n : Nat) (ahead : Nat → Nat → Prop) (ans : Nat → Prop) (stp : W → Nat → W × Bool)
def Yl (o : List Nat) : Prop := o.Nodup ∧ (∀ x ∈ o, x < n) ∧ o.Pairwise (fun a b => ¬ ahead b a) ∧ ∀ c, c < n → ans c → c ∈ o
def JU : W → List Nat → Option W
 | w, [] => some w
 | w, x :: r => if (stp w x).2 = true then JU (stp w x).1 r else none
def Jd (w : W) (o : List Nat) : Prop := Yl n ahead ans o ∧ (JU stp w o).isSome = true
def qes (o : List Nat) (x : Nat) : Prop := x ∈ o ∨ ∃ m, m < n ∧ m ≠ x ∧ ahead m x ∧ m ∉ o
theorem Zz (w : W) (a b : List Nat) : JU stp w (a ++ b) = (JU stp w a).bind fun v => JU stp v b := by
 induction a generalizing w with
 | nil => rfl
 | cons x r ih =>
   simp only [List.cons_append, JU]
   split
   ·exact ih _
   ·rfl
open Classical in
noncomputable def gB : Nat → W → List Nat → Option (List Nat)
 | 0, _, o => if Yl n ahead ans o then some o else none
 | f + 1, w, o => if Yl n ahead ans o then some o else (List.range n).findSome? fun x => if qes n ahead o x then none else if (stp w x).2 = true then gB f (stp w x).1 (o ++ [x]) else none
theorem Zc (w0 : W) : ∀ (f : Nat) (w : W) (o p : List Nat), JU stp w0 o = some w → gB n ahead ans stp f w o = some p → Jd n ahead ans stp w0 p
 | 0, w, o, p, hr, h => by
   unfold gB at h
   split at h
   ·rename_i hw
    cases h
    exact ⟨hw, by rw [hr]; rfl⟩
   ·cases h
 | f + 1, w, o, p, hr, h => by
   unfold gB at h
   split at h
   ·rename_i hw
    cases h
    exact ⟨hw, by rw [hr]; rfl⟩
   ·obtain ⟨x, _, hx⟩ := List.exists_of_findSome?_eq_some h
    split at hx
    ·cases hx
    ·split at hx
     ·rename_i hs
      refine Zc w0 f _ _ p ?_ hx
      rw [Zz, hr]
      simp [JU, hs]
     ·cases hx
theorem JM (ha : ∀ m x, ahead m x → ans m) (w0 : W) : ∀ (ext : List Nat) (f : Nat) (w : W) (o : List Nat), ext.length ≤ f → JU stp w0 o = some w → Jd n ahead ans stp w0 (o ++ ext) → (gB n ahead ans stp f w o).isSome = true
 | [], f, w, o, _, hr, hg => by
   rw [List.append_nil] at hg
   cases f <;> unfold gB <;> rw [if_pos hg.1] <;> rfl
 | x :: r, 0, _, _, h, _, _ => by simp at h
 | x :: r, f + 1, w, o, hf, hr, hg => by
   unfold gB
   split
   ·rfl
   ·obtain ⟨⟨g1, g2, g3, g4⟩, g5⟩ := hg
    have hx : x ∉ o := fun h => by
     rw [List.nodup_append] at g1
     exact g1.2.2 x h x List.mem_cons_self rfl
    have hl : ¬ qes n ahead o x := by
     rintro (h | ⟨m, hm, hne, hah, hno⟩)
     ·exact hx h
     ·have hin := g4 m hm (ha m x hah)
      rcases List.mem_append.1 hin with h | h
      ·exact hno h
      ·rcases List.mem_cons.1 h with h | h
       ·exact hne h
       ·have := (List.pairwise_append.1 g3).2.1
        exact (List.pairwise_cons.1 this).1 m h hah
    have hs : (stp w x).2 = true := by
     rw [Zz, hr] at g5
     simp only [Option.bind_some, JU] at g5
     split at g5
     ·assumption
     ·cases g5
    have ih := JM ha w0 r f (stp w x).1 (o ++ [x]) (by simpa using hf) (by rw [Zz, hr]; simp [JU, hs]) (by
     rw [List.append_assoc]
     exact ⟨⟨g1, g2, g3, g4⟩, g5⟩)
    rw [List.findSome?_isSome_iff]
    refine ⟨x, List.mem_range.2 (g2 x (by simp)), ?_⟩
    rw [if_neg hl, if_pos hs]
    exact ih
def va (w0 : W) (o : List Nat) : Prop := o.Pairwise (fun a b => ¬ ahead b a) ∧ (JU stp w0 o).isSome = true
open Classical in
noncomputable def JG (w0 : W) : Nat → List Nat → Bool
 | 0, o => decide (Jd n ahead ans stp w0 o)
 | f + 1, o => decide (Jd n ahead ans stp w0 o) || (List.range n).any fun x => decide (x ∉ o) && (decide (va ahead stp w0 (o ++ [x])) && JG w0 f (o ++ [x]))
open Classical in
theorem BT (w0 : W) : ∀ (f : Nat) (o : List Nat), JG n ahead ans stp w0 f o = true → ∃ ext, Jd n ahead ans stp w0 (o ++ ext)
 | 0, o, h => ⟨[], by unfold JG at h; rw [List.append_nil]; exact of_decide_eq_true h⟩
 | f + 1, o, h => by
   unfold JG at h
   rcases Bool.or_eq_true_iff.1 h with h | h
   ·exact ⟨[], by rw [List.append_nil]; exact of_decide_eq_true h⟩
   ·obtain ⟨x, _, hx⟩ := List.any_eq_true.1 h
    rw [Bool.and_eq_true, Bool.and_eq_true] at hx
    obtain ⟨ext, he⟩ := BT w0 f (o ++ [x]) hx.2.2
    exact ⟨x :: ext, by rw [List.append_assoc] at he; exact he⟩
open Classical in
theorem Kg (w0 : W) : ∀ (ext : List Nat) (f : Nat) (o : List Nat), ext.length ≤ f → Jd n ahead ans stp w0 (o ++ ext) → JG n ahead ans stp w0 f o = true
 | [], f, o, _, hg => by
   rw [List.append_nil] at hg
   cases f <;> unfold JG
   ·exact decide_eq_true hg
   ·rw [decide_eq_true hg, Bool.true_or]
 | x :: r, 0, _, h, _ => by simp at h
 | x :: r, f + 1, o, hf, hg => by
   unfold JG
   rw [Bool.or_eq_true]
   refine .inr (List.any_eq_true.2 ⟨x, List.mem_range.2 (hg.1.2.1 x (by simp)), ?_⟩)
   have hx : x ∉ o := fun h => by
    have g1 := hg.1.1
    rw [List.nodup_append] at g1
    exact g1.2.2 x h x List.mem_cons_self rfl
   have e : o ++ x :: r = (o ++ [x]) ++ r := by simp
   rw [e] at hg
   have hb : va ahead stp w0 (o ++ [x]) := ⟨(List.pairwise_append.1 hg.1.2.2.1).1, by
    have := hg.2
    rw [Zz] at this
    cases h : JU stp w0 (o ++ [x]) with
    | none => rw [h] at this; cases this
    | some v => rfl⟩
   rw [Kg w0 r f (o ++ [x]) (by simpa using hf) hg]
   simp [hx, hb]
theorem gv : ∀ (n : Nat) (o : List Nat), o.Nodup → (∀ x ∈ o, x < n) → o.length ≤ n := fun n o h1 h2 => by
 have := h1.length_le_of_subset (l₂ := List.range n) (fun x hx => List.mem_range.2 (h2 x hx))
 simpa using this
open Classical in
theorem qlb (ha : ∀ m x, ahead m x → ans m) (w0 : W) (f g : Nat) (hf : n ≤ f) (hg : n ≤ g) : (gB n ahead ans stp f w0 []).isSome = JG n ahead ans stp w0 g [] := by
 rw [Bool.eq_iff_iff]
 constructor
 ·intro h
  obtain ⟨p, hp⟩ := Option.isSome_iff_exists.1 h
  have := Zc n ahead ans stp w0 f w0 [] p rfl hp
  exact Kg n ahead ans stp w0 p g [] (Nat.le_trans (gv n p this.1.1 this.1.2.1) hg) this
 ·intro h
  obtain ⟨p, hp⟩ := BT n ahead ans stp w0 g [] h
  exact JM n ahead ans stp ha w0 p f w0 [] (Nat.le_trans (gv n p hp.1.1 hp.1.2.1) hf) rfl hp
end
end Go.Sx
namespace Go.Sx
open Go
def okV : Kd → Value → Bool
 | .int k, .int k' _ => decide (k' = k)
 | .bool, .bool _ => true
 | .str, .string _ => true
 | _, _ => false
def kB : List Kd → List Value → Bool
 | [], [] => true
 | k :: ks, v :: vs => okV k v && kB ks vs
 | _, _ => false
def veq : Value → Value → Bool
 | .int _ a, .int _ b => a == b
 | .bool a, .bool b => a == b
 | .string a, .string b => a.toList == b.toList
 | _, _ => false
def gb : List Value → List Value → Bool
 | x :: xs, y :: ys => veq x y && gb xs ys
 | _, _ => true
def eqfs (E : TypeId → Option (List Kd)) (P : Program) : List Field → Nat → Option (List Kd)
 | [], _ => some []
 | f :: fs, off => bif (f.name != "_") && Nat.beq f.offset off then (E f.type).bind fun ks => bif Nat.beq (P.cellsOf f.type) ks.length then (eqfs E P fs (off + ks.length)).bind fun r => some (ks ++ r) else none else none
def eqk (P : Program) : Nat → TypeId → Option (List Kd)
 | 0, _ => none
 | n + 1, t => bif (P.info? t).isSome then (match P.underlying t with
   | some (.int k) => some [.int k]
   | some .bool => some [.bool]
   | some .string => some [.str]
   | some (.struct fs) => bif P.stoodInHeld t then none else eqfs (eqk P n) P fs.toList 0
   | some (.array m e) => (eqk P n e).bind fun ks => bif Nat.beq (P.cellsOf e) ks.length then some (List.replicate m ks).flatten else none
   | _ => none) else none
def vL (P : Program) (t : TypeId) (xs : List Value) : Value :=
 match P.underlying t with
 | some (.struct _) => .agg xs.toArray
 | some (.array _ _) => .agg xs.toArray
 | _ => xs.headD undef
theorem zl : ∀ {ks : List Kd} {xs : List Value}, kB ks xs = true → xs.length = ks.length
 | [], [], _ => rfl
 | k :: ks, v :: vs, h => by
   simp only [kB, Bool.and_eq_true] at h
   simp [zl h.2]
 | [], _ :: _, h => by simp [kB] at h
 | _ :: _, [], h => by simp [kB] at h
theorem vp : ∀ {k1 k2 : List Kd} {xs : List Value}, kB (k1 ++ k2) xs = true → kB k1 (xs.take k1.length) = true ∧ kB k2 (xs.drop k1.length) = true
 | [], k2, xs, h => by simpa [kB] using h
 | k :: k1, k2, [], h => by simp [kB] at h
 | k :: k1, k2, x :: xs, h => by
   simp only [List.cons_append, kB, Bool.and_eq_true] at h
   obtain ⟨h1, h2⟩ := vp h.2
   simp only [List.length_cons, List.take_succ_cons, List.drop_succ_cons, kB, Bool.and_eq_true]
   exact ⟨⟨h.1, h1⟩, h2⟩
theorem GD (m : Nat) : ∀ (xs ys : List Value), xs.length = ys.length → gb xs ys = (gb (xs.take m) (ys.take m) && gb (xs.drop m) (ys.drop m)) := by
 induction m with
 | zero => intro xs ys _; simp [gb]
 | succ m ih =>
   intro xs ys h
   match xs, ys, h with
   | [], [], _ => simp [gb]
   | x :: xs, y :: ys, h =>
     simp only [List.take_succ_cons, List.drop_succ_cons, gb]
     rw [ih xs ys (by simpa using h), Bool.and_assoc]
   | [], _ :: _, h => simp at h
   | _ :: _, [], h => simp at h
theorem UQ {P : Program} {n : Nat} {t : TypeId} {ks : List Kd} (h : eqk P n t = some ks) : ∃ i, P.info? t = some i := by
 cases n with
 | zero => cases h
 | succ n =>
   unfold eqk at h
   cases hi : P.info? t with
   | none => rw [hi] at h; cases h
   | some i => exact ⟨i, rfl⟩
theorem vI {P : Program} {n : Nat} {e : TypeId} {ks : List Kd} (hk : eqk P n e = some ks) (hc : P.cellsOf e = ks.length) {xs : List Value} {off : Nat} (hok : kB ks ((xs.drop off).take ks.length) = true) (w : GW) :
  (part e xs.toArray off).run P w = .ok (vL P e ((xs.drop off).take ks.length)) w := by
 obtain ⟨i, hi⟩ := UQ hk
 have hlen := zl hok
 cases n with
 | zero => cases hk
 | succ n =>
   unfold eqk at hk
   rw [hi] at hk
   simp only [Option.isSome_some, cond_true] at hk
   have leaf : ∀ k, ks = [k] → (∀ d, P.underlying e = some d → (match d with | .struct _ => False | .array _ _ => False | _ => True)) → (∃ d, P.underlying e = some d) → (part e xs.toArray off).run P w = .ok (vL P e ((xs.drop off).take ks.length)) w := by
    intro k hk1 hna ⟨d, hd⟩
    subst hk1
    simp only [List.length_singleton, List.length_take, List.length_drop] at hlen
    have hlt : off < xs.length := by omega
    have hp := hna d hd
    have e1 : (xs.drop off).take [k].length = [xs[off]] := by
     rw [List.drop_eq_getElem_cons hlt]; rfl
    rw [e1]
    unfold vL
    rw [hd]
    cases d <;> simp at hp <;> simp [part, isAgg, run_underlying hd, hlt]
   have agg : (∃ d, P.underlying e = some d ∧ (match d with | .struct _ => True | .array _ _ => True | _ => False)) → (part e xs.toArray off).run P w = .ok (vL P e ((xs.drop off).take ks.length)) w := by
    rintro ⟨d, hd, hp⟩
    have e1 : xs.toArray.extract off (off + ks.length) = ((xs.drop off).take ks.length).toArray := by
     apply Array.ext'
     simp [List.take_drop]
    unfold vL
    rw [hd]
    cases d <;> simp at hp <;> simp [part, isAgg, run_underlying hd, run_sizeOf _ hi, hc, e1]
   split at hk
   ·rename_i k hu; cases hk; exact leaf _ rfl (fun d hd => by rw [hu] at hd; cases hd; trivial) ⟨_, hu⟩
   ·rename_i hu; cases hk; exact leaf _ rfl (fun d hd => by rw [hu] at hd; cases hd; trivial) ⟨_, hu⟩
   ·rename_i hu; cases hk; exact leaf _ rfl (fun d hd => by rw [hu] at hd; cases hd; trivial) ⟨_, hu⟩
   ·rename_i fs hu; exact agg ⟨_, hu, trivial⟩
   ·rename_i m e' hu; exact agg ⟨_, hu, trivial⟩
   ·cases hk
def EqIn (P : Program) (n : Nat) : Prop := ∀ (t : TypeId) (ks : List Kd), eqk P n t = some ks → ∀ d, n ≤ d → ∀ (w : GW) (xs ys : List Value), kB ks xs = true → kB ks ys = true → (Op.equalIn d t (vL P t xs) (vL P t ys)).run P w = .ok (gb xs ys) w
theorem B9 {P : Program} {n : Nat} (ih : EqIn P n) {d : Nat} (hd : n ≤ d) (w : GW) {xs ys : List Value} : ∀ (fs : List Field) (off : Nat) (ks : List Kd), eqfs (eqk P n) P fs off = some ks → kB ks (xs.drop off) = true → kB ks (ys.drop off) = true →
  (Op.eqFields d xs.toArray ys.toArray fs).run P w = .ok (gb (xs.drop off) (ys.drop off)) w
 | [], off, ks, h, hx, hy => by
   cases h
   have h1 := zl hx
   have h2 := zl hy
   have e1 : xs.drop off = [] := List.eq_nil_of_length_eq_zero h1
   have e2 : ys.drop off = [] := List.eq_nil_of_length_eq_zero h2
   rw [e1, e2]
   simp [Op.eqFields, gb]
 | f :: fs, off, ks, h, hx, hy => by
   unfold eqfs at h
   replace h := qr h
   obtain ⟨hb, h⟩ := h
   simp only [Bool.and_eq_true] at hb
   obtain ⟨hb1, hb2⟩ := hb
   have hoff := Nat.eq_of_beq_eq_true hb2
   obtain ⟨k1, hk1, h⟩ := Option.bind_eq_some_iff.1 h
   replace h := qr h
   obtain ⟨hc, h⟩ := h
   have hc := Nat.eq_of_beq_eq_true hc
   obtain ⟨k2, hk2, h⟩ := Option.bind_eq_some_iff.1 h
   cases h
   obtain ⟨x1, x2⟩ := vp hx
   obtain ⟨y1, y2⟩ := vp hy
   rw [List.drop_drop] at x2 y2
   have hr := B9 ih hd w fs (off + k1.length) k2 hk2 x2 y2
   have hlen : (xs.drop off).length = (ys.drop off).length := by rw [zl hx, zl hy]
   have hname : f.name ≠ "_" := by simpa using hb1
   simp only [Op.eqFields, hname, ne_eq, not_false_eq_true, if_true, Sem.run_bind]
   rw [hoff, vI hk1 hc x1 w]
   simp only [Result.andThen_ok]
   rw [vI hk1 hc y1 w]
   simp only [Result.andThen_ok]
   rw [ih f.type k1 hk1 d hd w _ _ x1 y1]
   simp only [Result.andThen_ok]
   rw [GD k1.length _ _ hlen, List.drop_drop, List.drop_drop]
   cases gb ((xs.drop off).take k1.length) ((ys.drop off).take k1.length) with
   | false => simp
   | true => simp; exact hr
theorem NI {P : Program} {n : Nat} (ih : EqIn P n) {d : Nat} (hd : n ≤ d) (w : GW) {xs ys : List Value} {e : TypeId} {k : List Kd} (hk : eqk P n e = some k) (hc : P.cellsOf e = k.length) : ∀ (m q : Nat), kB (List.replicate m k).flatten (xs.drop (q * k.length)) = true → kB (List.replicate m k).flatten (ys.drop (q * k.length)) = true →
  (Op.eqItems d e (P.cellsOf e) xs.toArray ys.toArray (List.range' q m)).run P w = .ok (gb (xs.drop (q * k.length)) (ys.drop (q * k.length))) w
 | 0, q, hx, hy => by
   have h1 := zl hx
   have h2 := zl hy
   simp only [List.replicate_zero, List.flatten_nil, List.length_nil] at h1 h2
   have e1 : xs.drop (q * k.length) = [] := List.eq_nil_of_length_eq_zero h1
   have e2 : ys.drop (q * k.length) = [] := List.eq_nil_of_length_eq_zero h2
   rw [e1, e2]
   simp [Op.eqItems, gb]
 | m + 1, q, hx, hy => by
   rw [List.replicate_succ, List.flatten_cons] at hx hy
   have hlen : (xs.drop (q * k.length)).length = (ys.drop (q * k.length)).length := by rw [zl hx, zl hy]
   obtain ⟨x1, x2⟩ := vp hx
   obtain ⟨y1, y2⟩ := vp hy
   rw [List.drop_drop] at x2 y2
   have e1 : q * k.length + k.length = (q + 1) * k.length := by rw [Nat.add_mul]; omega
   rw [e1] at x2 y2
   have hr := NI ih hd w hk hc m (q + 1) x2 y2
   rw [List.range'_succ]
   simp only [Op.eqItems, Sem.run_bind]
   rw [hc, vI hk hc x1 w]
   simp only [Result.andThen_ok]
   rw [vI hk hc y1 w]
   simp only [Result.andThen_ok]
   rw [ih e k hk d hd w _ _ x1 y1]
   simp only [Result.andThen_ok]
   rw [GD k.length _ _ hlen, List.drop_drop, List.drop_drop, e1]
   rw [hc] at hr
   cases gb ((xs.drop (q * k.length)).take k.length) ((ys.drop (q * k.length)).take k.length) with
   | false => simp
   | true => simp; exact hr
theorem qlj (P : Program) : ∀ n, EqIn P n
 | 0 => fun t ks h => by cases h
 | n + 1 => by
   intro t ks h d hd w xs ys hx hy
   obtain ⟨i, hi⟩ := UQ h
   obtain ⟨d, rfl⟩ : ∃ d', d = d' + 1 := ⟨d - 1, by omega⟩
   unfold eqk at h
   rw [hi] at h
   simp only [Option.isSome_some, cond_true] at h
   have one : ∀ {k : Kd} {zs : List Value}, kB [k] zs = true → ∃ v, zs = [v] ∧ okV k v = true := by
    intro k zs hz
    match zs, hz with
    | [v], hz => exact ⟨v, rfl, by simpa [kB] using hz⟩
    | [], hz => simp [kB] at hz
    | _ :: _ :: _, hz => simp [kB] at hz
   split at h
   ·rename_i k hu
    cases h
    obtain ⟨v, rfl, hv⟩ := one hx
    obtain ⟨u, rfl, hv'⟩ := one hy
    cases v <;> simp [okV] at hv
    cases u <;> simp [okV] at hv'
    subst hv hv'
    unfold vL
    rw [hu]
    simp only [List.headD_cons]
    rw [run_equalIn_int w d t _ _ _ _ hu]
    simp [gb, veq]
   ·rename_i hu
    cases h
    obtain ⟨v, rfl, hv⟩ := one hx
    obtain ⟨u, rfl, hv'⟩ := one hy
    cases v <;> simp [okV] at hv
    cases u <;> simp [okV] at hv'
    unfold vL
    rw [hu]
    simp only [List.headD_cons]
    rw [run_equalIn_bool' w d t _ _ hu]
    simp [gb, veq]
   ·rename_i hu
    cases h
    obtain ⟨v, rfl, hv⟩ := one hx
    obtain ⟨u, rfl, hv'⟩ := one hy
    cases v <;> simp [okV] at hv
    cases u <;> simp [okV] at hv'
    unfold vL
    rw [hu]
    simp only [List.headD_cons]
    rw [run_equalIn_string w d t _ _ hu]
    simp [gb, veq]
   ·rename_i fs hu
    obtain ⟨hp, h⟩ : P.stoodInHeld t = false ∧ eqfs (eqk P n) P fs.toList 0 = some ks := by
     cases hs : P.stoodInHeld t with
     | true => rw [hs] at h; cases h
     | false => rw [hs] at h; exact ⟨rfl, h⟩
    have hf : P.fieldsOf t = fs := by unfold Program.fieldsOf; rw [hu]
    unfold vL
    rw [hu]
    simp only
    rw [run_equalIn_struct w d t _ _ (by rw [hf]; exact hu) hp, hf]
    have := B9 (qlj P n) (d := d) (by omega) w (xs := xs) (ys := ys) fs.toList 0 ks h (by simpa using hx) (by simpa using hy)
    simpa using this
   ·rename_i m e hu
    obtain ⟨k, hk, h⟩ := Option.bind_eq_some_iff.1 h
    replace h := qr h
    obtain ⟨hc, h⟩ := h
    cases h
    have hc := Nat.eq_of_beq_eq_true hc
    obtain ⟨ie, hie⟩ := UQ hk
    unfold vL
    rw [hu]
    simp only
    rw [run_equalIn_array w d _ _ hu hie, List.range_eq_range']
    have := NI (qlj P n) (d := d) (by omega) w (xs := xs) (ys := ys) hk hc m 0 (by simpa using hx) (by simpa using hy)
    simpa using this
   ·cases h
theorem qih {b c : Bool} (h : (bif b then c else false) = true) : b = true ∧ c = true := by cases b <;> simp_all
theorem D8 : ∀ {ks : List Kd} {cs : List AV} {xs : List Value}, VK ks cs = true → cs.map AV.val = xs.map some → kB ks xs = true
 | [], [], xs, _, hv => by
   have : xs = [] := by simpa using hv.symm
   subst this; rfl
 | k :: ks, v :: vs, [], h, hv => by simp at hv
 | k :: ks, v :: vs, x :: xs, h, hv => by
   simp only [List.map_cons, List.cons.injEq] at hv
   have step : okV k x = true → VK ks vs = true → kB (k :: ks) (x :: xs) = true := fun h1 h2 => by
    simp only [kB, Bool.and_eq_true]
    exact ⟨h1, D8 h2 hv.2⟩
   cases k <;> cases v <;> simp only [VK, Bool.false_eq_true] at h
   ·replace h := qih h
    obtain ⟨hk, h⟩ := h
    have e := hv.1
    simp only [AV.val, Option.some.injEq] at e
    subst e
    exact step hk h
   ·have e := hv.1
    simp only [AV.val, Option.some.injEq] at e
    subst e
    exact step rfl h
   ·have e := hv.1
    simp only [AV.val, Option.some.injEq] at e
    subst e
    exact step rfl h
 | [], _ :: _, _, h, _ => by simp [VK] at h
 | k :: _, [], _, h, _ => by cases k <;> simp [VK] at h
theorem UY {a b : AV} {c : Bool} {x y : Value} (h : QW a b = some c) (hx : a.val = some x) (hy : b.val = some y) : c = veq x y := by
 unfold QW at h
 split at h
 ·split at h
  ·cases h; cases hx; cases hy; rfl
  ·cases h
 ·cases h; cases hx; cases hy; rfl
 ·rename_i s s'
  cases h; cases hx; cases hy
  simp only [veq, seq, ByteArray.toList_eq]
  by_cases e : s = s' <;> simp [e]
 ·cases h
theorem ZZ : ∀ {cs ds : List AV} {b : Bool} {xs ys : List Value}, jy cs ds = some b → cs.map AV.val = xs.map some → ds.map AV.val = ys.map some → b = gb xs ys
 | [], [], b, xs, ys, h, hx, hy => by
   have e1 : xs = [] := by simpa using hx.symm
   have e2 : ys = [] := by simpa using hy.symm
   subst e1 e2
   simp [jy] at h
   subst h; rfl
 | [a], [c], b, [x], [y], h, hx, hy => by
   simp only [List.map_cons, List.map_nil, List.cons.injEq, and_true] at hx hy
   have := UY (show QW a c = some b from h) hx hy
   simp [gb, this]
 | a :: a' :: r, c :: s, b, x :: xs, y :: ys, h, hx, hy => by
   simp only [jy, Option.bind_eq_some_iff, Option.some.injEq] at h
   obtain ⟨p, hp, q, hq, rfl⟩ := h
   rw [List.map_cons, List.map_cons] at hx hy
   have h1 := UY hp (List.cons.inj hx).1 (List.cons.inj hy).1
   have h2 := ZZ hq (List.cons.inj hx).2 (List.cons.inj hy).2
   simp [gb, band, h1, h2]
 | [a], c :: c' :: s, b, _, _, h, _, _ => by
   simp only [jy, Option.bind_eq_some_iff] at h
   obtain ⟨_, _, _, hy, _⟩ := h
   simp [jy] at hy
 | [], _ :: _, _, _, _, h, _, _ => by simp [jy] at h
 | _ :: _, [], _, _, _, h, _, _ => by simp [jy] at h
 | [a], [c], _, [], _, _, hx, _ => by simp at hx
 | [a], [c], _, _ :: _ :: _, _, _, hx, _ => by simp at hx
 | [a], [c], _, [x], [], _, _, hy => by simp at hy
 | [a], [c], _, [x], _ :: _ :: _, _, _, hy => by simp at hy
 | _ :: _ :: _, _ :: _, _, [], _, _, hx, _ => by simp at hx
 | _ :: _ :: _, _ :: _, _, _ :: _, [], _, _, hy => by simp at hy
def qks (P : Program) (t : TypeId) : Bool := match P.underlying t with
 | some (.struct _) => true
 | some (.array _ _) => true
 | _ => false
theorem vd {P : Program} {t : TypeId} {ks : List Kd} (hk : eqk P 9 t = some ks) (ha : qks P t = true) (hg : P.eqGuardType P.depth t = false) : EqFact P t ks := by
 intro w cs ds xs ys b hb h1 h2 hx hy
 have hxs := D8 h1 hx
 have hys := D8 h2 hy
 refine ⟨?_, fun op x y => run_eqGuard_agg w op t x y _ _ hg⟩
 have := qlj P 9 t ks hk 10000 (by omega) w xs ys hxs hys
 rw [ZZ hb hx hy]
 have e : ∀ zs : List Value, vL P t zs = .agg zs.toArray := by
  intro zs
  unfold qks at ha
  unfold vL
  split at ha <;> first | rfl | (cases ha)
 rw [e, e] at this
 exact this
end Go.Sx
